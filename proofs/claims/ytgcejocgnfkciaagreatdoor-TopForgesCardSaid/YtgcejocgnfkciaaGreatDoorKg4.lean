import Derived.Test.YtgcejocgnfkciaaGreatDoorKg3
set_option linter.unusedSimpArgs false
set_option linter.unusedVariables false
namespace Go.Am
variable {C:bf} {P:Program} {n:Nat}
theorem ev_small{env:Env}{l:List Nat}{x:X}(h:∀t,x= .tmp t->t∈l):ev C (small env l) x=ev C env x:=by
 cases x with
 |tmp t=>simp only[ev];rw[qT (h t rfl)]
 |const _=>rfl
 |aX _=>rfl
theorem Ex.congr{env:Env}{rows aa:Rows}{x:aY}{d:D}(h:Ex C env rows x d aa):Ex C (small env (o6 x)) rows x d aa:=by
 have yL:∀y∈x.op.xs,ev C env y=ev C (small env (o6 x)) y:=by
  intro y hy
  refine(ev_small λt ht=>?_).symm
  subst ht
  exact acd _ (vp hy)
 unfold Ex at h⊢
 split at h
 ·rename_i hg
  rw[<-Ei yL];exact h
 ·rename_i s want hg
  have hs:look (small env (o6 x)) s=look env s:=qT (by unfold o6;rw[hg];simp)
  rw[hs]
  rcases h with⟨b,h1,h2,h3⟩|h
  ·exact .inl ⟨b,h1,λhb=>by rw[<-Ei yL];exact h2 hb,h3⟩
  ·exact .inr h
theorem eJ.keep{w w':World}{T T':Nat->Prop}(hg:eJ C w T)(hw:∀b,T b->w'.heap[b]?=w.heap[b]?)(hT:∀b,T b->T' b):eJ C w' T':=
 λg d hd=>(hg g d hd).mono (λ_ _ h=>h) hw hT
structure SE (C:bf) (P:Program) (n:Nat) (ops:Array Oper) (al:List aY) (m:Nat):Prop where
 ok:DOK0 ops.toList al m
 co:wZ P n ops.toList ops.toList=some al
 ctx:aJ C P
theorem SE.get{ops:Array Oper}{al:List aY}{m:Nat}(h:SE C P n ops al m):al.length=ops.size/\∀i,i<ops.size->∃o x,ops[i]?=some o/\al[i]?=some x/\Si n o.dst=true/\cOp P o.op=some x.op/\mD ops.toList o.guard=some x.guard/\x.dst=o.dst:=by
 obtain⟨h1,h2⟩:=xy h.co
 have h1':al.length=ops.size:=by simpa using h1
 refine⟨h1',λi hi=>?_⟩
 have hia:i<al.length:=by omega
 obtain⟨q1,q2,q3,q4⟩:=h2 i ops[i] al[i] (by simp[hi]) (by simp[hia])
 exact⟨ops[i],al[i],by simp[hi],by simp[hia],q1,q2,q3,q4⟩
theorem Pu{ops:Array Oper}{al:List aY}{m:Nat}(hD:DOK ops.toList al m)(hd:SE C P n ops al m){K:Env->Rows->Prop}{Q':Exit->Act->World->Prop}{kz:Pl}{T0:Nat->Prop}{eG:Rows}{w0:World}
  (hK:∀env' aa ρ' T' a' w',K env' aa->eQ n ρ' T' env' aa a' w'->Step kz T0 eG w0 ρ' T' aa w'->Q' .normal a' w'):
  ∀(fuel:Nat) (L:Array Bool) (k:Nat) (env:Env) (rows:Rows) (ρ:Pl) (T:Nat->Prop) (a:Act) (w:World),m<=k->k<=ops.size->ops.size-k<=fuel->L.size=ops.size->(∀j,done L j↔j<k)->
   ec C (al.drop k) env rows K->eQ n ρ T env rows a w->eJ C w T->Step kz T0 eG w0 ρ T rows w->wpAny P .any ops Q' fuel L a w:=by
 obtain⟨hlen,lK⟩:=hd.get
 intro fuel
 have fin:∀(L:Array Bool) (k:Nat) (env:Env) (rows:Rows) (ρ:Pl) (T:Nat->Prop) (a:Act) (w:World),k=ops.size->ec C (al.drop k) env rows K->eQ n ρ T env rows a w->Step kz T0 eG w0 ρ T rows w->Q' .normal a w:=by
  intro L k env rows ρ T a w hk h hs hst
  subst hk
  rw[aci (by omega)]at h
  exact hK env rows ρ T a w h hs hst
 have noReady:∀(L:Array Bool) (k:Nat),k=ops.size->(∀j,done L j↔j<k)->Region.ready .any ops L=[]:=by
  intro L k hk hL
  cases hr:Region.ready .any ops L with
  |nil=>rfl
  |cons i l=>
   exfalso
   obtain⟨⟨o,ho⟩,h1,_⟩:=jH (L:=L) (ops:=ops) (i:=i) (by rw[hr];simp)
   have hi:i<ops.size:=(aaX.1 ho).1
   exact(sN h1).1 ((hL i).2 (by omega))
 induction fuel with
 |zero=>
  intro L k env rows ρ T a w hmk hk hf hsz hL h hs hg hst
  exact⟨noReady L k (by omega) hL,fin L k env rows ρ T a w (by omega) h hs hst⟩
 | succ fuel ih =>
  intro L k env rows ρ T a w hmk hk hf hsz hL h hs hg hst
  refine⟨λhr=>?_,λi hi=>?_⟩
  ·by_cases hke:k=ops.size
   ·exact fin L k env rows ρ T a w hke h hs hst
   ·exfalso
    have Nc:k<ops.size:=by omega
    have:k∈Region.ready .any ops L:=xz Nc (nE (λqz=>by have:=(hL k).1 qz;omega) (by omega)) (λj hj=>(hL j).2 (hd.ok.back k j hj))
    rw[hr]at this
    cases this
  ·obtain⟨⟨o',SH⟩,h1,h2⟩:=jH hi
   have wE:i<ops.size:=(aaX.1 SH).1
   obtain⟨Fw,qq⟩:=sN h1
   have hik:k<=i:=by
    rcases aaZ i k with h3|h3
    ·exact absurd ((hL i).2 h3) Fw
    ·exact h3
   have bQ:=H4 hD (λi' hi' j hj=>(hL j).2 (Nat.lt_trans (hd.ok.back i' j hj) ((hL i').1 hi'))) wE (by omega) h2
   have hie:i=k:=by
    rcases aaZ k i with h3|h3
    ·have:=(hL k).1 (bQ k h3);omega
    ·omega
   subst hie
   obtain⟨o,x,ho,hx,q1,q2,q3,q4⟩:=lK i wE
   have hdrop:al.drop i=x::al.drop (i+1):=by
    have hlt:i<al.length:=by omega
    rw[abD hlt]
    congr 1
    rw[aap hlt]at hx
    exact abg hx
   rw[hdrop]at h
   refine BR hd.ctx ho q1 q2 q3 q4 hs hg h ?_
   intro env' aa ρ' T' a' w' h' gy du
   refine ih _ (i+1) env' aa ρ' T' a' w' (by omega) (by omega) (by omega) (by simpa using hsz) (λj=>?_) h' gy (hg.step hs du) (hst.trans du)
   rw[bP qq,hL j]
   omega
structure Gp (C:bf) (P:Program) (n:Nat) (ops:Array Oper) (al:List aY) (m:Nat) (env:Env) (Dd:Nat->D) (R:Nat->Rows):Prop extends SE C P n ops al m where
 nor:∀f,C.fy f=none
 tr:∀i,i<m->∃x new,al[i]?=some x/\R (i+1)=R i++new/\Ex C (nh al Dd env i) (R i) x (Dd i) (R (i+1))
section
variable {ops:Array Oper} {al:List aY} {m:Nat} {env:Env} {Dd:Nat->D} {R:Nat->Rows}
theorem Gp.pre(h:Gp C P n ops al m env Dd R){i j:Nat}(W0:i<=j)(hj:j<=m):∃new,R j=R i++new:=
 Xk (λi hi=>by obtain⟨x,new,_,h2,_⟩:=h.tr i hi;exact⟨new,h2⟩) W0 hj
theorem Gp.le(h:Gp C P n ops al m env Dd R){i j:Nat}(W0:i<=j)(hj:j<=m):(R i).length<=(R j).length:=by
 obtain⟨new,h1⟩:=h.pre W0 hj
 rw[h1];simp
theorem Gp.liv(h:Gp C P n ops al m env Dd R){i j r:Nat}(W0:i<=j)(hj:j<=m)(hr:r<(R i).length):live (R j) r=live (R i) r:=by
 obtain⟨new,h1⟩:=h.pre W0 hj
 exact fK h1 hr
theorem Gp.ZM(h:Gp C P n ops al m env Dd R){i j t:Nat}(hi:i<m)(hj:j<m)(hne:j≠i)(ht:bF al i=some t):bF al j≠some t:=by
 obtain⟨x,o,h1,h2,_,_,h5,_⟩:=h.ok.quiet i hi
 exact h5 j hj hne t (by simpa[bF,h1]using ht)
theorem Gp.sees(h:Gp C P n ops al m env Dd R){L:Array Bool}{kz ρ:Pl}{T0 T:Nat->Prop}{a:Act}{w0 w:World}(hI:Ky C n al m env Dd R kz T0 w0 L ρ T a w){i t:Nat}{d:D}(hi:i<=m)
  (qz:∀j,j<m->bF al j=some t->done L j/\j<i)(hl:look (nh al Dd env i) t=some d):VR (kq ρ (R i).length) w T d (a.tmps.getD t undef):=by
 by_cases hex:∃j,j<m/\bF al j=some t
 ·obtain⟨j,hj,Vc⟩:=hex
  obtain⟨h1,h2⟩:=qz j hj Vc
  rw[xv Vc i h2 (λj' oe hne=>h.ZM hj (by omega) hne Vc)]at hl
  cases hl
  exact(hI.out j hj h1 t Vc).mono (Ps (h.le (by omega) hi)) (λ_ _=>rfl) (λ_ h=>h)
 ·have hno:∀j,j<m->bF al j≠some t:=λj hj Vc=>hex ⟨j,hj,Vc⟩
  rw[xu i (λj hj=>hno j (by omega))]at hl
  exact(hI.base t d hl (λj hj _=>hno j hj)).mono (Ps (h.le (by omega) hi)) (λ_ _=>rfl) (λ_ h=>h)
theorem Gp.all(h:Gp C P n ops al m env Dd R){L:Array Bool}{kz ρ:Pl}{T0 T:Nat->Prop}{a:Act}{w0 w:World}(hI:Ky C n al m env Dd R kz T0 w0 L ρ T a w)(bQ:∀j,j<m->done L j):
  eQ n ρ T (nh al Dd env m) (R m) a w:=by
 refine⟨⟨λr row Lc h1 h2=>?_,λr r' row row' Lc H5 h1 h2 h3 h4=>?_⟩,λt d hl=>?_,hI.size,hI.wC,hI.wD,hI.defers⟩
 ·have hr:=bb h1
  have:=(hI.rows m (aaz _)).row r row Lc h1 (by unfold kq;rw[aaI hr];exact h2)
  exact this.mono lL (λ_ _=>rfl) (λ_ h=>h) rfl this.nZ
 ·have hr:=bb h1
  have uY:=bb h2
  exact(hI.rows m (aaz _)).kx r r' row row' Lc H5 h1 h2 (by unfold kq;rw[aaI hr];exact h3) (by unfold kq;rw[aaI uY];exact h4)
 ·exact(h.sees hI (aaz _) (λj hj _=>⟨bQ j hj,hj⟩) hl).mono lL (λ_ _=>rfl) (λ_ h=>h)
theorem Gp.start(h:Gp C P n ops al m env Dd R){L:Array Bool}{ρ:Pl}{T:Nat->Prop}{a:Act}{w:World}(hs:eQ n ρ T env (R 0) a w)(hg:eJ C w T)(hL:∀j,¬done L j):Ky C n al m env Dd R ρ T w L ρ T a w:=by
 have fJ:∀j,j<=m->∀r Lc,ρ r=some Lc->kq ρ (R j).length r=some Lc:=by
  intro j hj r Lc hr
  unfold kq
  rw[aaI]
  ·exact hr
  ·have:=h.le (acp j) hj
   rcases aaZ r (R 0).length with h1|h1
   ·omega
   ·rw[hs.wD r h1]at hr;cases hr
 have y8:∀r Lc,ρ r=some Lc->r<(R 0).length:=by
  intro r Lc hr
  rcases aaZ r (R 0).length with h1|h1
  ·exact h1
  ·rw[hs.wD r h1]at hr;cases hr
 refine⟨hs.size,hs.defers,hs.wC,hg,λr hr=>hs.wD r (abd (h.le (acp m) (aaz _)) hr),λj hj=>⟨λr row Lc h1 h2=>?_,λr r' row row' Lc H5 h1 h2 h3 h4=>?_⟩,
  λj hj _ r hr _=>hs.wD r (abd (h.le (acp j) (by omega)) hr),λt d hl _=>(hs.env t d hl).mono (fJ 0 (acp _)) (λ_ _=>rfl) (λ_ h=>h),
  λj hj qz=>absurd qz (hL j),?_⟩
 ·have h3:=lL r Lc h2
  rw[h.liv (acp j) hj (y8 r Lc h3)]at h1
  have:=hs.bE.row r row Lc h1 h3
  exact this.mono (fJ j hj) (λ_ _=>rfl) (λ_ h=>h) rfl this.nZ
 ·have q3:=lL r Lc h3
  have q4:=lL r' H5 h4
  rw[h.liv (acp j) hj (y8 r Lc q3)]at h1
  rw[h.liv (acp j) hj (y8 r' H5 q4)]at h2
  exact hs.bE.kx r r' row row' Lc H5 h1 h2 q3 q4
 ·refine⟨λ_ _ h=>h,λ_ h=>h,λ_ h=> .inl h,aaz _,λ_ _ _=>rfl,λr row Lc h1 h2=>?_,rfl,rfl,rfl,h.le (acp m) (aaz _),λ_ _=>rfl⟩
  rw[h.liv (acp m) (aaz _) (y8 r Lc h2)]at h1
  exact .inl ⟨r,row,Lc,h1,h2,rfl⟩
theorem Gp.next(h:Gp C P n ops al m env Dd R){L:Array Bool}{kz ρ ρ':Pl}{T0 T T':Nat->Prop}{a:Act}{w0 w w':World}(hI:Ky C n al m env Dd R kz T0 w0 L ρ T a w){i:Nat}(hi:i<m)(qq:i<L.size)(Fw:¬done L i)
  {env':Env}{v:Value}(Xj:∀t,bF al i=some t->t<n)(hs:eQ n ρ' T' env' (R (i+1)) a w')(hst:Step (kq ρ (R i).length) T (R i) w ρ' T' (R (i+1)) w')(hv:VR ρ' w' T' (Dd i) v)(UY:QH (kq ρ (R i).length) (R i) w w')(qo:∀b,T' b->T b\/w.heap.size<=b):
  Ky C n al m env Dd R kz T0 w0 (L.setIfInBounds i true) (λr=>if r<(R i).length then ρ r else if r<(R (i+1)).length then ρ' r else ρ r) T' (a.put (bF al i) v) w':=by
 let Kz:Pl:=λr=>if r<(R i).length then ρ r else if r<(R (i+1)).length then ρ' r else ρ r
 show Ky C n al m env Dd R kz T0 w0 (L.setIfInBounds i true) Kz T' (a.put (bF al i) v) w'
 have hle:(R i).length<=(R (i+1)).length:=h.le (by omega) (by omega)
 have hw:∀b,T b->w'.heap[b]?=w.heap[b]?:=λb hb=>by
  rcases UY b (hI.wC b hb)with h1|⟨_,r,row,Lc,h2,h3,rfl⟩
  ·exact h1
  ·exact absurd hb ((hI.rows i (by omega)).row r row Lc h2 h3).nZ
 --old and new places
 have e1:∀r,r<(R i).length->Kz r=ρ r:=λr hr=>by simp only[Kz];rw[aaI hr]
 have e2:∀r,(R i).length<=r->r<(R (i+1)).length->Kz r=ρ' r:=λr hr uY=>by simp only[Kz];rw[aaA (by omega),aaI uY]
 have e3:∀r,(R (i+1)).length<=r->Kz r=ρ r:=λr hr=>by simp only[Kz];rw[aaA (by omega),aaA (by omega)]
 have hA:∀r Lc,ρ r=some Lc->Kz r=some Lc:=by
  intro r Lc hr
  rcases aaZ r (R i).length with h1|h1
  ·rw[e1 r h1];exact hr
  ·rcases aaZ r (R (i+1)).length with h2|h2
   ·rw[hI.hole i hi Fw r h1 h2]at hr;cases hr
   ·rw[e3 r h2];exact hr
 have hB:∀r Lc,ρ' r=some Lc->Kz r=some Lc/\r<(R (i+1)).length:=by
  intro r Lc hr
  rcases aaZ r (R (i+1)).length with h2|h2
  ·refine⟨?_,h2⟩
   rcases aaZ r (R i).length with h1|h1
   ·rw[e1 r h1]
    have:=hst.same r h1
    rw[this]at hr
    exact lL r Lc hr
   ·rw[e2 r h1 h2];exact hr
  ·rw[hs.wD r h2]at hr;cases hr
 have Zn:∀k r Lc,kq ρ k r=some Lc->kq Kz k r=some Lc:=by
  intro k r Lc hr
  unfold kq at hr⊢
  split at hr
  ·rename_i hlt;rw[aaI hlt];exact hA r Lc hr
  ·cases hr
 have hBr:∀k,(R (i+1)).length<=k->∀r Lc,ρ' r=some Lc->kq Kz k r=some Lc:=by
  intro k hkk r Lc hr
  obtain⟨h1,h2⟩:=hB r Lc hr
  unfold kq
  rw[aaI (by omega)];exact h1
 --a place is old or new
 have Pv : ∀ j, j <= m -> ∀ r row Lc, live (R j) r = some row -> Kz r = some Lc -> (ρ r = some Lc) \/ ((R i).length <= r /\ r < (R (i + 1)).length /\ ρ' r = some Lc /\ live (R (i + 1)) r = some row /\ w.heap.size <= Lc.b /\ i + 1 <= j) := by
  intro j hj r row Lc hl hr
  rcases aaZ r (R i).length with h1|h1
  ·exact .inl (by rw[<-e1 r h1];exact hr)
  ·rcases aaZ r (R (i+1)).length with h2|h2
   ·rw[e2 r h1 h2]at hr
    have W0:i+1<=j:=by
     rcases aaZ i j with h3|h3
     ·exact h3
     ·have:=h.le h3 (by omega)
      have:=bb hl
      omega
    have nV:live (R (i+1)) r=some row:=by rw[<-h.liv W0 hj h2];exact hl
    refine .inr ⟨h1,h2,hr,nV,?_,W0⟩
    rcases hst.fresh r row Lc nV hr with⟨r0,qP,L0,q1,q2,q3⟩|q
    ·exfalso
     have hr0:=bb q1
     have q4:live (R (i+1)) r0=some qP:=by rw[h.liv (by omega) (by omega) hr0];exact q1
     exact hs.bE.kx r0 r qP row L0 Lc q4 nV (hst.pl r0 L0 q2) hr (by omega) q3
    ·exact q
   ·exact .inl (by rw[<-e3 r h2];exact hr)
 have hold:∀j,j<=m->∀r row Lc,live (R j) r=some row->ρ r=some Lc->nu (kq ρ (R j).length) row Lc w T:=by
  intro j hj r row Lc hl hr
  refine(hI.rows j hj).row r row Lc hl ?_
  unfold kq;rw[aaI (bb hl)];exact hr
 refine⟨?_,?_,hs.wC,hI.aX.keep hw hst.tt,λr hr=>?_,λj hj=>⟨λr row Lc h1 h2=>?_,λr r' row row' Lc H5 h1 h2 h3 h4 hne=>?_⟩,λj hj qz r h1 h2=>?_,λt d hl hno=>?_,λj hj qz t ht=>?_,?_⟩
 ·cases hdd:bF al i with
  |none=>exact hI.size
  |some t=>simpa[Act.put]using hI.size
 ·cases hdd:bF al i with
  |none=>exact hI.defers
  |some t=>simpa[Act.put]using hI.defers
 ·have:=h.le (i:=i+1) (j:=m) (by omega) (aaz _)
  rw[e3 r (by omega)]
  exact hI.wD r hr
 ·rcases Pv j hj r row Lc h1 (lL r Lc h2)with h3|⟨q1,q2,q3,q4,q5,q6⟩
  ·have hro:=hold j hj r row Lc h1 h3
   refine hro.ZN (Zn _) hw hst.tt ((UY _ hro.lt).imp_right (·.1)) (λhT=>?_)
   rcases qo _ hT with h4|h4
   ·exact hro.nZ h4
   ·have:=hro.lt;omega
  ·have hro:=hs.bE.row r row Lc q4 q3
   exact hro.mono (hBr _ (h.le q6 hj)) (λ_ _=>rfl) (λ_ h=>h) rfl hro.nZ
 ·rcases Pv j hj r row Lc h1 (lL r Lc h3)with p|⟨q1,q2,q3,q4,q5,q6⟩
  ·rcases Pv j hj r' row' H5 h2 (lL r' H5 h4)with p'|⟨q1',q2',q3',q4',q5',q6'⟩
   ·refine(hI.rows j hj).kx r r' row row' Lc H5 h1 h2 ?_ ?_ hne
    ·unfold kq;rw[aaI (bb h1)];exact p
    ·unfold kq;rw[aaI (bb h2)];exact p'
   ·have:=(hold j hj r row Lc h1 p).lt;omega
  ·rcases Pv j hj r' row' H5 h2 (lL r' H5 h4)with p'|⟨q1',q2',q3',q4',q5',q6'⟩
   ·have:=(hold j hj r' row' H5 h2 p').lt;omega
   ·exact hs.bE.kx r r' row row' Lc H5 q4 q4' q3 q3' hne
 ·have hne:j≠i:=λe=>qz ((bP qq).2 (.inr e))
  have hnd':¬done L j:=λhh=>qz ((bP qq).2 (.inl hh))
  rcases Nat.lt_or_gt_of_ne hne with h3|h3
  ·have:=h.le (i:=j+1) (j:=i) (by omega) (by omega)
   rw[e1 r (by omega)]
   exact hI.hole j hj hnd' r h1 h2
  ·have:=h.le (i:=i+1) (j:=j) (by omega) (by omega)
   rw[e3 r (by omega)]
   exact hI.hole j hj hnd' r h1 h2
 ·rw[Fv (hno i hi ((bP qq).2 (.inr rfl)))]
  exact(hI.base t d hl (λj hj qz=>hno j hj ((bP qq).2 (.inl qz)))).mono (Zn _) hw hst.tt
 ·by_cases Ve:j=i
  ·subst Ve
   rw[ht,Pt (by rw[hI.size];exact Xj t ht)]
   exact hv.mono (hBr _ (aaz _)) (λ_ _=>rfl) (λ_ h=>h)
  ·have hdn':done L j:=by
    rcases(bP qq).1 qz with h1|h1
    ·exact h1
    ·exact absurd h1 Ve
   rw[Fv (h.ZM hj hi (λe=>Ve e.symm) ht)]
   exact(hI.out j hj hdn' t ht).mono (Zn _) hw hst.tt
 ·have Gk:=hI.step
  refine⟨λr Lc hr=>hA r Lc (Gk.pl r Lc hr),λb hb=>hst.tt b (Gk.tt b hb),λb hb=>?_,abd Gk.size hst.size,λb hb hn=>?_,λr row Lc h1 h2=>?_,hst.os.trans Gk.os,hst.tape.trans Gk.tape,hst.output.trans Gk.output,Gk.len,λr hr=>?_⟩
  ·rcases qo b hb with h1|h1
   ·exact Gk.wB b h1
   ·exact .inr (.inl (abd Gk.size h1))
  ·rcases UY b (abR hb Gk.size)with h1|⟨_,r,row,Lc,h2,h3,h4⟩
   ·rw[h1]
    exact Gk.keep b hb hn
   ·exfalso
    have h5:live (R m) r=some row:=by rw[h.liv (by omega) (aaz _) (bb h2)];exact h2
    rcases Gk.fresh r row Lc h5 (lL r Lc h3)with⟨r0,qP,L0,q1,q2,q3⟩|q
    ·exact hn r0 qP L0 q1 q2 (q3.trans h4)
    ·omega
  ·rcases Pv m (aaz _) r row Lc h1 h2 with p|⟨q1,q2,q3,q4,q5,q6⟩
   ·exact Gk.fresh r row Lc h1 p
   ·exact .inr (abd Gk.size q5)
  ·have:=h.le (i:=0) (j:=i) (by omega) (by omega)
   rw[e1 r (by omega)]
   exact Gk.same r hr
theorem Gp.any (hD : DOK ops.toList al m) (h : Gp C P n ops al m env Dd R) {C' : bf} (hC' : aJ C' P) (hGl : ∀ w T, eJ C w T -> eJ C' w T) {K : Env -> Rows -> Prop} {Q' : Exit -> Act -> World -> Prop} {kz : Pl} {T0 : Nat -> Prop} {w0 : World} (Vf : ec C' (al.drop m) (nh al Dd env m) (R m) K)
  (hK:∀env' aa ρ' T' a' w',K env' aa->eQ n ρ' T' env' aa a' w'->Step kz T0 (R 0) w0 ρ' T' aa w'->Q' .normal a' w'):
  ∀(fuel:Nat) (L:Array Bool) (ρ:Pl) (T:Nat->Prop) (a:Act) (w:World),j2 L ops.size<=fuel->L.size=ops.size->(∀j,done L j->j<m)->(∀i,done L i->∀j,wP ops.toList i j=true->done L j)->Ky C n al m env Dd R kz T0 w0 L ρ T a w->wpAny P .any ops Q' fuel L a w:=by
 obtain⟨hlen,lK⟩:=h.toSE.get
 have hm:m<=ops.size:=by have:=h.ok.le;simpa using this
 intro fuel
 induction fuel with
 | zero =>
  intro L ρ T a w hf hsz RP jZ hI
  have bQ:∀j,j<ops.size->done L j:=by
   intro j hj
   refine abm λhn=>?_
   have:=kY hj (by omega) (nE hn (by omega))
   omega
  have hs:=h.all hI (λj hj=>bQ j (by omega))
  have hme:m=ops.size:=by
   rcases aaZ m ops.size with h1|h1
   ·have:=RP m (bQ m h1);omega
   ·omega
  exact Pu hD (C:=C') ⟨h.ok,h.co,hC'⟩ hK 0 L m _ _ ρ T a w (aaz _) hm (by omega) hsz (λj=>⟨RP j,λhj=>bQ j (by omega)⟩) Vf hs (hGl _ _ hI.aX) hI.step
 | succ fuel ih =>
  intro L ρ T a w hf hsz RP jZ hI
  by_cases bQ:∀j,j<m->done L j
  ·have hs:=h.all hI bQ
   refine Pu hD (C:=C') ⟨h.ok,h.co,hC'⟩ hK (fuel+1) L m _ _ ρ T a w (aaz _) hm ?_ hsz (λj=>⟨RP j,bQ j⟩) Vf hs (hGl _ _ hI.aX) hI.step
   have:∀k,k<=ops.size->m<=k->k-m<=j2 L k:=by
    intro k
    induction k with
    |zero=>intro _ _;omega
    | succ k ihk =>
     intro h1 h2
     rcases aaZ k m with h3|h3
     ·omega
     ·have:=ihk (by omega) h3
      have hnk:L.getD k false=false:=by
       cases hb:L.getD k false with
       |false=>rfl
       |true=>have:=RP k hb;omega
      have hu:j2 L (k+1)=j2 L k+1:=by
       unfold j2
       rw[abN,List.filter_append,ac9,hnk]
       simp only[aba,abX,List.filter_nil,aao,aaP,aaT]
      omega
   have:=this ops.size (aaz _) hm
   omega
  ·have hex : ∃ j, j < m /\ ¬ done L j := by
    refine abm λhne=>?_
    exact bQ λj hj=>by
     refine abm λhn=>?_
     exact hne ⟨j,hj,hn⟩
   refine⟨λhr=>?_,λi hi=>?_⟩
   ·exfalso
    --the least one not done is ready
    have key : ∀ k, (∀ j, j < k -> j < m -> done L j) \/ ∃ j, j < k /\ j < m /\ ¬ done L j /\ ∀ j', j' < j -> done L j' := by
     intro k
     induction k with
     |zero=>left;intro j hj;omega
     | succ k ihk =>
      rcases ihk with h1|⟨j,q1,q2,q3,q4⟩
      ·by_cases hk:k<m/\¬done L k
       ·right
        exact⟨k,by omega,hk.1,hk.2,λj' oe=>h1 j' oe (by omega)⟩
       ·left
        intro j hj hjm
        rcases aaZ j k with h3|h3
        ·exact h1 j h3 hjm
        ·have:j=k:=by omega
         subst this
         refine abm λhn=>?_
         exact hk ⟨hjm,hn⟩
      ·right;exact⟨j,by omega,q2,q3,q4⟩
    rcases key m with h1|⟨j,q1,q2,q3,q4⟩
    ·exact bQ λj hj=>h1 j hj hj
    ·have:j∈Region.ready .any ops L:=xz (by omega) (nE q3 (by omega)) (λj' oe=>q4 j' (h.ok.back j j' oe))
     rw[hr]at this
     cases this
   ·obtain⟨⟨o',SH⟩,h1,h2⟩:=jH hi
    have wE:i<ops.size:=(aaX.1 SH).1
    obtain⟨Fw,qq⟩:=sN h1
    have OR:i<m:=by
     rcases aaZ i m with h3|h3
     ·exact h3
     ·exfalso
      have:=H4 hD jZ wE h3 h2
      obtain⟨j,hj,hn⟩:=hex
      exact hn (this j (by omega))
    obtain⟨o,x,ho,hx,q1,q2,q3,q4⟩:=lK i wE
    obtain⟨x',new,hx',hR,hE⟩:=h.tr i OR
    rw[hx]at hx'
    cases hx'
    obtain⟨x',o',hx',ho'',hqa,hqo,_,hu⟩:=h.ok.quiet i OR
    rw[hx]at hx'
    cases hx'
    have ho3:ops[i]?=some o':=by simpa using ho''
    rw[ho]at ho3
    cases ho3
    have hs:eQ n (kq ρ (R i).length) T (small (nh al Dd env i) (o6 x)) (R i) a w:=by
     refine⟨hI.rows i (by omega),λt d hl=>?_,hI.size,hI.wC,λr hr=>?_,hI.defers⟩
     ·obtain⟨ht,hl⟩:=yM hl
      refine h.sees hI (by omega) (λj hj Vc=>?_) hl
      have:=hu t ht j hj Vc
      exact⟨h2 j this,h.ok.back i j this⟩
     ·unfold kq;rw[aaA (by omega)]
    have pU:bF al i=o.dst:=by simp[bF,hx,q4]
    refine ex_wp h.nor h.ctx ho q2 q3 hs hI.aX hqo hE.congr ?_
    intro ρ' T' v w' gy du mN Lm
    have Pw:=h.next hI OR qq Fw (λt ht=>yJ q1 t (by rw[<-pU];exact ht)) gy du mN Lm.1 Lm.2
    rw[pU]at Pw
    refine ih _ _ T' _ w' ?_ (by simpa using hsz) (λj hj=>?_) (λi' hi' j hj=>?_) Pw
    ·have:=kY wE qq h1
     omega
    ·rcases(bP qq).1 hj with h3|h3
     ·exact RP j h3
     ·omega
    ·refine(bP qq).2 (.inl ?_)
     rcases(bP qq).1 hi' with h3|h3
     ·exact jZ i' h3 j hj
     ·subst h3;exact h2 j hj
end
theorem H6(hN:∀f,C.fy f=none)(hC:aJ C P)(hP:P.follows .mixedOrders=true){id:Nat}{ops:Array Oper}{al:List aY}(hc:wZ P n ops.toList ops.toList=some al)(hd:Sj ops.toList al=true)
  {env:Env}{rows:Rows}{ρ:Pl}{T:Nat->Prop}{a:Act}{w:World}{Q:fI->Env->Rows->Prop}{Q':Exit->Act->World->Prop}(h:ec C al env rows (Q .normal))(hs:eQ n ρ T env rows a w)(hg:eJ C w T)
  (hp:Post n ρ T rows w Q Q'):(Code.region id ops true).wp P Q' a w:=by
 obtain⟨m,_,hm⟩:=acv.1 hd
 have hok:=Pr hm
 have hlen:=(xy hc).1
 have hq:∀i,i<m->∃x,al[i]?=some x/\mE x.op=true:=by
  intro i hi
  obtain⟨x,o,h1,_,h3,_⟩:=hok.quiet i hi
  exact⟨x,h1,h3⟩
 obtain⟨Dd,R,h0,h1,h2⟩:=trace hN m (by rw[hlen];exact hok.le) hq h
 subst h0
 have hrun:Gp C P n ops al m env Dd R:=⟨⟨hok.toDOK0,hc,hC⟩,hN,h1⟩
 have hw1:eQ n ρ T env (R 0) a {w with drawn:=w.drawn+1}:=hs.heap rfl
 have Xl:eJ C {w with drawn:=w.drawn+1} T:=hg.keep (λ_ _=>rfl) (λ_ h=>h)
 have SI:∀j,¬done (Array.replicate ops.size false) j:=by
  intro j hj
  unfold done at hj
  simp[Array.getD]at hj
 refine wp_region_any hP (hrun.any hok hC (λ_ _ h=>h) h2 (w0:={w with drawn:=w.drawn+1}) (kz:=ρ) (T0:=T) ?_ ops.size _ ρ T a _ ?_ (by simp) (λj hj=>absurd hj (SI j)) (λi hi=>absurd hi (SI i)) (hrun.start hw1 Xl SI))
 ·intro env' aa ρ' T' a' w' hk gy du
  exact hp .normal env' aa ρ' T' a' w' hk gy ⟨du.pl,du.tt,du.wB,du.size,du.keep,du.fresh,du.os,du.tape,du.output,du.len,du.same⟩
 ·unfold j2
  exact abd (acX _ _) (by simp)
end Go.Am
namespace Go.Am
variable {C:bf} {P:Program} {n:Nat}
def Px(env:Env)(ts:List Nat):Env:=env.filter λp=>!ts.contains p.1
theorem uf(ts:List Nat)(t:Nat):∀(env:Env),look (Px env ts) t=if t∈ts then none else look env t
 |[]=>by simp[Px,look]
 | (k, d) :: env => by
  have ih:=uf ts t env
  simp only[Px,ac9]at ih⊢
  by_cases hk:k∈ts
  ·have:(!ts.contains k)=false:=by simp[hk]
   simp only[this]
   rw[aaA (by simp),ih]
   by_cases ht:t∈ts
   ·simp[ht]
   ·have:(k==t)=false:=by
     have:k≠t:=λe=>ht (e▸hk)
     simpa using this
    simp[ht,look,this]
  ·have:(!ts.contains k)=true:=by simp[hk]
   simp only[this,abX,look]
   cases hkt:(k==t)with
   |true=>
    have:k=t:=by simpa using hkt
    subst this
    simp[hk]
   |false=>simpa using ih
def undL(al:List aY)(m:Nat)(L:Array Bool):List Nat:=(List.range m).filterMap λj=>bif L.getD j false then none else bF al j
theorem Py{al:List aY}{m:Nat}{L:Array Bool}{t:Nat}:t∈undL al m L↔∃j,j<m/\¬done L j/\bF al j=some t:=by
 unfold undL done
 rw[acW]
 constructor
 ·rintro⟨j,hj,h⟩
  cases hb:L.getD j false with
  |true=>rw[hb]at h;cases h
  |false=>rw[hb]at h;exact⟨j,by simpa using hj,by rw[hb];simp,h⟩
 ·rintro⟨j,hj,h1,h2⟩
  refine⟨j,by simpa using hj,?_⟩
  have:L.getD j false=false:=by simpa using h1
  rw[this];exact h2
def eY(al:List aY)(m:Nat)(L:Array Bool)(env:Env):Env:=Px env (undL al m L)
theorem ug{al:List aY}{m:Nat}{L:Array Bool}{env:Env}{t:Nat}(h:∀j,j<m->¬done L j->bF al j≠some t):look (eY al m L env) t=look env t:=by
 unfold eY
 rw[uf,aaA]
 rw[Py]
 rintro⟨j,h1,h2,h3⟩
 exact h j h1 h2 h3
theorem oY{al:List aY}{m:Nat}{L:Array Bool}{env:Env}{t:Nat}{d:D}(h:look (eY al m L env) t=some d):look env t=some d/\∀j,j<m->¬done L j->bF al j≠some t:=by
 unfold eY at h
 rw[uf]at h
 split at h
 ·cases h
 ·rename_i hn
  refine⟨h,λj h1 h2 h3=>hn (Py.2 ⟨j,h1,h2,h3⟩)⟩
theorem eQ.ext{ρ:Pl}{T:Nat->Prop}{env env':Env}{rows:Rows}{a:Act}{w:World}(h:eQ n ρ T env rows a w)(he:∀t d,look env' t=some d->look env t=some d):eQ n ρ T env' rows a w:=
 ⟨h.bE,λt d hd=>h.env t d (he t d hd),h.size,h.wC,h.wD,h.defers⟩
def KH(dst:Option Nat)(hd env:Env)(K0:Env->Rows->Prop):Env->Rows->Prop:=λenv' rows=>match dst with
 |some t=>∃d,env'=(t,d)::hd/\K0 ((t,d)::env) rows
 |none=>env'=hd/\K0 env rows
theorem Nd(dst:Option Nat)(hd env:Env)(K0:Env->Rows->Prop)(d:D)(rows:Rows):KH dst hd env K0 (put dst d hd) rows=K0 (put dst d env) rows:=by
 cases dst with
 |none=>simp[KH,put]
 | some t =>
  simp only[KH,put]
  apply propext
  constructor
  ·rintro⟨d',h1,h2⟩
   cases h1
   exact h2
  ·intro h
   exact⟨d,rfl,h⟩
theorem BS{x:aY}{hd env:Env}{rows:Rows}{K0:Env->Rows->Prop}(yL:∀t,t∈o6 x->look hd t=look env t)(h:ec C [x] env rows K0):ec C [x] hd rows (KH x.dst hd env K0):=by
 obtain⟨dst,o,g⟩:=x
 have hx:∀y∈o.xs,ev C hd y=ev C env y:=by
  intro y hy
  cases y with
  |tmp t=>exact yL t (acd _ (vp hy))
  |const _=>rfl
  |aX _=>rfl
 have hop:∀k:D->Rows->Prop,dW C hd rows o k=dW C env rows o k:=λk=>Ei hx k
 have e1:(λd rows=>ec C [] (put dst d hd) rows (KH dst hd env K0))=λd rows=>ec C [] (put dst d env) rows K0:=by
  funext d r
  exact Nd dst hd env K0 d r
 cases g with
 |none=>
  show dW C hd rows o (λd rows=>ec C [] (put dst d hd) rows (KH dst hd env K0))
  rw[e1,hop]
  exact h
 | some gw =>
  obtain⟨g,want⟩:=gw
  have hg:look hd g=look env g:=yL g (by simp[o6])
  have h':=h
  simp only[ec]at h'⊢
  rw[hg]
  obtain⟨v,hv,hk⟩:=au h'
  rw[hv]
  split at hk
  ·rename_i t
   show((t=want->dW C hd rows o λd rows=>KH dst hd env K0 (put dst d hd) rows)/\(t=!want->KH dst hd env K0 (put dst (.cA []) hd) rows))
   refine⟨λht=>?_,λht=>?_⟩
   ·have e2:(λd rows=>KH dst hd env K0 (put dst d hd) rows)=λd rows=>K0 (put dst d env) rows:=by
     funext d r
     exact Nd dst hd env K0 d r
    rw[e2,hop]
    exact hk.1 ht
   ·rw[Nd];exact hk.2 ht
  ·show KH dst hd env K0 (put dst (.cA []) hd) rows
   rw[Nd];exact hk
  ·exact hk.elim
theorem me{ops:Array Oper}{L:Array Bool}(jZ:∀i,done L i->∀j,wP ops.toList i j=true->done L j):∀(f i j:Nat),(∀j,wP ops.toList i j=true->done L j)->Kv ops.toList f i j=true->done L j
 |0,i,j,_,h=>by simp[Kv]at h
 | f + 1, i, j, hd, h => by
  simp only[Kv,abI]at h
  rcases h with h|h
  ·exact hd j h
  ·obtain⟨k,_,hk⟩:=acv.1 h
   simp only[aan]at hk
   exact me jZ f k j (λq hq=>jZ k (hd k hk.1) q hq) hk.2
theorem Ek{env:Env}{rows:Rows}:∀{l:List aY} {y:aY},tX C env rows l->y∈l->dW C env rows y.op (BB env rows y.dst)
 |[],y,_,h=>by simp at h
 |x::l,y,h,hy=>by
  rcases aaW.1 hy with rfl|hy
  ·exact h.1
  ·exact Ek h.2 hy
theorem Xm {ops : Array Oper} {al : List aY} {m : Nat} (hD : DOK2 ops.toList al m) (hd : SE C P n ops al m) {K : Env -> Rows -> Prop} {Q' : Exit -> Act -> World -> Prop} {kz : Pl} {T0 : Nat -> Prop} {eG : Rows} {w0 : World}
  (hK:∀env' aa ρ' T' a' w',K env' aa->eQ n ρ' T' env' aa a' w'->Step kz T0 eG w0 ρ' T' aa w'->Q' .normal a' w'):
  ∀(fuel:Nat) (L:Array Bool) (k:Nat) (env:Env) (rows:Rows) (ρ:Pl) (T:Nat->Prop) (a:Act) (w:World),m<=k->k<=ops.size->j2 L ops.size<=fuel->L.size=ops.size->(∀j,k<=j->¬done L j)->(∀j,m<=j->j<k->done L j)->
   (∀i,done L i->∀j,wP ops.toList i j=true->done L j)->(∀j,j<m->¬done L j->∃y,al[j]?=some y/\y.guard=none/\(∃t,y.dst=some t)/\dW C env rows y.op (BB env rows y.dst))->
   wY C (Fl ops.toList al m k (ops.size-k)) env rows K->eQ n ρ T (eY al m L env) rows a w->eJ C w T->Step kz T0 eG w0 ρ T rows w->wpAny P .any ops Q' fuel L a w:=by
 obtain⟨hlen,lK⟩:=hd.get
 intro fuel
 have fin:∀(L:Array Bool) (k:Nat) (env:Env) (rows:Rows) (ρ:Pl) (T:Nat->Prop) (a:Act) (w:World),k=ops.size->(∀j,j<ops.size->done L j)->m<=k->wY C (Fl ops.toList al m k (ops.size-k)) env rows K->eQ n ρ T (eY al m L env) rows a w->Step kz T0 eG w0 ρ T rows w->Q' .normal a w:=by
  intro L k env rows ρ T a w hk bQ hmk h hs hst
  subst hk
  rw[acq]at h
  exact hK env rows ρ T a w h (hs.ext λt d hl=>by rw[ug (λj hj hn=>absurd (bQ j (by omega)) hn)];exact hl) hst
 have aab : ∀ (L : Array Bool), L.size = ops.size -> (∃ j, j < ops.size /\ ¬ done L j) -> ∃ j, j ∈ Region.ready .any ops L := by
  intro L hsz ⟨j,hj,hn⟩
  have key : ∀ q, (∀ j, j < q -> done L j) \/ ∃ j, j < q /\ ¬ done L j /\ ∀ j', j' < j -> done L j' := by
   intro q
   induction q with
   |zero=>left;intro j hj;omega
   | succ q ih =>
    rcases ih with h1|⟨j,q1,q2,q3⟩
    ·by_cases hq:done L q
     ·left;intro j hj
      rcases aaZ j q with h2|h2
      ·exact h1 j h2
      ·have:j=q:=by omega
       subst this;exact hq
     ·exact .inr ⟨q,by omega,hq,h1⟩
    ·exact .inr ⟨j,by omega,q2,q3⟩
  rcases key ops.size with h1|⟨j',q1,q2,q3⟩
  ·exact absurd (h1 j hj) hn
  ·exact⟨j',xz q1 (nE q2 (by omega)) (λj'' hj''=>q3 j'' (hd.ok.back j' j'' hj''))⟩
 have Nf:∀(L:Array Bool),L.size=ops.size->Region.ready .any ops L=[]->∀j,j<ops.size->done L j:=by
  intro L hsz hr j hj
  refine abm λhn=>?_
  obtain⟨i,hi⟩:=aab L hsz ⟨j,hj,hn⟩
  rw[hr]at hi
  cases hi
 have kend:∀(L:Array Bool) (k:Nat),k<=ops.size->(∀j,k<=j->¬done L j)->(∀j,j<ops.size->done L j)->k=ops.size:=by
  intro L k hk h1 h2
  rcases aaZ k ops.size with h3|h3
  ·exact absurd (h2 k h3) (h1 k (aaz _))
  ·omega
 induction fuel with
 | zero =>
  intro L k env rows ρ T a w hmk hk hf hsz Zi hlo jZ hob h hs hg hst
  have bQ:∀j,j<ops.size->done L j:=by
   intro j hj
   refine abm λhn=>?_
   have:=kY hj (by omega) (nE hn (by omega))
   omega
  have hke:=kend L k hk Zi bQ
  refine⟨?_,fin L k env rows ρ T a w hke bQ hmk h hs hst⟩
  cases hr:Region.ready .any ops L with
  |nil=>rfl
  |cons i l=>
   exfalso
   obtain⟨⟨o,ho⟩,h1,_⟩:=jH (L:=L) (ops:=ops) (i:=i) (by rw[hr];simp)
   exact(sN h1).1 (bQ i (aaX.1 ho).1)
 | succ fuel ih =>
  intro L k env rows ρ T a w hmk hk hf hsz Zi hlo jZ hob h hs hg hst
  refine⟨λhr=>?_,λi hi=>?_⟩
  ·have bQ:=Nf L hsz hr
   exact fin L k env rows ρ T a w (kend L k hk Zi bQ) bQ hmk h hs hst
  ·obtain⟨⟨o',SH⟩,h1,h2⟩:=jH hi
   have wE:i<ops.size:=(aaX.1 SH).1
   obtain⟨Fw,qq⟩:=sN h1
   obtain⟨o,x,ho,hx,q1,q2,q3,q4⟩:=lK i wE
   have Xn:j2 (L.setIfInBounds i true) ops.size<=fuel:=by have:=kY wE qq h1;omega
   have Xo:∀i',done (L.setIfInBounds i true) i'->∀j,wP ops.toList i' j=true->done (L.setIfInBounds i true) j:=by
    intro i' hi' j hj
    refine(bP qq).2 (.inl ?_)
    rcases(bP qq).1 hi' with h3|h3
    ·exact jZ i' h3 j hj
    ·subst h3;exact h2 j hj
   rcases aaZ i m with OR|OR
   · -- a quiet one that comes late
    obtain⟨y,hy,hyg,⟨t,H7⟩,hya⟩:=hob i OR Fw
    rw[hx]at hy
    cases hy
    obtain⟨x',o2,hx',ho2,hqa,hqo,_,hu⟩:=hD.quiet i OR
    rw[hx]at hx'
    cases hx'
    have yL:∀t',t'∈o6 x->look (eY al m L env) t'=look env t':=λt' xq=>ug λj hj hn he=>hn (h2 j (hu t' xq j hj he))
    have hst1:ec C [x] env rows (λenv' aa=>env'=put x.dst ((look env t).getD default) env/\look env t=some ((look env t).getD default)/\aa=rows):=by
     obtain⟨dst,op,g⟩:=x
     simp only at hyg H7
     subst hyg
     subst H7
     show dW C env rows op _
     have e:(λd aa=>ec C [] (put (some t) d env) aa λenv' aa=>env'=put (some t) ((look env t).getD default) env/\look env t=some ((look env t).getD default)/\aa=rows)=BB env rows (some t):=by
      funext d r
      simp only[ec,BB,put]
      apply propext
      constructor
      ·rintro⟨e1,e2,e3⟩
       cases e1
       exact⟨e2,e3⟩
      ·rintro⟨e1,e2⟩
       rw[e1]
       exact⟨rfl,rfl,e2⟩
     rw[e]
     exact hya
    refine BR hd.ctx ho q1 q2 q3 q4 hs hg (BS yL hst1) ?_
    intro env' aa ρ' T' a' w' h' gy du
    rw[H7]at h'
    obtain⟨d,rfl,h3,h4,rfl⟩:=h'
    have Lz:look env t=some d:=by
     simp only[put,H7]at h3
     cases h3
     exact h4
    have hti:bF al i=some t:=by simp[bF,hx,H7]
    refine ih _ k env aa ρ' T' a' w' hmk hk Xn (by simpa using hsz) (λj hj qz=>?_) (λj hj hj2=>(bP qq).2 (.inl (hlo j hj hj2))) Xo (λj hj hn=>hob j hj (λqz=>hn ((bP qq).2 (.inl qz)))) h
     (gy.ext λt' d' hl=>?_) (hg.step hs du) (hst.trans du)
    ·rcases(bP qq).1 qz with h5|h5
     ·exact Zi j hj h5
     ·omega
    ·obtain⟨h5,h6⟩:=oY hl
     simp only[look]
     cases Vg:(t==t')with
     |true=>
      have:t=t':=by simpa using Vg
      subst this
      rw[Lz]at h5
      simpa using h5
     | false =>
      have hne:t≠t':=by simpa using Vg
      simp only[aaM]
      rw[ug λj hj hn he=>?_]
      ·exact h5
      ·by_cases Ve:j=i
       ·subst Ve
        rw[hti]at he
        exact hne (abg he)
       ·exact h6 j hj (λqz=>(bP qq).1 qz|>.elim (λh7=>hn h7) (λh7=>Ve h7)) he
   · -- the next one of the tail
    have hik:k<=i:=by
     rcases aaZ i k with h3|h3
     ·exact absurd (hlo i OR h3) Fw
     ·exact h3
    obtain⟨x',hx',SK⟩:=hD.tail i (by simpa using wE) OR
    rw[hx]at hx'
    cases hx'
    have hie:i=k:=by
     rcases aaZ k i with h3|h3
     ·exfalso
      rcases SK k h3 with h4|⟨h4,_⟩
      ·exact Zi k (aaz _) (me jZ 2 i k h2 h4)
      ·omega
     ·omega
    subst hie
    have fJ:ops.size-i=(ops.size-(i+1))+1:=by omega
    rw[fJ]at h
    simp only[Fl,hx]at h
    have H8:∀j,j<m->¬done L j->j∈dly ops.toList m i/\∃y t,al[j]?=some y/\y.guard=none/\y.dst=some t/\x.dst≠some t/\t∉o6 x:=by
     intro j hj hn
     have hna:Kv ops.toList 2 i j=false:=by
      cases hb:Kv ops.toList 2 i j with
      |false=>rfl
      |true=>exact absurd (me jZ 2 i j h2 hb) hn
     refine⟨by simp[dly,hj,hna],?_⟩
     rcases SK j (by omega)with h4|⟨_,h4⟩
     ·rw[hna]at h4;cases h4
     ·exact h4
    have yL:∀t',t'∈o6 x->look (eY al m L env) t'=look env t':=λt' xq=>ug λj hj hn he=>by
     obtain⟨_,y,t,hy,_,H7,_,hyu⟩:=H8 j hj hn
     have:bF al j=some t:=by simp[bF,hy,H7]
     rw[this]at he
     cases he
     exact hyu xq
    refine BR hd.ctx ho q1 q2 q3 q4 hs hg (BS yL h) ?_
    intro env' aa ρ' T' a' w' h' gy du
    obtain⟨nC,sy,Nb,Pz⟩:∃nC,eQ n ρ' T' (eY al m (L.setIfInBounds i true) nC) aa a' w'/\tX C nC aa ((dly ops.toList m i).filterMap λj=>al[j]?)/\wY C (Fl ops.toList al m (i+1) (ops.size-(i+1))) nC aa K:=by
     have vq:∀j,j<m->¬done (L.setIfInBounds i true) j->¬done L j:=λj hj hn qz=>hn ((bP qq).2 (.inl qz))
     have PA:∀j,j<m->¬done L j->¬done (L.setIfInBounds i true) j:=λj hj hn qz=>(bP qq).1 qz|>.elim (λh7=>hn h7) (λh7=>by omega)
     simp only[ec,KH]at h'
     cases hxd:x.dst with
     |none=>
      rw[hxd]at h'
      obtain⟨rfl,h3,h4⟩:=h'
      refine⟨env,gy.ext λt' d' hl=>?_,h3,h4⟩
      obtain⟨h5,h6⟩:=oY hl
      rw[ug λj hj hn=>h6 j hj (PA j hj hn)]
      exact h5
     | some t =>
      rw[hxd]at h'
      obtain⟨d,rfl,h3,h4⟩:=h'
      refine⟨(t,d)::env,gy.ext λt' d' hl=>?_,h3,h4⟩
      obtain⟨h5,h6⟩:=oY hl
      simp only[look]at h5⊢
      cases Vg:(t==t')with
      |true=>rw[Vg]at h5;exact h5
      |false=>
       rw[Vg]at h5
       simp only[aaM]at h5⊢
       rw[ug λj hj hn=>h6 j hj (PA j hj hn)]
       exact h5
    refine ih _ (i+1) nC aa ρ' T' a' w' (by omega) (by omega) Xn (by simpa using hsz) (λj hj qz=>?_) (λj hj hj2=>?_) Xo (λj hj hn=>?_) Pz sy (hg.step hs du) (hst.trans du)
    ·rcases(bP qq).1 qz with h5|h5
     ·exact Zi j (by omega) h5
     ·omega
    ·refine(bP qq).2 ?_
     rcases aaZ j i with h5|h5
     ·exact .inl (hlo j hj h5)
     ·exact .inr (by omega)
    ·have SA:¬done L j:=λqz=>hn ((bP qq).2 (.inl qz))
     obtain⟨h5,y,t,hy,hyg,H7,_⟩:=H8 j hj SA
     exact⟨y,hy,hyg,⟨t,H7⟩,Ek Nb (acW.2 ⟨j,h5,hy⟩)⟩
section
variable {ops:Array Oper} {al:List aY} {m:Nat} {env:Env} {Dd:Nat->D} {R:Nat->Rows}
theorem Gp.come(h:Gp C P n ops al m env Dd R){L:Array Bool}{kz ρ:Pl}{T0 T:Nat->Prop}{a:Act}{w0 w:World}(hI:Ky C n al m env Dd R kz T0 w0 L ρ T a w):
  eQ n ρ T (eY al m L (nh al Dd env m)) (R m) a w:=by
 refine⟨⟨λr row Lc h1 h2=>?_,λr r' row row' Lc H5 h1 h2 h3 h4=>?_⟩,λt d hl=>?_,hI.size,hI.wC,hI.wD,hI.defers⟩
 ·have hr:=bb h1
  have:=(hI.rows m (aaz _)).row r row Lc h1 (by unfold kq;rw[aaI hr];exact h2)
  exact this.mono lL (λ_ _=>rfl) (λ_ h=>h) rfl this.nZ
 ·have hr:=bb h1
  have uY:=bb h2
  exact(hI.rows m (aaz _)).kx r r' row row' Lc H5 h1 h2 (by unfold kq;rw[aaI hr];exact h3) (by unfold kq;rw[aaI uY];exact h4)
 ·obtain⟨h5,h6⟩:=oY hl
  exact(h.sees hI (aaz _) (λj hj he=>⟨abm λhn=>h6 j hj hn he,hj⟩) h5).mono lL (λ_ _=>rfl) (λ_ h=>h)
theorem Gp.any2 (hD : DOK2 ops.toList al m) (h : Gp C P n ops al m env Dd R) {K : Env -> Rows -> Prop} {Q' : Exit -> Act -> World -> Prop} {kz : Pl} {T0 : Nat -> Prop} {w0 : World}
  (hst:tX C (nh al Dd env m) (R m) ((dly ops.toList m m).filterMap λj=>al[j]?))(Vf:wY C (Fl ops.toList al m m (ops.size-m)) (nh al Dd env m) (R m) K)
  (hK:∀env' aa ρ' T' a' w',K env' aa->eQ n ρ' T' env' aa a' w'->Step kz T0 (R 0) w0 ρ' T' aa w'->Q' .normal a' w'):
  ∀(fuel:Nat) (L:Array Bool) (ρ:Pl) (T:Nat->Prop) (a:Act) (w:World),j2 L ops.size<=fuel->L.size=ops.size->(∀j,done L j->j<m)->(∀i,done L i->∀j,wP ops.toList i j=true->done L j)->Ky C n al m env Dd R kz T0 w0 L ρ T a w->wpAny P .any ops Q' fuel L a w:=by
 obtain⟨hlen,lK⟩:=h.toSE.get
 have hm:m<=ops.size:=by have:=h.ok.le;simpa using this
 intro fuel
 have go:∀(fuel:Nat) (L:Array Bool) (ρ:Pl) (T:Nat->Prop) (a:Act) (w:World),j2 L ops.size<=fuel->L.size=ops.size->(∀j,done L j->j<m)->(∀i,done L i->∀j,wP ops.toList i j=true->done L j)->Ky C n al m env Dd R kz T0 w0 L ρ T a w->
   ((∀j,j<m->done L j)\/∃i,i∈Region.ready .any ops L/\m<=i)->wpAny P .any ops Q' fuel L a w:=by
  intro fuel L ρ T a w hf hsz RP jZ hI hq
  refine Xm hD h.toSE hK fuel L m _ _ ρ T a w (aaz _) hm hf hsz (λj hj qz=>by have:=RP j qz;omega) (λj h1 h2=>by omega) jZ (λj hj hn=>?_) Vf (h.come hI) hI.aX hI.step
  rcases hq with hq|⟨i,hi,hmi⟩
  ·exact absurd (hq j hj) hn
  ·obtain⟨⟨o',SH⟩,h1,h2⟩:=jH hi
   have wE:i<ops.size:=(aaX.1 SH).1
   obtain⟨x,hx,SK⟩:=hD.tail i (by simpa using wE) hmi
   have OR:i=m:=by
    rcases aaZ m i with h3|h3
    ·exfalso
     rcases SK m h3 with h4|⟨h4,_⟩
     ·have:=RP m (me jZ 2 i m h2 h4);omega
     ·omega
    ·omega
   subst OR
   have hna:Kv ops.toList 2 i j=false:=by
    cases hb:Kv ops.toList 2 i j with
    |false=>rfl
    |true=>exact absurd (me jZ 2 i j h2 hb) hn
   rcases SK j hj with h4|⟨_,y,t,hy,hyg,H7,_⟩
   ·rw[hna]at h4;cases h4
   ·exact⟨y,hy,hyg,⟨t,H7⟩,Ek hst (acW.2 ⟨j,by simp[dly,hj,hna],hy⟩)⟩
 induction fuel with
 |zero=>
  intro L ρ T a w hf hsz RP jZ hI
  refine go 0 L ρ T a w hf hsz RP jZ hI (.inl λj hj=>?_)
  refine abm λhn=>?_
  have:=kY (k:=ops.size) (i:=j) (by omega) (by omega) (nE hn (by omega))
  omega
 | succ fuel ih =>
  intro L ρ T a w hf hsz RP jZ hI
  by_cases hq:(∀j,j<m->done L j)\/∃i,i∈Region.ready .any ops L/\m<=i
  ·exact go (fuel+1) L ρ T a w hf hsz RP jZ hI hq
  ·have bQ : ¬ ∀ j, j < m -> done L j := λh => hq (.inl h)
   refine⟨λhr=>?_,λi hi=>?_⟩
   ·exfalso
    --the least one not done is ready
    have key : ∀ k, (∀ j, j < k -> j < m -> done L j) \/ ∃ j, j < k /\ j < m /\ ¬ done L j /\ ∀ j', j' < j -> done L j' := by
     intro k
     induction k with
     |zero=>left;intro j hj;omega
     | succ k ihk =>
      rcases ihk with h1|⟨j,q1,q2,q3,q4⟩
      ·by_cases hk:k<m/\¬done L k
       ·right
        exact⟨k,by omega,hk.1,hk.2,λj' oe=>h1 j' oe (by omega)⟩
       ·left
        intro j hj hjm
        rcases aaZ j k with h3|h3
        ·exact h1 j h3 hjm
        ·have:j=k:=by omega
         subst this
         refine abm λhn=>?_
         exact hk ⟨hjm,hn⟩
      ·right;exact⟨j,by omega,q2,q3,q4⟩
    rcases key m with h1|⟨j,q1,q2,q3,q4⟩
    ·exact bQ λj hj=>h1 j hj hj
    ·have:j∈Region.ready .any ops L:=xz (by omega) (nE q3 (by omega)) (λj' oe=>q4 j' (h.ok.back j j' oe))
     rw[hr]at this
     cases this
   ·obtain⟨⟨o',SH⟩,h1,h2⟩:=jH hi
    have wE:i<ops.size:=(aaX.1 SH).1
    obtain⟨Fw,qq⟩:=sN h1
    have OR:i<m:=by
     rcases aaZ i m with h3|h3
     ·exact h3
     ·exact absurd (.inr ⟨i,hi,h3⟩) hq
    obtain⟨o,x,ho,hx,q1,q2,q3,q4⟩:=lK i wE
    obtain⟨x',new,hx',hR,hE⟩:=h.tr i OR
    rw[hx]at hx'
    cases hx'
    obtain⟨x',o',hx',ho'',hqa,hqo,_,hu⟩:=h.ok.quiet i OR
    rw[hx]at hx'
    cases hx'
    have ho3:ops[i]?=some o':=by simpa using ho''
    rw[ho]at ho3
    cases ho3
    have hs:eQ n (kq ρ (R i).length) T (small (nh al Dd env i) (o6 x)) (R i) a w:=by
     refine⟨hI.rows i (by omega),λt d hl=>?_,hI.size,hI.wC,λr hr=>?_,hI.defers⟩
     ·obtain⟨ht,hl⟩:=yM hl
      refine h.sees hI (by omega) (λj hj Vc=>?_) hl
      have:=hu t ht j hj Vc
      exact⟨h2 j this,h.ok.back i j this⟩
     ·unfold kq;rw[aaA (by omega)]
    have pU:bF al i=o.dst:=by simp[bF,hx,q4]
    refine ex_wp h.nor h.ctx ho q2 q3 hs hI.aX hqo hE.congr ?_
    intro ρ' T' v w' gy du mN Lm
    have Pw:=h.next hI OR qq Fw (λt ht=>yJ q1 t (by rw[<-pU];exact ht)) gy du mN Lm.1 Lm.2
    rw[pU]at Pw
    refine ih _ _ T' _ w' ?_ (by simpa using hsz) (λj hj=>?_) (λi' hi' j hj=>?_) Pw
    ·have:=kY wE qq h1
     omega
    ·rcases(bP qq).1 hj with h3|h3
     ·exact RP j h3
     ·omega
    ·refine(bP qq).2 (.inl ?_)
     rcases(bP qq).1 hi' with h3|h3
     ·exact jZ i' h3 j hj
     ·subst h3;exact h2 j hj
end
theorem SL{al:List aY}{m j:Nat}(hj:j<m):bF (al.take m) j=bF al j:=by
 unfold bF
 rw[abr hj]
theorem uh{al:List aY}{m:Nat}{Dd:Nat->D}{env:Env}:∀(i:Nat),i<=m->nh (al.take m) Dd env i=nh al Dd env i
 |0,_=>rfl
 |i+1,h=>by simp only[nh,uh (m:=m) i (by omega),SL (j:=i) (show i<m by omega)]
theorem PC(hN:∀f,C.fy f=none)(hC:aJ C P)(hP:P.follows .mixedOrders=true){id:Nat}{ops:Array Oper}{al:List aY}{m:Nat}(hc:wZ P n ops.toList ops.toList=some al)(hd:WX ops.toList al m=true)
  {env:Env}{rows:Rows}{ρ:Pl}{T:Nat->Prop}{a:Act}{w:World}{Q:fI->Env->Rows->Prop}{Q':Exit->Act->World->Prop}
  (h:ec C (al.take m) env rows λenv rows=>tX C env rows ((dly ops.toList m m).filterMap λj=>al[j]?)/\wY C (Fl ops.toList al m m (ops.toList.length-m)) env rows (Q .normal))(hs:eQ n ρ T env rows a w)(hg:eJ C w T)
  (hp:Post n ρ T rows w Q Q'):(Code.region id ops true).wp P Q' a w:=by
 have hok:=Xi hd
 have hlen:=(xy hc).1
 have H9:m<=al.length:=by rw[hlen];exact hok.le
 have hq:∀i,i<m->∃x,(al.take m)[i]?=some x/\mE x.op=true:=by
  intro i hi
  obtain⟨x,o,h1,_,h3,_⟩:=hok.quiet i hi
  exact⟨x,by rw[abr hi];exact h1,h3⟩
 obtain⟨Dd,R,h0,h1,h2⟩:=trace hN m (by simp;omega) hq h
 subst h0
 have Sp:(al.take m).drop m=[]:=aci (by simp;omega)
 rw[Sp,uh m (aaz _)]at h2
 obtain⟨h2a,h2b⟩:=h2
 have h1':∀i,i<m->∃x new,al[i]?=some x/\R (i+1)=R i++new/\Ex C (nh al Dd env i) (R i) x (Dd i) (R (i+1)):=by
  intro i hi
  obtain⟨x,new,q1,q2,q3⟩:=h1 i hi
  rw[abr hi]at q1
  rw[uh i (by omega)]at q3
  exact⟨x,new,q1,q2,q3⟩
 have hrun:Gp C P n ops al m env Dd R:=⟨⟨hok.toDOK0,hc,hC⟩,hN,h1'⟩
 have hw1:eQ n ρ T env (R 0) a {w with drawn:=w.drawn+1}:=hs.heap rfl
 have Xl:eJ C {w with drawn:=w.drawn+1} T:=hg.keep (λ_ _=>rfl) (λ_ h=>h)
 have SI:∀j,¬done (Array.replicate ops.size false) j:=by
  intro j hj
  unfold done at hj
  simp[Array.getD]at hj
 have hsz:ops.toList.length-m=ops.size-m:=by simp
 rw[hsz]at h2b
 refine wp_region_any hP (hrun.any2 hok h2a h2b (w0:={w with drawn:=w.drawn+1}) (kz:=ρ) (T0:=T) ?_ ops.size _ ρ T a _ ?_ (by simp) (λj hj=>absurd hj (SI j)) (λi hi=>absurd hi (SI i)) (hrun.start hw1 Xl SI))
 ·intro env' aa ρ' T' a' w' hk gy du
  exact hp .normal env' aa ρ' T' a' w' hk gy ⟨du.pl,du.tt,du.wB,du.size,du.keep,du.fresh,du.os,du.tape,du.output,du.len,du.same⟩
 ·unfold j2
  exact abd (acX _ _) (by simp)
theorem PD(hC:aJ C P)(hP:P.follows .mixedOrders=true){id:Nat}{ops:Array Oper}{al:List aY}{m:Nat}(hc:wZ P n ops.toList ops.toList=some al)(hd:dOK ops.toList al m=true)
  {env:Env}{rows:Rows}{ρ:Pl}{T:Nat->Prop}{a:Act}{w:World}{Q:fI->Env->Rows->Prop}{Q':Exit->Act->World->Prop}
  (h:ec C.quiet (al.take m) env rows λenv rows=>ec C (al.drop m) env rows (Q .normal))(hs:eQ n ρ T env rows a w)(hg:eJ C w T)
  (hp:Post n ρ T rows w Q Q'):(Code.region id ops true).wp P Q' a w:=by
 have hok:=Pr hd
 have hlen:=(xy hc).1
 have H9:m<=al.length:=by rw[hlen];exact hok.le
 have hq:∀i,i<m->∃x,(al.take m)[i]?=some x/\mE x.op=true:=by
  intro i hi
  obtain⟨x,o,h1,_,h3,_⟩:=hok.quiet i hi
  exact⟨x,by rw[abr hi];exact h1,h3⟩
 have hN:∀f,C.quiet.fy f=none:=λ_=>rfl
 obtain⟨Dd,R,h0,h1,h2⟩:=trace hN m (by simp;omega) hq h
 subst h0
 have Sp:(al.take m).drop m=[]:=aci (by simp;omega)
 rw[Sp,uh m (aaz _)]at h2
 have Zj:ec C (al.drop m) (nh al Dd env m) (R m) (Q .normal):=h2
 have h1':∀i,i<m->∃x new,al[i]?=some x/\R (i+1)=R i++new/\Ex C.quiet (nh al Dd env i) (R i) x (Dd i) (R (i+1)):=by
  intro i hi
  obtain⟨x,new,q1,q2,q3⟩:=h1 i hi
  rw[abr hi]at q1
  rw[uh i (by omega)]at q3
  exact⟨x,new,q1,q2,q3⟩
 have hrun:Gp C.quiet P n ops al m env Dd R:=⟨⟨hok.toDOK0,hc,hC.quiet⟩,hN,h1'⟩
 have hw1:eQ n ρ T env (R 0) a {w with drawn:=w.drawn+1}:=hs.heap rfl
 have Sq:eJ C.quiet w T:=hg
 have Xl:eJ C.quiet {w with drawn:=w.drawn+1} T:=Sq.keep (λ_ _=>rfl) (λ_ h=>h)
 have SI:∀j,¬done (Array.replicate ops.size false) j:=by
  intro j hj
  unfold done at hj
  simp[Array.getD]at hj
 refine wp_region_any hP (hrun.any hok hC (λ_ _ h=>h) Zj (w0:={w with drawn:=w.drawn+1}) (kz:=ρ) (T0:=T) ?_ ops.size _ ρ T a _ ?_ (by simp) (λj hj=>absurd hj (SI j)) (λi hi=>absurd hi (SI i)) (hrun.start hw1 Xl SI))
 ·intro env' aa ρ' T' a' w' hk gy du
  exact hp .normal env' aa ρ' T' a' w' hk gy ⟨du.pl,du.tt,du.wB,du.size,du.keep,du.fresh,du.os,du.tape,du.output,du.len,du.same⟩
 ·unfold j2
  exact abd (acX _ _) (by simp)
theorem Xp{ops:List Oper}{al:List aY}{m:Nat}(h:MZ ops al=some m):dOK ops al m=true:=by
 unfold MZ at h
 have:=List.find?_some h
 simpa using this
end Go.Am
namespace Go.Am
variable {C:bf} {P:Program} {n:Nat}
def undF(al:List aY)(F:List Nat)(L:Array Bool):List Nat:=F.filterMap λj=>bif L.getD j false then none else bF al j
theorem PE{al:List aY}{F:List Nat}{L:Array Bool}{t:Nat}:t∈undF al F L↔∃j,j∈F/\¬done L j/\bF al j=some t:=by
 unfold undF done
 rw[acW]
 constructor
 ·rintro⟨j,hj,h⟩
  cases hb:L.getD j false with
  |true=>rw[hb]at h;cases h
  |false=>rw[hb]at h;exact⟨j,hj,by rw[hb];simp,h⟩
 ·rintro⟨j,hj,h1,h2⟩
  refine⟨j,hj,?_⟩
  have:L.getD j false=false:=by simpa using h1
  rw[this];exact h2
def y9(al:List aY)(F:List Nat)(L:Array Bool)(env:Env):Env:=Px env (undF al F L)
theorem mT{al:List aY}{F:List Nat}{L:Array Bool}{env:Env}{t:Nat}(h:∀j,j∈F->¬done L j->bF al j≠some t):look (y9 al F L env) t=look env t:=by
 unfold y9
 rw[uf,aaA]
 rw[PE]
 rintro⟨j,h1,h2,h3⟩
 exact h j h1 h2 h3
theorem iY{al:List aY}{F:List Nat}{L:Array Bool}{env:Env}{t:Nat}{d:D}(h:look (y9 al F L env) t=some d):look env t=some d/\∀j,j∈F->¬done L j->bF al j≠some t:=by
 unfold y9 at h
 rw[uf]at h
 split at h
 ·cases h
 ·rename_i hn
  refine⟨h,λj h1 h2 h3=>hn (PE.2 ⟨j,h1,h2,h3⟩)⟩
def kZ(env:Env)(t:Nat):Option Nat:=match look env t with
 |some (.ptr _ r _)=>some r
 |some (.sl _ r _ _ _ _)=>some r
 | _=>none
def tG:nY->Bool
 | .alloc _ _=>true
 | .iX _ _ _ _=>true
 | _=>false
structure FInv (al:List aY) (F:List Nat) (L:Array Bool) (b0:Nat) (env:Env) (rows:Rows) (ρ:Pl):Prop where
 hole:∀j,j∈F->¬done L j->∀x t,al[j]?=some x->x.dst=some t->tG x.op=true->∃r,kZ env t=some r/\b0<=r/\r<rows.length/\ρ r=none
 kx:∀j j',j∈F->j'∈F->¬done L j->¬done L j'->j≠j'->∀x t x' t',al[j]?=some x->x.dst=some t->tG x.op=true->al[j']?=some x'->x'.dst=some t'->tG x'.op=true->kZ env t≠kZ env t'
mutual
theorem LA:∀(d:D),Gi d=true->∀x∈d.flat,∃v,x= .raw v
 | .raw v,_,x,hx=>by simp[D.flat]at hx;exact⟨v,hx⟩
 | .agg s l,h,x,hx=>by
  simp only[D.flat]at hx
  exact Ia l (by simpa[Gi]using h) x hx
 | .ptr _ _ _,h,_,_=>by simp[Gi]at h
 | .sl _ _ _ _ _ _,h,_,_=>by simp[Gi]at h
 | .nX _ _ _ _ _,h,_,_=>by simp[Gi]at h
 | .cI _ _ _,h,_,_=>by simp[Gi]at h
 | .cd _,h,_,_=>by simp[Gi]at h
 | .cA _,h,_,_=>by simp[Gi]at h
 | .mp _,h,_,_=>by simp[Gi]at h
 | .om _ _,h,_,_=>by simp[Gi]at h
theorem Ia:∀(l:List D),US l=true->∀x∈aA l,∃v,x= .raw v
 |[],_,x,hx=>by simp[aA]at hx
 |d::l,h,x,hx=>by
  simp only[US,aan]at h
  simp only[aA,aaQ]at hx
  rcases hx with hx|hx
  ·exact LA d h.1 x hx
  ·exact Ia l h.2 x hx
end
theorem Ng{o:nY}(h:D7 o=true):mE o=true:=by cases o<;>first|exact h|rfl|(simp[D7]at h)
theorem Xq(hN:∀f,C.fy f=none){env:Env}{rows:Rows}{o:nY}{k:D->Rows->Prop}(hf:D7 o=true)(h:dW C env rows o k):
  ∃d new,k d (rows++new)/\(tG o=true->new.length=1/\∀t env,kZ ((t,d)::env) t=some rows.length):=by
 cases hm:tG o with
 |false=>
  obtain⟨d,new,h1,_⟩:=GV hN o (Ng hf) _ h
  exact⟨d,new,h1,λh=>by cases h⟩
 | true =>
  cases o with
  |alloc s z=>exact⟨_,_,h,λ_=>⟨rfl,λt env=>by simp[kZ,look]⟩⟩
  |iX s m z ps=>
   obtain⟨l,_,h2⟩:=au h
   exact⟨_,_,h2,λ_=>⟨rfl,λt env=>by simp[kZ,look]⟩⟩
  | _=>cases hm
theorem ui{ops:List Oper}{al:List aY}{i:Nat}(h:fOK ops al i=true):∃o x t,ops[i]?=some o/\al[i]?=some x/\D7 x.op=true/\gG o.op=true/\x.guard=none/\x.dst=some t:=by
 unfold fOK at h
 split at h
 ·rename_i o x ho hx
  simp only[aan]at h
  obtain⟨⟨⟨h1,h2⟩,h3⟩,h4⟩:=h
  obtain⟨t,ht⟩:=ac6.1 h4
  exact⟨o,x,t,ho,hx,h1,h2,by simpa using h3,ht⟩
 ·cases h
theorem uj{ops:List Oper}{al:List aY}{prev:Option Nat}{F:List Nat}{i:Nat}(h:okF1 ops al prev F i=true):
  fOK ops al i=true/\i∉F/\(∀j∈F,bF al j≠bF al i)/\(∀c,prev=some c->Kv ops 2 i c=true)/\∀x,al[i]?=some x->∀t∈o6 x,∀j,j<ops.length->bF al j=some t->wP ops i j=true:=by
 simp only[okF1,aan]at h
 obtain⟨⟨⟨⟨h1,h2⟩,h3⟩,h4⟩,h5⟩:=h
 refine⟨h1,by simpa using h2,λj hj=>?_,λc hc=>?_,λx hx t ht j hj hd=>?_⟩
 ·have:=aa7.1 h3 j hj
  simpa using this
 ·subst hc;exact h4
 ·rw[hx]at h5
  have:=aa7.1 (aa7.1 h5 t ht) j (by simpa using hj)
  simpa[hd]using this
theorem o9{ops:List Oper}{al:List aY}{prev:Option Nat}:∀{l F:List Nat},D8 ops al prev F l=true->∀i∈l,fOK ops al i=true/\(∀c,prev=some c->Kv ops 2 i c=true)/\∀x,al[i]?=some x->∀t∈o6 x,∀j,j<ops.length->bF al j=some t->wP ops i j=true
 |[],_,_,i,hi=>by simp at hi
 | k :: l, F, h, i, hi => by
  simp only[D8,aan]at h
  rcases aaW.1 hi with rfl|hi
  ·obtain⟨h1,_,_,h4,h5⟩:=uj h.1
   exact⟨h1,h4,h5⟩
  ·exact o9 h.2 i hi
theorem atL_cons{al:List aY}{i:Nat}{l:List Nat}{x:aY}(h:al[i]?=some x):WY al (i::l)=x::WY al l:=by
 simp[WY,h]
theorem Ib{ops:List Oper}{al:List aY}{L:Array Bool}{b0:Nat}{ρ:Pl}{T:Nat->Prop}{a:Act}{w:World}{prev:Option Nat}{K:Env->Rows->Prop}(hN:∀f,C.fy f=none):∀(fl F:List Nat) (env:Env) (rows:Rows),D8 ops al prev F fl=true->ec C (WY al fl) env rows K->(∀j∈fl,¬done L j)->
  FInv al F L b0 env rows ρ->b0<=rows.length->eQ n ρ T (y9 al F L env) rows a w->∃env' aa,K env' aa/\FInv al (F++fl) L b0 env' aa ρ/\eQ n ρ T (y9 al (F++fl) L env') aa a w/\∃new,aa=rows++new
 |[],F,env,rows,_,h,_,hI,_,hs=>⟨env,rows,h,by rw[aaL];exact hI,by rw[aaL];exact hs,[],by simp⟩
 | i :: l, F, env, rows, hok, h, Fw, hI, hb, hs => by
  simp only[D8,aan]at hok
  obtain⟨h1,hiF,huq,_,_⟩:=uj hok.1
  obtain⟨o,x,t,ho,hx,hfa,_,hg,ht⟩:=ui h1
  have hdi:bF al i=some t:=by simp[bF,hx,ht]
  rw[atL_cons hx]at h
  obtain⟨dst,op,g⟩:=x
  simp only at hfa hg ht
  subst hg
  subst ht
  obtain⟨d,new,h2,hmk⟩:=Xq hN hfa h
  have hni:¬done L i:=Fw i (.head _)
  have Hz:∀j∈F,∀t',bF al j=some t'->look ((t,d)::env) t'=look env t':=by
   intro j hj t' oe
   have hne:t≠t':=λe=>huq j hj (by rw[oe,hdi,e])
   have:(t==t')=false:=by simpa using hne
   simp[look,this]
  have hho:∀j∈F,∀t',bF al j=some t'->kZ ((t,d)::env) t'=kZ env t':=by
   intro j hj t' oe
   unfold kZ
   rw[Hz j hj t' oe]
  have Pw:FInv al (F++[i]) L b0 ((t,d)::env) (rows++new) ρ:=by
   refine⟨λj hj Fx x' t' hx' xq hm'=>?_,λj j' hj oe Fx Nh hne x1 t1 x2 t2 sn OS pE BQ ht2 KA=>?_⟩
   ·rcases aaQ.1 hj with hj|hj
    ·obtain⟨r,q1,q2,q3,q4⟩:=hI.hole j hj Fx x' t' hx' xq hm'
     exact⟨r,by rw[hho j hj t' (by simp[bF,hx',xq])];exact q1,q2,by rw[aao];omega,q4⟩
    ·rw[abf.1 hj]at hx'
     rw[hx]at hx'
     cases hx'
     cases xq
     obtain⟨q1,q2⟩:=hmk hm'
     exact⟨rows.length,q2 _ _,hb,by rw[aao,q1];omega,hs.wD _ (aaz _)⟩
   ·have one:∀(j:Nat),j∈F->¬done L j->∀(x1:aY) (t1:Nat),al[j]?=some x1->x1.dst=some t1->tG x1.op=true->tG op=true->kZ ((t,d)::env) t1≠kZ ((t,d)::env) t:=by
     intro j hj Fx x1 t1 sn OS pE hmo he
     obtain⟨r,q1,q2,q3,q4⟩:=hI.hole j hj Fx x1 t1 sn OS pE
     rw[hho j hj t1 (by simp[bF,sn,OS]),q1,(hmk hmo).2]at he
     cases he
     omega
    rcases aaQ.1 hj with hj|hj
    ·rcases aaQ.1 oe with oe|oe
     ·rw[hho j hj t1 (by simp[bF,sn,OS]),hho j' oe t2 (by simp[bF,BQ,ht2])]
      exact hI.kx j j' hj oe Fx Nh hne x1 t1 x2 t2 sn OS pE BQ ht2 KA
     ·rw[abf.1 oe,hx]at BQ
      cases BQ
      cases ht2
      exact one j hj Fx x1 t1 sn OS pE KA
    ·rw[abf.1 hj,hx]at sn
     cases sn
     cases OS
     rcases aaQ.1 oe with oe|oe
     ·exact(one j' oe Nh x2 t2 BQ ht2 KA pE).symm
     ·exact absurd ((abf.1 hj).trans (abf.1 oe).symm) hne
  have gy:eQ n ρ T (y9 al (F++[i]) L ((t,d)::env)) (rows++new) a w:=by
   have y8:∀r Lc,ρ r=some Lc->r<rows.length:=by
    intro r Lc hr
    rcases aaZ r rows.length with h1|h1
    ·exact h1
    ·rw[hs.wD r h1]at hr;cases hr
   refine⟨⟨λr row Lc q1 q2=>?_,λr r' row row' Lc H5 q1 q2 q3 q4=>?_⟩,λt' d' hl=>?_,hs.size,hs.wC,λr hr=>hs.wD r (by rw[aao]at hr;omega),hs.defers⟩
   ·rw[fK rfl (y8 r Lc q2)]at q1
    exact hs.bE.row r row Lc q1 q2
   ·rw[fK rfl (y8 r Lc q3)]at q1
    rw[fK rfl (y8 r' H5 q4)]at q2
    exact hs.bE.kx r r' row row' Lc H5 q1 q2 q3 q4
   ·obtain⟨q1,q2⟩:=iY hl
    have hne:t≠t':=λe=>q2 i (by simp) hni (by rw[hdi,e])
    have HF:(t==t')=false:=by simpa using hne
    simp only[look,HF,aaM]at q1
    refine hs.env t' d' ?_
    rw[mT λj hj hn=>q2 j (by simp[hj]) hn]
    exact q1
  obtain⟨env',aa,k1,k2,k3,new',k4⟩:=Ib hN l (F++[i]) ((t,d)::env) (rows++new) hok.2 h2 (λj hj=>Fw j (.tail _ hj)) Pw (by rw[aao];omega) gy
  exact⟨env',aa,k1,by rw[aaC]at k2;exact k2,by rw[aaC]at k3;exact k3,new++new',by rw[k4,aaC]⟩
structure Mk (C:bf) (env:Env) (rows:Rows) (op:nY) (d:D) (r0:Nat) (d0:D) (row:Row):Prop where
 run:∀k:D->Rows->Prop,k d0 (rows++[some row])->dW C env rows op k
 lv:live rows r0=some row
 raw:(∀e∈row.els,aL row.sh e)->∀y∈aA row.els,∃v,y= .raw v
 vr:∀(ρ1 RQ:Pl) (w:World) (T:Nat->Prop) (v:Value),ρ1 rows.length=RQ r0->VR ρ1 w T d0 v->VR RQ w T d v
theorem mk_of{env henv:Env}{rows:Rows}{op:nY}{t:Nat}(hm:tG op=true)(hf:D7 op=true)(yL:∀y∈op.xs,ev C henv y=ev C env y)(h:mB C env rows op t):
  ∃d r0 d0 row,look env t=some d/\kZ env t=some r0/\Mk C henv rows op d r0 d0 row:=by
 cases op with
 | alloc s z =>
  obtain⟨d,hd,h⟩:=au h
  cases d with
  | ptr s' r p =>
   obtain⟨rfl,rfl,hl⟩:=h
   refine⟨_,r,.ptr s' rows.length [0],⟨s',[z]⟩,hd,by simp[kZ,hd],λk hk=>hk,hl,λ_ y hy=>?_,λρ1 RQ w T v he hv=>?_⟩
   ·simp only[aA,aaL]at hy
    exact LA z hf y hy
   ·have:=hv.BE rfl
    cases this with
    |ptr _ _ _ L h1 h2=>exact VR.bH (.ptr _ _ _ L (by rw[<-he];exact h1) h2)
  | _=>exact h.elim
 | iX s m z ps =>
  obtain⟨l,Fy,h⟩:=au h
  obtain⟨d,hd,h⟩:=au h
  cases d with
  | sl s' r p off len ex =>
   obtain⟨rfl,rfl,rfl,rfl,rfl,hl⟩:=h
   refine⟨_,r,.sl s' rows.length [] 0 len true,⟨s',l⟩,hd,by simp[kZ,hd],λk hk=>?_,hl,λhe y hy=>ky he hf y hy,λρ1 RQ w T v he hv=>?_⟩
   ·show bn (oZ C henv (Sh.ar len s').sub ps (List.replicate len z)) _
    rw[sM (env':=env) yL,Fy]
    exact hk
   ·have:=hv.BE rfl
    cases this with
    |sl _ _ _ _ _ _ L cap h1 h2 h3 h4=>exact VR.bH (.sl _ _ _ _ _ _ L cap (by rw[<-he];exact h1) h2 h3 h4)
    |Bw _ _ _ _ _ a=>exact VR.bH (.Bw _ _ _ _ _ a)
  | _=>exact h.elim
 | _=>cases hm
theorem Xr{o:Oper}{op:nY}{env:Env}{rows eG:Rows}{ρ kz:Pl}{T T0:Nat->Prop}{a:Act}{w w0:World}{d d0:D}{r0:Nat}{row:Row}{next:Act->World->Prop}{Q':Exit->Act->World->Prop}
  (hN:∀f,C.fy f=none)(hC:aJ C P)(hop:cOp P o.op=some op)(hq:gG o.op=true)(hs:eQ n ρ T env rows a w)(hg:eJ C w T)(M:Mk C env rows op d r0 d0 row)(hr0:ρ r0=none)(hb:eG.length<=r0)(hst:Step kz T0 eG w0 ρ T rows w)
  (hn:∀ρ' T' v w',eQ n ρ' T' env rows a w'->VR ρ' w' T' d v->Step kz T0 eG w0 ρ' T' rows w'->eJ C w' T'->(∀r,r≠r0->ρ' r=ρ r)->next (a.put o.dst v) w'):o.wp P a w next Q':=by
 refine xp hs hg hC hop (M.run (λd2 r2=>d2=d0/\r2=rows++[some row]) ⟨rfl,rfl⟩) ?_
 rintro d2 r2 ρ' T' v w' ⟨rfl,rfl⟩ gy du hv hk
 obtain⟨hqh,qo⟩:=hk hN hq
 have hr0l:=bb M.lv
 let Kz:Pl:=λr=>if r=r0 then ρ' rows.length else ρ r
 have e0:Kz r0=ρ' rows.length:=aaI rfl
 have e1:∀r,r≠r0->Kz r=ρ r:=λr hr=>aaA hr
 have hA:∀r Lc,ρ r=some Lc->Kz r=some Lc:=by
  intro r Lc hr
  rw[e1 r (λe=>by rw[e,hr0]at hr;cases hr)]
  exact hr
 have y8:∀r Lc,ρ r=some Lc->r<rows.length:=by
  intro r Lc hr
  rcases aaZ r rows.length with h1|h1
  ·exact h1
  ·rw[hs.wD r h1]at hr;cases hr
 have hw:∀b,T b->w'.heap[b]?=w.heap[b]?:=λb hb=>by
  rcases hqh b (hs.wC b hb)with h1|⟨_,r,row',Lc,h2,h3,rfl⟩
  ·exact h1
  ·exact absurd hb (hs.bE.row r row' Lc h2 h3).nZ
 have hlN:live (rows++[some row]) rows.length=some row:=vR rows row
 have hold:∀r row' Lc,live rows r=some row'->ρ r=some Lc->nu Kz row' Lc w' T':=by
  intro r row' Lc h1 h2
  have hro:=hs.bE.row r row' Lc h1 h2
  refine hro.ZN hA hw du.tt ((hqh _ hro.lt).imp_right (·.1)) (λhT=>?_)
  rcases qo _ hT with h4|h4
  ·exact hro.nZ h4
  ·have:=hro.lt;omega
 have jr:∀Lc,ρ' rows.length=some Lc->nu Kz row Lc w' T':=by
  intro Lc h
  have hro:=gy.bE.row rows.length row Lc hlN h
  refine⟨hro.sh,hro.nZ,hro.els,λhm=>?_,hro.qO⟩
  obtain⟨cur,t,q1,q2,q3,q4⟩:=hro.cells hm
  exact⟨cur,t,q1,q2,q3,q4.ofRaw (M.raw hro.els)⟩
 have tV:∀r Lc,ρ r=some Lc->ρ' r=some Lc:=du.pl
 have sy:eQ n Kz T' env rows a w':=by
  refine⟨⟨λr row' Lc h1 h2=>?_,λr r' Gj pH Lc H5 h1 h2 h3 h4 hne=>?_⟩,λt' d' hl=>(hs.env t' d' hl).mono hA hw du.tt,gy.size,gy.wC,λr hr=>?_,gy.defers⟩
  ·by_cases hr:r=r0
   ·subst hr
    rw[M.lv]at h1
    cases h1
    rw[e0]at h2
    exact jr Lc h2
   ·rw[e1 r hr]at h2
    exact hold r row' Lc h1 h2
  ·by_cases hr:r=r0
   ·have uY:r'≠r0:=λe=>hne (hr.trans e.symm)
    subst hr
    rw[e0]at h3
    rw[e1 r' uY]at h4
    have nV:=y8 r' H5 h4
    exact gy.bE.kx rows.length r' row pH Lc H5 hlN (by rw[fK rfl nV];exact h2) h3 (tV _ _ h4) (by omega)
   ·rw[e1 r hr]at h3
    have hl:=y8 r Lc h3
    by_cases uY:r'=r0
    ·subst uY
     rw[e0]at h4
     exact gy.bE.kx r rows.length Gj row Lc H5 (by rw[fK rfl hl];exact h1) hlN (tV _ _ h3) h4 (by omega)
    ·rw[e1 r' uY]at h4
     exact hs.bE.kx r r' Gj pH Lc H5 h1 h2 h3 h4 hne
  ·rw[e1 r (by omega)]
   exact hs.wD r hr
 have htr:=hst.trans du
 refine hn Kz T' v w' sy (M.vr ρ' Kz w' T' v e0.symm hv) ⟨λr Lc hr=>hA r Lc (hst.pl r Lc hr),htr.tt,htr.wB,htr.size,htr.keep,λr row' Lc h1 h2=>?_,htr.os,htr.tape,htr.output,hst.len,λr hr=>?_⟩ (hg.step hs du) e1
 ·by_cases hr:r=r0
  ·subst hr
   rw[e0]at h2
   exact htr.fresh rows.length row Lc hlN h2
  ·rw[e1 r hr]at h2
   have hl:=y8 r Lc h2
   exact htr.fresh r row' Lc (by rw[fK rfl hl];exact h1) (tV _ _ h2)
 ·rw[e1 r (by omega)]
  exact hst.same r hr
theorem AT{env:Env}{rows:Rows}:∀{l:List aY} {y:aY},qL C env rows l->y∈l->∃t,y.dst=some t/\mB C env rows y.op t
 |[],y,_,h=>by simp at h
 | x :: l, y, h, hy => by
  rcases aaW.1 hy with rfl|hy
  ·have h1:=h.1
   cases hd:y.dst with
   |none=>rw[hd]at h1;exact h1.elim
   |some t=>rw[hd]at h1;exact⟨t,rfl,h1⟩
  ·exact AT h.2 hy
theorem Ni{env:Env}{rows:Rows}{o:nY}{t:Nat}(hm:tG o=false)(h:mB C env rows o t):dW C env rows o (BB env rows (some t)):=by
 cases o with
 |alloc s z=>cases hm
 |iX s m z ps=>cases hm
 | _=>exact h
theorem PF{ops:Array Oper}{al:List aY}{L:Array Bool}(jZ:∀i,done L i->∀j,wP ops.toList i j=true->done L j){i:Nat}(hr:∀j,wP ops.toList i j=true->done L j):∀(gs:List (Nat×List Nat)) (F:List Nat) (p:Nat),Zf ops.toList al (some p) F gs=true->¬done L p->(∀g∈gs,¬done L g.1)->Kn gs i=true->False
 |[],_,_,_,_,_,h=>by simp[Kn]at h
 | (c, fl) :: gs, F, p, hok, hp, hg, h => by
  simp only[Zf,aan]at hok
  obtain⟨⟨⟨⟨h1,h2⟩,h3⟩,h4⟩,h5⟩:=hok
  have hc:¬done L c:=hg _ (.head _)
  simp only[Kn,ac7,abI]at h
  rcases h with(h|h)|h
  ·have:c=i:=by simpa using h
   subst this
   simp only[okC,aan]at h1
   exact hp (me jZ 2 c p hr h1.1.2)
  ·have hm:i∈fl:=by simpa using h
   exact hc (me jZ 2 i c hr ((o9 h4 i hm).2.1 c rfl))
  ·exact PF jZ hr gs (F++fl) c h5 hc (λg RS=>hg g (.tail _ RS)) h
def restU(L:Array Bool)(gs:List (Nat×List Nat)):Prop:=∀i,Kn gs i=true->¬done L i
theorem Xs {ops : Array Oper} {al : List aY} (hd : SE C P n ops al 0) {K : Env -> Rows -> Prop} {Q' : Exit -> Act -> World -> Prop} {kz : Pl} {T0 : Nat -> Prop} {eG : Rows} {w0 : World}
  (hK:∀env' aa ρ' T' a' w',K env' aa->eQ n ρ' T' env' aa a' w'->Step kz T0 eG w0 ρ' T' aa w'->Q' .normal a' w'):
  ∀(fuel:Nat) (gs:List (Nat×List Nat)) (F Pd:List Nat) (prev:Option Nat) (L:Array Bool) (env:Env) (rows:Rows) (ρ:Pl) (T:Nat->Prop) (a:Act) (w:World),(∀j∈F,¬done L j->j∈Pd)->j2 L ops.size<=fuel->L.size=ops.size->
   Zf ops.toList al prev F gs=true->(∀i,i<ops.size->i∈F\/done L i\/Kn gs i=true)->(∀c,prev=some c->done L c)->restU L gs->
   (∀i∈F,fOK ops.toList al i=true/\∀x,al[i]?=some x->∀t∈o6 x,∀j,j<ops.size->bF al j=some t->wP ops.toList i j=true)->(∀i∈F,∀j∈F,i≠j->bF al i≠bF al j)->
   (∀i,done L i->∀j,wP ops.toList i j=true->done L j)->(∀j,j∈F->¬done L j->∃y t,al[j]?=some y/\y.dst=some t/\mB C.quiet env rows y.op t)->FInv al F L eG.length env rows ρ->
   zv C (Hr ops.toList al Pd gs) env rows K->eQ n ρ T (y9 al F L env) rows a w->eJ C w T->Step kz T0 eG w0 ρ T rows w->wpAny P .any ops Q' fuel L a w:=by
 obtain⟨hlen,lK⟩:=hd.get
 intro fuel
 have fin:∀(gs:List (Nat×List Nat)) (F Pd:List Nat) (L:Array Bool) (env:Env) (rows:Rows) (ρ:Pl) (T:Nat->Prop) (a:Act) (w:World),restU L gs->(∀j∈F,j<ops.size)->(∀g∈gs,g.1<ops.size)->(∀j,j<ops.size->done L j)->zv C (Hr ops.toList al Pd gs) env rows K->eQ n ρ T (y9 al F L env) rows a w->Step kz T0 eG w0 ρ T rows w->Q' .normal a w:=by
  intro gs F Pd L env rows ρ T a w Zo hF hG bQ h hs hst
  cases gs with
  |cons g gs=>
   exfalso
   exact Zo g.1 (by simp[Kn]) (bQ g.1 (hG g (.head _)))
  |nil=>exact hK env rows ρ T a w h (hs.ext λt d hl=>by rw[mT (λj hj hn=>absurd (bQ j (hF j hj)) hn)];exact hl) hst
 have aab : ∀ (L : Array Bool), L.size = ops.size -> (∃ j, j < ops.size /\ ¬ done L j) -> ∃ j, j ∈ Region.ready .any ops L := by
  intro L hsz ⟨j,hj,hn⟩
  have key : ∀ q, (∀ j, j < q -> done L j) \/ ∃ j, j < q /\ ¬ done L j /\ ∀ j', j' < j -> done L j' := by
   intro q
   induction q with
   |zero=>left;intro j hj;omega
   | succ q ih =>
    rcases ih with h1|⟨j,q1,q2,q3⟩
    ·by_cases hq:done L q
     ·left;intro j hj
      rcases aaZ j q with h2|h2
      ·exact h1 j h2
      ·have:j=q:=by omega
       subst this;exact hq
     ·exact .inr ⟨q,by omega,hq,h1⟩
    ·exact .inr ⟨j,by omega,q2,q3⟩
  rcases key ops.size with h1|⟨j',q1,q2,q3⟩
  ·exact absurd (h1 j hj) hn
  ·exact⟨j',xz q1 (nE q2 (by omega)) (λj'' hj''=>q3 j'' (hd.ok.back j' j'' hj''))⟩
 have Nf:∀(L:Array Bool),L.size=ops.size->Region.ready .any ops L=[]->∀j,j<ops.size->done L j:=by
  intro L hsz hr j hj
  refine abm λhn=>?_
  obtain⟨i,hi⟩:=aab L hsz ⟨j,hj,hn⟩
  rw[hr]at hi
  cases hi
 have ltF:∀(F:List Nat),(∀i∈F,fOK ops.toList al i=true/\∀x,al[i]?=some x->∀t∈o6 x,∀j,j<ops.size->bF al j=some t->wP ops.toList i j=true)->∀j∈F,j<ops.size:=by
  intro F h j hj
  obtain⟨o,_,_,ho,_⟩:=ui (h j hj).1
  have:=dA ho
  simpa using this
 have ltG:∀(gs:List (Nat×List Nat)) (F:List Nat) (prev:Option Nat),Zf ops.toList al prev F gs=true->∀g∈gs,g.1<ops.size:=by
  intro gs
  induction gs with
  |nil=>intro F prev _ g hg;simp at hg
  | cons g gs ih =>
   obtain⟨c,fl⟩:=g
   intro F prev hok g hg
   simp only[Zf,aan]at hok
   obtain⟨⟨⟨⟨h1,h2⟩,h3⟩,h4⟩,h5⟩:=hok
   rcases aaW.1 hg with rfl|hg
   ·simp only[okC,aan]at h1
    have h6:=h1.2
    split at h6
    ·rename_i x hx
     have:=dA hx
     show c<ops.size
     omega
    ·cases h6
   ·exact ih (F++fl) (some c) h5 g hg
 induction fuel with
 | zero =>
  intro gs F Pd prev L env rows ρ T a w hPd hf hsz hok hcov hprev Zo LC hFd jZ hob hI h hs hg hst
  have bQ:∀j,j<ops.size->done L j:=by
   intro j hj
   refine abm λhn=>?_
   have:=kY hj (by omega) (nE hn (by omega))
   omega
  refine⟨?_,fin gs F Pd L env rows ρ T a w Zo (ltF F LC) (ltG gs F prev hok) bQ h hs hst⟩
  cases hr:Region.ready .any ops L with
  |nil=>rfl
  |cons i l=>
   exfalso
   obtain⟨⟨o,ho⟩,h1,_⟩:=jH (L:=L) (ops:=ops) (i:=i) (by rw[hr];simp)
   exact(sN h1).1 (bQ i (aaX.1 ho).1)
 | succ fuel ih =>
  intro gs F Pd prev L env rows ρ T a w hPd hf hsz hok hcov hprev Zo LC hFd jZ hob hI h hs hg hst
  refine⟨λhr=>?_,λi hi=>?_⟩
  ·exact fin gs F Pd L env rows ρ T a w Zo (ltF F LC) (ltG gs F prev hok) (Nf L hsz hr) h hs hst
  ·obtain ⟨⟨o', SH⟩, h1, h2⟩ := jH hi
   have wE:i<ops.size:=(aaX.1 SH).1
   obtain⟨Fw,qq⟩:=sN h1
   obtain⟨o,x,ho,hx,q1,q2,q3,q4⟩:=lK i wE
   have Xn:j2 (L.setIfInBounds i true) ops.size<=fuel:=by have:=kY wE qq h1;omega
   have Xo:∀i',done (L.setIfInBounds i true) i'->∀j,wP ops.toList i' j=true->done (L.setIfInBounds i true) j:=by
    intro i' hi' j hj
    refine(bP qq).2 (.inl ?_)
    rcases(bP qq).1 hi' with h3|h3
    ·exact jZ i' h3 j hj
    ·subst h3;exact h2 j hj
   have vq:∀j,¬done (L.setIfInBounds i true) j->¬done L j:=λj hn qz=>hn ((bP qq).2 (.inl qz))
   by_cases hiF:i∈F
   · -- it comes when it will
    obtain⟨y,t,hy,H7,hya⟩:=hob i hiF Fw
    rw[hx]at hy
    cases hy
    obtain⟨o2,x2,t2,ho2,BQ,hfa,hqo,hgn,_⟩:=ui (LC i hiF).1
    have ho2':ops[i]?=some o2:=by simpa using ho2
    rw[ho]at ho2'
    cases ho2'
    rw[hx]at BQ
    cases BQ
    have hti:bF al i=some t:=by simp[bF,hx,H7]
    have yL:∀t',t'∈o6 x->look (y9 al F L env) t'=look env t':=λt' xq=>mT λj hj hn he=>hn (h2 j ((LC i hiF).2 x hx t' xq j (ltF F LC j hj) he))
    have hru' : restU (L.setIfInBounds i true) gs := by
     intro j hj qz
     rcases(bP qq).1 qz with h5|h5
     ·exact Zo j hj h5
     ·subst h5
      exact absurd Fw (by
       intro _
       exact Zo j hj |> λhh => by
        --i lies in F and among the rest
        have:Kn gs j=true:=hj
        exact absurd hiF (by
         have key : ∀ (gs : List (Nat × List Nat)) (F : List Nat) (prev : Option Nat), Zf ops.toList al prev F gs = true -> Kn gs j = true -> j ∉ F := by
          intro gs
          induction gs with
          |nil=>intro F prev _ hh;simp[Kn]at hh
          | cons g gs ihg =>
           obtain⟨c,fl⟩:=g
           intro F prev hok hh
           simp only[Zf,aan]at hok
           obtain⟨⟨⟨⟨k1,k2⟩,k3⟩,k4⟩,k5⟩:=hok
           simp only[Kn,ac7,abI]at hh
           rcases hh with(hh|hh)|hh
           ·have:c=j:=by simpa using hh
            subst this
            simp only[okC,aan]at k1
            simpa using k1.1.1
           ·have hm:j∈fl:=by simpa using hh
            have fresh:∀(fl F:List Nat),D8 ops.toList al (some c) F fl=true->j∈fl->j∉F:=by
             intro fl
             induction fl with
             |nil=>intro F _ hm;simp at hm
             |cons q fl ihf=>
              intro F hk hm
              simp only[D8,aan]at hk
              rcases aaW.1 hm with rfl|hm
              ·exact(uj hk.1).2.1
              ·exact λhF=>ihf (F++[q]) hk.2 hm (acd _ hF)
            exact fresh fl F k4 hm
           ·exact λhF=>ihg (F++fl) (some c) k5 hh (acd _ hF)
         exact key gs F prev hok this))
    have hcov':∀j,j<ops.size->j∈F\/done (L.setIfInBounds i true) j\/Kn gs j=true:=λj hj=>(hcov j hj).imp_right (λh5=>h5.imp_left (λh6=>(bP qq).2 (.inl h6)))
    have hprev':∀c,prev=some c->done (L.setIfInBounds i true) c:=λc hc=>(bP qq).2 (.inl (hprev c hc))
    have hob':∀j,j∈F->¬done (L.setIfInBounds i true) j->∃y t,al[j]?=some y/\y.dst=some t/\mB C.quiet env rows y.op t:=λj hj hn=>hob j hj (vq j hn)
    have hsim:∀(ρ':Pl) (T':Nat->Prop) (v:Value) (w':World) (d:D),look env t=some d->eQ n ρ' T' (y9 al F L env) rows a w'->VR ρ' w' T' d v->eQ n ρ' T' (y9 al F (L.setIfInBounds i true) env) rows (a.put o.dst v) w':=by
     intro ρ' T' v w' d Lz gy hv
     have sy:=gy.put hv (dst:=o.dst) (yJ q1)
     rw[<-q4,H7]at sy⊢
     refine sy.ext λt' d' hl=>?_
     obtain⟨h5,h6⟩:=iY hl
     simp only[put,look]
     cases Vg:(t==t')with
     |true=>
      have:t=t':=by simpa using Vg
      subst this
      rw[Lz]at h5
      simpa using h5
     | false =>
      have hne:t≠t':=by simpa using Vg
      simp only[aaM]
      rw[mT λj hj hn he=>?_]
      ·exact h5
      ·by_cases Ve:j=i
       ·subst Ve
        rw[hti]at he
        exact hne (abg he)
       ·exact h6 j hj (λqz=>(bP qq).1 qz|>.elim (λh7=>hn h7) (λh7=>Ve h7)) he
    have Sk:∀y∈x.op.xs,ev C.quiet (y9 al F L env) y=ev C.quiet env y:=by
     intro y hy
     cases y with
     |tmp t'=>exact yL t' (acd _ (vp hy))
     |const _=>rfl
     |aX _=>rfl
    cases hm:tG x.op with
    | true =>
     obtain⟨d,r0,d0,row,Lz,hhole,M⟩:=mk_of hm hfa Sk hya
     obtain⟨r,g1,g2,g3,g4⟩:=hI.hole i hiF Fw x t hx H7 hm
     rw[hhole]at g1
     cases g1
     unfold wpOp
     simp only[ho]
     have SD:o.guard=none:=by
      cases SD:o.guard with
      |none=>rfl
      | some jw =>
       rw[SD]at q3
       obtain⟨j,want⟩:=jw
       simp only[mD]at q3
       split at q3
       ·split at q3
        ·rw[hgn]at q3;cases q3
        ·cases q3
       ·cases q3
     have hwt:Region.wanted o (yielded ops a.tmps)=true:=by simp[Region.wanted,SD]
     rw[aaI hwt]
     refine .inl (Xr (C:=C.quiet) (λ_=>rfl) hd.ctx.quiet q2 hqo hs hg M g4 g2 hst ?_)
     intro ρ' T' v w' gy hv du RS hρ
     refine ih gs F Pd prev _ env rows ρ' T' _ w' (λj hj hn=>hPd j hj (vq j hn)) Xn (by simpa using hsz) hok hcov' hprev' hru' LC hFd Xo hob' ⟨λj hj Fx x1 t1 sn OS pE=>?_,λj j' hj oe Fx Nh=>hI.kx j j' hj oe (vq j Fx) (vq j' Nh)⟩ h (hsim ρ' T' v w' d Lz gy hv) RS du
     obtain⟨r1,p1,p2,p3,p4⟩:=hI.hole j hj (vq j Fx) x1 t1 sn OS pE
     have Ve:j≠i:=λe=>Fx ((bP qq).2 (.inr e))
     have hne:r1≠r0:=λe=>by
      have:=hI.kx j i hj hiF (vq j Fx) Fw Ve x1 t1 x t sn OS pE hx H7 hm
      rw[p1,hhole,e]at this
      exact this rfl
     exact⟨r1,p1,p2,p3,by rw[hρ r1 hne];exact p4⟩
    | false =>
     have hya:=Ni hm hya
     have hst1:ec C.quiet [x] env rows (λenv' aa=>env'=put x.dst ((look env t).getD default) env/\look env t=some ((look env t).getD default)/\aa=rows):=by
      obtain⟨dst,op,g⟩:=x
      simp only at hgn H7
      subst hgn
      subst H7
      show dW C.quiet env rows op _
      have e:(λd aa=>ec C.quiet [] (put (some t) d env) aa λenv' aa=>env'=put (some t) ((look env t).getD default) env/\look env t=some ((look env t).getD default)/\aa=rows)=BB env rows (some t):=by
       funext d r
       simp only[ec,BB,put]
       apply propext
       constructor
       ·rintro⟨e1,e2,e3⟩
        cases e1
        exact⟨e2,e3⟩
       ·rintro⟨e1,e2⟩
        rw[e1]
        exact⟨rfl,rfl,e2⟩
      rw[e]
      exact hya
     refine BR (C:=C.quiet) hd.ctx.quiet ho q1 q2 q3 q4 hs hg (BS yL hst1) ?_
     intro env' aa ρ' T' a' w' h' gy du
     rw[H7]at h'
     obtain⟨d,rfl,h3,h4,rfl⟩:=h'
     have Lz:look env t=some d:=by
      simp only[put,H7]at h3
      cases h3
      exact h4
     refine ih gs F Pd prev _ env aa ρ' T' a' w' (λj hj hn=>hPd j hj (vq j hn)) Xn (by simpa using hsz) hok hcov' hprev' hru' LC hFd Xo hob' ⟨λj hj Fx x1 t1 sn OS pE=>?_,λj j' hj oe Fx Nh=>hI.kx j j' hj oe (vq j Fx) (vq j' Nh)⟩ h
      (gy.ext λt' d' hl=>?_) (hg.step hs du) (hst.trans du)
     ·obtain⟨r1,p1,p2,p3,p4⟩:=hI.hole j hj (vq j Fx) x1 t1 sn OS pE
      exact⟨r1,p1,p2,p3,by rw[du.same r1 p3];exact p4⟩
     ·obtain⟨h5,h6⟩:=iY hl
      simp only[look]
      cases Vg:(t==t')with
      |true=>
       have:t=t':=by simpa using Vg
       subst this
       rw[Lz]at h5
       simpa using h5
      | false =>
       have hne:t≠t':=by simpa using Vg
       simp only[aaM]
       rw[mT λj hj hn he=>?_]
       ·exact h5
       ·by_cases Ve:j=i
        ·subst Ve
         rw[hti]at he
         exact hne (abg he)
        ·exact h6 j hj (λqz=>(bP qq).1 qz|>.elim (λh7=>hn h7) (λh7=>Ve h7)) he
   · -- the next one of the text's order
    have hin:Kn gs i=true:=by
     rcases hcov i wE with h3|h3|h3
     ·exact absurd h3 hiF
     ·exact absurd h3 Fw
     ·exact h3
    cases gs with
    |nil=>simp[Kn]at hin
    | cons g gs =>
     obtain⟨c,fl⟩:=g
     have hok0:=hok
     simp only[Zf,aan]at hok
     obtain⟨⟨⟨⟨k1,k2⟩,k3⟩,k4⟩,k5⟩:=hok
     have hcU:¬done L c:=Zo c (by simp[Kn])
     have hie:i=c:=by
      simp only[Kn,ac7,abI]at hin
      rcases hin with(hh|hh)|hh
      ·have:c=i:=by simpa using hh
       exact this.symm
      ·have hm:i∈fl:=by simpa using hh
       exact absurd (me jZ 2 i c h2 ((o9 k4 i hm).2.1 c rfl)) hcU
      ·exact(PF jZ h2 gs (F++fl) c k5 hcU (λg RS=>Zo g.1 (by
        simp only[Kn,ac7,abI]
        exact .inr (acv.2 ⟨g,RS,by simp⟩))) hh).elim
     subst hie
     simp only[Hr,hx]at h
     simp only[okC,aan,hx]at k1
     obtain⟨⟨_,_⟩,k6⟩:=k1
     have H8:∀j,j∈F->¬done L j->j∈O4 ops.toList Pd i/\∃t,bF al j=some t/\x.dst≠some t/\t∉o6 x:=by
      intro j hj hn
      have hna:Kv ops.toList 2 i j=false:=by
       cases hb:Kv ops.toList 2 i j with
       |false=>rfl
       |true=>exact absurd (me jZ 2 i j h2 hb) hn
      refine⟨by simp[O4,hPd j hj hn,hna],?_⟩
      have:=aa7.1 k6 j hj
      rw[hna,acy]at this
      split at this
      ·rename_i t ht
       simp only[aan]at this
       exact⟨t,ht,by simpa using this.1,by simpa using this.2⟩
      ·cases this
     have yL:∀t',t'∈o6 x->look (y9 al F L env) t'=look env t':=λt' xq=>mT λj hj hn he=>by
      obtain⟨_,t,ht,_,hyu⟩:=H8 j hj hn
      rw[ht]at he
      cases he
      exact hyu xq
     refine BR hd.ctx ho q1 q2 q3 q4 hs hg (BS yL h) ?_
     intro env' aa ρ' T' a' w' h' gy du
     have PA:∀j,j∈F->¬done L j->¬done (L.setIfInBounds i true) j:=λj hj hn qz=>(bP qq).1 qz|>.elim (λh7=>hn h7) (λh7=>hiF (h7▸hj))
     have hslot:∀j,j∈F->¬done L j->∀t,bF al j=some t->x.dst≠some t:=by
      intro j hj hn t ht
      obtain⟨_,t',xq,hne,_⟩:=H8 j hj hn
      rw[ht]at xq
      cases xq
      exact hne
     obtain⟨nC,sy,hlk2,Pz⟩:∃nC,eQ n ρ' T' (y9 al F (L.setIfInBounds i true) nC) aa a' w'/\(∀t,x.dst≠some t->look nC t=look env t)/\ec C.quiet (WY al fl) nC aa (λenv rows=>qL C.quiet env rows (WY al (O4 ops.toList Pd i++fl))/\zv C (Hr ops.toList al (O4 ops.toList Pd i++fl) gs) env rows K):=by
      simp only[ec,KH]at h'
      cases hxd:x.dst with
      |none=>
       rw[hxd]at h'
       obtain⟨rfl,h3⟩:=h'
       refine⟨env,gy.ext λt' d' hl=>?_,λt _=>rfl,h3⟩
       obtain⟨h5,h6⟩:=iY hl
       rw[mT λj hj hn=>h6 j hj (PA j hj hn)]
       exact h5
      | some t =>
       rw[hxd]at h'
       obtain⟨d,rfl,h3⟩:=h'
       refine⟨(t,d)::env,gy.ext λt' d' hl=>?_,λt' xq=>?_,h3⟩
       ·obtain⟨h5,h6⟩:=iY hl
        simp only[look]at h5⊢
        cases Vg:(t==t')with
        |true=>rw[Vg]at h5;exact h5
        |false=>
         rw[Vg]at h5
         simp only[aaM]at h5⊢
         rw[mT λj hj hn=>h6 j hj (PA j hj hn)]
         exact h5
       ·have:(t==t')=false:=by
         have:t≠t':=λe=>xq (by rw[e])
         simpa using this
        simp[look,this]
     have hI2:FInv al F (L.setIfInBounds i true) eG.length nC aa ρ':=by
      have hh:∀j,j∈F->¬done L j->∀t,bF al j=some t->kZ nC t=kZ env t:=by
       intro j hj hn t ht
       unfold kZ
       rw[hlk2 t (hslot j hj hn t ht)]
      refine⟨λj hj Fx x1 t1 sn OS pE=>?_,λj j' hj oe Fx Nh hne x1 t1 x2 t2 sn OS pE BQ ht2 KA=>?_⟩
      ·obtain⟨r1,p1,p2,p3,p4⟩:=hI.hole j hj (vq j Fx) x1 t1 sn OS pE
       exact⟨r1,by rw[hh j hj (vq j Fx) t1 (by simp[bF,sn,OS])];exact p1,p2,abR p3 du.len,by rw[du.same r1 p3];exact p4⟩
      ·rw[hh j hj (vq j Fx) t1 (by simp[bF,sn,OS]),hh j' oe (vq j' Nh) t2 (by simp[bF,BQ,ht2])]
       exact hI.kx j j' hj oe (vq j Fx) (vq j' Nh) hne x1 t1 x2 t2 sn OS pE BQ ht2 KA
     have hflU:∀j∈fl,¬done (L.setIfInBounds i true) j:=by
      intro j hj qz
      rcases(bP qq).1 qz with h5|h5
      ·exact Zo j (by simp only[Kn,ac7,abI];exact .inl (.inr (by simpa using hj))) h5
      ·subst h5
       simp only[List.contains_eq_mem,aat,acL,ab7]at k3
       exact k3 hj
     have Li:eG.length<=aa.length:=abd hst.len du.len
     obtain⟨env3,mU,⟨hstab,SK⟩,hI3,Vh,new,jr⟩:=Ib (C:=C.quiet) (λ_=>rfl) fl F nC aa k4 Pz hflU hI2 Li sy
     have hstep3:Step kz T0 eG w0 ρ' T' mU w':=by
      have h0:=hst.trans du
      have y8:∀r Lc,ρ' r=some Lc->r<aa.length:=by
       intro r Lc hr
       rcases aaZ r aa.length with h1|h1
       ·exact h1
       ·rw[gy.wD r h1]at hr;cases hr
      refine⟨h0.pl,h0.tt,h0.wB,h0.size,h0.keep,λr row Lc p1 p2=>?_,h0.os,h0.tape,h0.output,by rw[jr,aao];have:=h0.len;omega,h0.same⟩
      rw[fK jr (y8 r Lc p2)]at p1
      exact h0.fresh r row Lc p1 p2
     refine ih gs (F++fl) (O4 ops.toList Pd i++fl) (some i) _ env3 mU ρ' T' a' w' (λj hj hn=>?_) Xn (by simpa using hsz) k5 (λj hj=>?_) (λc hc=>by cases hc;exact(bP qq).2 (.inr rfl)) (λj hj qz=>?_) (λj hj=>?_) (λj hj j' oe hne=>?_) Xo (λj hj hn=>?_) hI3 SK Vh (hg.step hs du) hstep3
     ·rcases aaQ.1 hj with hj|hj
      ·exact acd _ (H8 j hj (vq j hn)).1
      ·exact adX _ hj
     ·rcases hcov j hj with h5|h5|h5
      ·exact .inl (acd _ h5)
      ·exact .inr (.inl ((bP qq).2 (.inl h5)))
      ·simp only[Kn,ac7,abI]at h5
       rcases h5 with(h5|h5)|h5
       ·exact .inr (.inl ((bP qq).2 (.inr (by simpa using(Eq.symm (by simpa using h5))))))
       ·exact .inl (adX _ (by simpa using h5))
       ·exact .inr (.inr h5)
     ·have hj0:Kn ((i,fl)::gs) j=true:=by simp only[Kn,ac7,abI];exact .inr hj
      rcases(bP qq).1 qz with h5|h5
      ·exact Zo j hj0 h5
      ·subst h5
       obtain⟨g,Xl,RN⟩:=acv.1 hj
       simp only[abI]at RN
       rcases RN with RN|RN
       ·have:=aa7.1 k2 g Xl
        simp only[bne,acL]at this
        rw[this]at RN
        cases RN
       · -- it would come when it will behind a later one
        have hm:j∈g.2:=by simpa using RN
        have key:∀(gs:List (Nat×List Nat)) (F:List Nat) (prev:Option Nat),Zf ops.toList al prev F gs=true->∀g∈gs,j∈g.2->Kv ops.toList 2 j g.1=true:=by
         intro gs
         induction gs with
         |nil=>intro F prev _ g hg;simp at hg
         |cons g0 gs ihg=>
          obtain⟨c0,fl0⟩:=g0
          intro F prev hok g hg hm
          simp only[Zf,aan]at hok
          obtain⟨⟨⟨⟨r1,r2⟩,r3⟩,r4⟩,r5⟩:=hok
          rcases aaW.1 hg with rfl|hg
          ·exact(o9 r4 j hm).2.1 c0 rfl
          ·exact ihg (F++fl0) (some c0) r5 g hg hm
        have han:=key gs (F++fl) (some j) k5 g Xl hm
        exact Zo g.1 (by
         simp only[Kn,ac7,abI]
         exact .inr (acv.2 ⟨g,Xl,by simp⟩)) (me jZ 2 j g.1 h2 han)
     ·rcases aaQ.1 hj with hj|hj
      ·exact LC j hj
      ·obtain⟨r1,_,r3⟩:=o9 k4 j hj
       exact⟨r1,λx' hx' t ht j' oe=>r3 x' hx' t ht j' (by simpa using oe)⟩
     ·have uq:∀(fl F:List Nat),D8 ops.toList al (some i) F fl=true->(∀p∈F,∀q∈F,p≠q->bF al p≠bF al q)->∀p∈F++fl,∀q∈F++fl,p≠q->bF al p≠bF al q:=by
       intro fl
       induction fl with
       |nil=>intro F _ hF p hp q hq;simp at hp hq;exact hF p hp q hq
       |cons e fl ihf=>
        intro F hk hF p hp q hq
        simp only[D8,aan]at hk
        obtain⟨_,_,u3,_,_⟩:=uj hk.1
        refine ihf (F++[e]) hk.2 (λp hp q hq hne=>?_) p (by simpa using hp) q (by simpa using hq)
        rcases aaQ.1 hp with hp|hp<;>rcases aaQ.1 hq with hq|hq
        ·exact hF p hp q hq hne
        ·rw[abf.1 hq];exact u3 p hp
        ·rw[abf.1 hp];exact(u3 q hq).symm
        ·exact absurd ((abf.1 hp).trans (abf.1 hq).symm) hne
      exact uq fl F k4 hFd j hj j' oe hne
     ·have Xd:∃y,al[j]?=some y:=by
       rcases aaQ.1 hj with hj|hj
       ·obtain⟨_,y,_,_,hy,_⟩:=ui (LC j hj).1
        exact⟨y,hy⟩
       ·obtain⟨_,y,_,_,hy,_⟩:=ui (o9 k4 j hj).1
        exact⟨y,hy⟩
      obtain⟨y,hy⟩:=Xd
      have hin2:y∈WY al (O4 ops.toList Pd i++fl):=by
       refine acW.2 ⟨j,?_,hy⟩
       rcases aaQ.1 hj with hj|hj
       ·exact acd _ (H8 j hj (vq j hn)).1
       ·exact adX _ hj
      obtain⟨t,ht,hstb⟩:=AT hstab hin2
      exact⟨y,t,hy,ht,hstb⟩
theorem PG(hC:aJ C P)(hP:P.follows .mixedOrders=true){id:Nat}{ops:Array Oper}{al:List aY}{f0:List Nat}{gs:List (Nat×List Nat)}(hc:wZ P n ops.toList ops.toList=some al)(hd:dOK3 ops.toList al f0 gs=true)
  {env:Env}{rows:Rows}{ρ:Pl}{T:Nat->Prop}{a:Act}{w:World}{Q:fI->Env->Rows->Prop}{Q':Exit->Act->World->Prop}
  (h:ec C.quiet (WY al f0) env rows λenv rows=>qL C.quiet env rows (WY al f0)/\zv C (Hr ops.toList al f0 gs) env rows (Q .normal))(hs:eQ n ρ T env rows a w)(hg:eJ C w T)
  (hp:Post n ρ T rows w Q Q'):(Code.region id ops true).wp P Q' a w:=by
 simp only[dOK3,aan]at hd
 obtain⟨⟨⟨d1,d2⟩,d3⟩,d4⟩:=hd
 have hok0:DOK0 ops.toList al 0:=Ej (by simp[Nat.ble]) d1 (by simp)
 have hD:SE C P n ops al 0:=⟨hok0,hc,hC⟩
 have hw1:eQ n ρ T env rows a {w with drawn:=w.drawn+1}:=hs.heap rfl
 have Xl:eJ C {w with drawn:=w.drawn+1} T:=hg.keep (λ_ _=>rfl) (λ_ h=>h)
 have SI:∀j,¬done (Array.replicate ops.size false) j:=by
  intro j hj
  unfold done at hj
  simp[Array.getD]at hj
 have Gk:eQ n ρ T (y9 al [] (Array.replicate ops.size false) env) rows a {w with drawn:=w.drawn+1}:=hw1.ext λt d hl=>(iY hl).1
 obtain⟨env3,mU,⟨hstab,SK⟩,hI3,Vh,new,jr⟩:=Ib (C:=C.quiet) (L:=Array.replicate ops.size false) (b0:=rows.length) (λ_=>rfl) f0 [] env rows d3 h (λj _=>SI j) ⟨λj hj=>by simp at hj,λj j' hj=>by simp at hj⟩ (aaz _) Gk
 rw[abp]at hI3 Vh
 refine wp_region_any hP (Xs hD (kz:=ρ) (T0:=T) (eG:=rows) (w0:={w with drawn:=w.drawn+1}) (K:=Q .normal) ?_ ops.size gs f0 f0 none _ env3 mU ρ T a _ (λj hj _=>hj) ?_ (by simp) d4 (λi hi=>?_) (λc hc=>by cases hc) (λi _=>SI i) (λi hi=>?_) (λi hi j hj hne=>?_) (λi hi=>absurd hi (SI i)) (λj hj _=>?_) hI3 SK Vh Xl ?_)
 ·intro env' aa ρ' T' a' w' hk gy du
  exact hp .normal env' aa ρ' T' a' w' hk gy ⟨du.pl,du.tt,du.wB,du.size,du.keep,du.fresh,du.os,du.tape,du.output,du.len,du.same⟩
 ·unfold j2
  exact abd (acX _ _) (by simp)
 ·have:=aa7.1 d2 i (by simpa using hi)
  rcases ad9.1 this with h1|h1
  ·exact .inl (by simpa using h1)
  ·exact .inr (.inr h1)
 ·obtain⟨r1,_,r3⟩:=o9 d3 i hi
  exact⟨r1,λx' hx' t ht j' oe=>r3 x' hx' t ht j' (by simpa using oe)⟩
 ·have uq:∀(fl F:List Nat),D8 ops.toList al none F fl=true->(∀p∈F,∀q∈F,p≠q->bF al p≠bF al q)->∀p∈F++fl,∀q∈F++fl,p≠q->bF al p≠bF al q:=by
   intro fl
   induction fl with
   |nil=>intro F _ hF p hp q hq;simp at hp hq;exact hF p hp q hq
   |cons e fl ihf=>
    intro F hk hF p hp q hq
    simp only[D8,aan]at hk
    obtain⟨_,_,u3,_,_⟩:=uj hk.1
    refine ihf (F++[e]) hk.2 (λp hp q hq hne=>?_) p (by simpa using hp) q (by simpa using hq)
    rcases aaQ.1 hp with hp|hp<;>rcases aaQ.1 hq with hq|hq
    ·exact hF p hp q hq hne
    ·rw[abf.1 hq];exact u3 p hp
    ·rw[abf.1 hp];exact(u3 q hq).symm
    ·exact absurd ((abf.1 hp).trans (abf.1 hq).symm) hne
  exact uq f0 [] d3 (λp hp=>by simp at hp) i (by simpa using hi) j (by simpa using hj) hne
 ·obtain⟨_,y,_,_,hy,_⟩:=ui (o9 d3 j hj).1
  obtain⟨t,ht,hstb⟩:=AT hstab (acW.2 ⟨j,hj,hy⟩)
  exact⟨y,t,hy,ht,hstb⟩
 ·have h0:=Step.refl ρ T rows {w with drawn:=w.drawn+1}
  have y8:∀r Lc,ρ r=some Lc->r<rows.length:=by
   intro r Lc hr
   rcases aaZ r rows.length with h1|h1
   ·exact h1
   ·rw[hs.wD r h1]at hr;cases hr
  refine⟨h0.pl,h0.tt,h0.wB,h0.size,h0.keep,λr row Lc p1 p2=>?_,h0.os,h0.tape,h0.output,by rw[jr,aao];omega,h0.same⟩
  rw[fK jr (y8 r Lc p2)]at p1
  exact h0.fresh r row Lc p1 p2
end Go.Am
namespace Go.Am
variable {C:bf} {P:Program} {n:Nat} {ρ:Pl} {T:Nat->Prop} {env:Env} {rows:Rows} {a:Act} {w:World}
theorem SN(hC:aJ C P):∀(c:Code) (ac:aC),comp P n c=some ac->∀(Q:fI->Env->Rows->Prop) (Q':Exit->Act->World->Prop) (env:Env) (rows:Rows) (ρ:Pl) (T:Nat->Prop) (a:Act) (w:World),
  aw C ac Q env rows->eQ n ρ T env rows a w->eJ C w T->Post n ρ T rows w Q Q'->c.wp P Q' a w:=by
 intro c
 induction c with
 |skip=>
  intro ac hc Q Q' env rows ρ T a w h hs hg hp
  simp[comp]at hc;subst hc
  exact wp_skip (hp .normal env rows ρ T a w h hs (Step.refl _ _ _ _))
 | region id ops draw =>
  intro ac hc Q Q' env rows ρ T a w h hs hg hp
  simp only[comp]at hc
  split at hc
  ·rename_i al h1
   cases draw with
   |false=>
    simp only[aba,aaU]at hc
    cases hc
    refine wp_region ?_
    have:=Xg hC ops (Q':=Q') ops.toList 0 (by simp) al h1 env rows ρ T a w (Q .normal) h hs hg (λenv' aa ρ' T' a' w' hk gy hst=>hp .normal env' aa ρ' T' a' w' hk gy hst)
    rw[ad4]
    simpa using this
   | true =>
    simp only[aa8,aaM]at hc
    cases hdr:(P.follows .mixedOrders&&Sj ops.toList al)with
    | false =>
     rw[hdr]at hc
     simp only[aaM]at hc
     cases tD:(P.follows .mixedOrders&&WX ops.toList al (mQ ops.toList al))with
     | false =>
      rw[tD]at hc
      simp only[aaM]at hc
      cases M4:(P.follows .mixedOrders&&dOK3 ops.toList al (WZ ops.toList al).1 (WZ ops.toList al).2)with
      |false=>rw[M4]at hc;cases hc;exact h.elim
      |true=>
       rw[M4]at hc
       simp only[aaU]at hc
       cases hc
       simp only[aan]at M4
       exact PG hC M4.1 h1 M4.2 h hs hg hp
     |true=>
      rw[tD]at hc
      simp only[aaU]at hc
      cases hc
      simp only[aan]at tD
      exact PC (C:=C.quiet) (λ_=>rfl) hC.quiet tD.1 h1 tD.2 h hs hg hp
    | true =>
     rw[hdr]at hc
     simp only[aaU]at hc
     cases hc
     simp only[aan]at hdr
     cases hm:MZ ops.toList al with
     |none=>
      have e:Hq ops.toList al= .region true al:=by unfold Hq;rw[hm]
      rw[e]at h
      exact H6 (C:=C.quiet) (λ_=>rfl) hC.quiet hdr.1 h1 hdr.2 h hs hg hp
     | some m =>
      cases jZ:ZK (al.drop m)with
      |false=>
       have e:Hq ops.toList al= .region true al:=by unfold Hq;rw[hm];simp only[jZ,aaM]
       rw[e]at h
       exact H6 (C:=C.quiet) (λ_=>rfl) hC.quiet hdr.1 h1 hdr.2 h hs hg hp
      |true=>
       have e:Hq ops.toList al= .UP (al.take m) (al.drop m):=by unfold Hq;rw[hm];simp only[jZ,aaU]
       rw[e]at h
       exact PD hC hdr.1 h1 (Xp hm) h hs hg hp
  ·cases hc;exact h.elim
 |seq x y ihx ihy=>
  intro ac hc Q Q' env rows ρ T a w h hs hg hp
  obtain⟨ax,h1,hc⟩:=aH hc
  obtain⟨ay,h2,hc⟩:=aH hc
  cases hc
  refine wp_seq (ihx ax h1 _ _ env rows ρ T a w h hs hg ?_)
  intro e env' aa ρ' T' a' w' hq gy hst
  cases e with
  |normal=>exact ihy ay h2 Q Q' env' aa ρ' T' a' w' hq gy (hg.step hs hst) (λe2 nC nD RQ T2 a2 w2 RR sy Nb=>hp e2 nC nD RQ T2 a2 w2 RR sy (hst.trans Nb))
  |exit i=>exact hp (.exit i) env' aa ρ' T' a' w' hq gy hst
  |ret=>exact hp .ret env' aa ρ' T' a' w' hq gy hst
 | cond x p q ihp ihq =>
  intro ac hc Q Q' env rows ρ T a w h hs hg hp
  obtain⟨x',h1,hc⟩:=aH hc
  obtain⟨ap,h2,hc⟩:=aH hc
  obtain⟨aq,h3,hc⟩:=aH hc
  cases hc
  obtain⟨d,he,hk⟩:=au h
  split at hk
  ·rename_i t
   have hG:tZ C ρ w T:=λg d hd=>(hg g d hd).mono (by intro r L h;cases h) (λ_ _=>rfl) (λ_ h=>h)
   have hx:=fb h1 he hs hG
   refine wp_cond_split hx (λht=>?_) (λht=>?_)
   ·exact ihp ap h2 Q Q' env rows ρ T a w (hk.1 ht) hs hg hp
   ·exact ihq aq h3 Q Q' env rows ρ T a w (hk.2 ht) hs hg hp
  ·exact hk.elim
 | block id x ih =>
  intro ac hc Q Q' env rows ρ T a w h hs hg hp
  obtain⟨ax,h1,hc⟩:=aH hc
  cases hc
  refine wp_block (ih ax h1 _ _ env rows ρ T a w h hs hg ?_)
  intro e env' aa ρ' T' a' w' hq gy hst
  cases e with
  |normal=>exact hp .normal env' aa ρ' T' a' w' hq gy hst
  |exit i=>
   simp only[SC,Exit.inBlock]
   by_cases hi:i=id
   ·rw[aaI hi];exact hp .normal env' aa ρ' T' a' w' (hq.1 hi) gy hst
   ·rw[aaA hi];exact hp (.exit i) env' aa ρ' T' a' w' (hq.2 hi) gy hst
  |ret=>exact hp .ret env' aa ρ' T' a' w' hq gy hst
 | loop x ih =>
  intro ac hc Q Q' env rows ρ T a w h hs hg hp
  obtain⟨ax,h1,hc⟩:=aH hc
  cases hc
  obtain⟨m,hm⟩:=h
  refine wp_loop_rounds m ?_
  induction m generalizing env rows ρ T a w with
  |zero=>exact hm.elim
  |succ m ihm=>
   refine ih ax h1 _ _ env rows ρ T a w hm hs hg ?_
   intro e env' aa ρ' T' a' w' hq gy hst
   cases e with
   |normal=>exact ihm env' aa ρ' T' a' w' gy (hg.step hs hst) (λe2 nC nD RQ T2 a2 w2 RR sy Nb=>hp e2 nC nD RQ T2 a2 w2 RR sy (hst.trans Nb)) hq
   |exit i=>exact hp (.exit i) env' aa ρ' T' a' w' hq gy hst
   |ret=>exact hp .ret env' aa ρ' T' a' w' hq gy hst
 |exit id=>
  intro ac hc Q Q' env rows ρ T a w h hs hg hp
  simp[comp]at hc;subst hc
  exact wp_exit (hp (.exit id) env rows ρ T a w h hs (Step.refl _ _ _ _))
 |ret=>
  intro ac hc Q Q' env rows ρ T a w h hs hg hp
  simp[comp]at hc;subst hc
  exact wp_ret (hp .ret env rows ρ T a w h hs (Step.refl _ _ _ _))
 | _=>intro ac hc;cases hc;intro Q Q' env rows ρ T a w h;exact h.elim
inductive aS where
 |tmp (t:Nat)
 |cell (t:Nat) (s:Sh)
 deriving Inhabited
def cRes(P:Program):ResultVar->Option aS
 | .tmp t=>some (.tmp t)
 | .cell t ty=>o2 (sh P ty) λs=>zw (mC P ty s) (some (.cell t s))
def Ic(P:Program):List ResultVar->Option (List aS)
 |[]=>some []
 |r::l=>o2 (cRes P r) λa=>o2 (Ic P l) λb=>some (a::b)
def Fz(env:Env)(rows:Rows):aS->Option D
 | .tmp t=>match look env t with
  |some (.cA _)=>none
  |d=>d
 | .cell t s => match look env t with
  |some (.ptr s' r p)=>bif s'==s then(match live rows r with
   |some row=>dC row.els p
   |none=>none)else none
  | _=>none
def AU(env:Env)(rows:Rows):List aS->Option (List D)
 |[]=>some []
 | r :: l => match Fz env rows r with
  |some d=>match AU env rows l with
   |some ds=>some (d::ds)
   |none=>none
  |none=>none
def xA:List D->D
 |[d]=>d
 |l=> .cA l
def pL:Nat->List D->Env
 | _,[]=>[]
 |i,d::l=>(i,d)::pL (i+1) l
theorem PH:∀(l:List D) (i t:Nat) (d:D),look (pL i l) t=some d->i<=t/\l[t-i]?=some d
 |[],i,t,d,h=>by simp[pL,look]at h
 | x :: l, i, t, d, h => by
  simp only[pL,look]at h
  cases hb:(i==t)with
  |true=>
   have:i=t:=by simpa using hb
   subst this
   simp[hb]at h
   subst h
   simp
  |false=>
   simp[hb]at h
   have hne:i≠t:=by simpa using hb
   obtain⟨h1,h2⟩:=PH l (i+1) t d h
   refine⟨by omega,?_⟩
   have:t-i=(t-(i+1))+1:=by omega
   rw[this]
   simpa using h2
theorem LD (hs : eQ n ρ T env rows a w) : ∀ {l : List ResultVar} {l' : List aS} {ds : List D}, Ic P l = some l' -> AU env rows l' = some ds ->
  ∃vs:List Value,(l.mapM (λr:ResultVar=>(match r with| .tmp t=>pure (a.tmps.getD t undef)| .cell x t=>do loadVar t (<-asAddr (a.tmps.getD x undef)):Sem Value))).run P w= .ok vs w/\bd (sj ρ w T) ds vs
 |[],l',ds,h1,h2=>by
  simp[Ic]at h1;subst h1
  simp[AU]at h2;subst h2
  exact⟨[],by simp,.nil⟩
 | r :: l, l', ds, h1, h2 => by
  obtain⟨r',g1,h1⟩:=aH h1
  obtain⟨q,g2,h1⟩:=aH h1
  cases h1
  simp only[AU]at h2
  split at h2
  ·rename_i d hd
   split at h2
   ·rename_i ds' hds
    cases h2
    obtain⟨vs,k1,k2⟩:=LD hs g2 hds
    have one : ∃ v, (match r with | .tmp t => pure (a.tmps.getD t undef) | .cell x t => do loadVar t (<- asAddr (a.tmps.getD x undef)) : Sem Value).run P w = .ok v w /\ sj ρ w T d v := by
     cases r with
     | tmp t =>
      simp[cRes]at g1
      subst g1
      simp only[Fz]at hd
      refine⟨a.tmps.getD t undef,by simp,?_⟩
      split at hd
      ·cases hd
      ·rename_i x hx
       have:=hs.env t d hd
       cases d with
       |cA z=>exact absurd hd (by intro h;exact hx z h)
       | _=>exact this
     | cell x t =>
      obtain⟨s,g3,g1⟩:=aH g1
      obtain⟨g4,g1⟩:=cK g1
      cases g1
      simp only[Fz]at hd
      split at hd
      ·rename_i s' rr p Hz
       cases Kx:(s'==s)with
       |false=>rw[Kx]at hd;simp at hd
       | true =>
        have hss':s'=s:=by simpa using Kx
        subst hss'
        simp only[Kx,aaU]at hd
        split at hd
        ·rename_i row hl
         have hv:=hs.env x _ Hz
         obtain⟨b,o',cs,hx,m1,m2,m3⟩:=hs.bE.M2 (show LR ρ w T _ _ from hv) hl hd
         have hlen:=m2.len
         rw[m1.len]at hlen
         refine⟨gX s' cs,?_,?_⟩
         ·simp only[Sem.run_bind]
          rw[hx]
          simp[asAddr,ny g3 g4 m3 hlen.symm (qQ m1 m2)]
         ·have:=VR.gX (ρ:=ρ) (T:=T) m1 m2
          unfold gX at this⊢
          cases hag:s'.isAgg with
          |true=>exact sj.O9 m1 hag (by simpa using m2)
          |false=>
           have hlf:=m1.qM hag
           rw[cz hlf]at m2
           have xf:=m2.len
           match cs,xf with
           |[c],_=>exact sj.bH m2.head
        ·cases hd
      ·cases hd
    obtain⟨v,m1,m2⟩:=one
    refine⟨v::vs,?_,.cons m2 k2⟩
    rw[List.mapM_cons]
    simp only[Sem.run_bind,m1,k1,Result.andThen_ok,Sem.run_pure]
   ·cases h2
  ·cases h2
def aQ(C:bf)(np:Nat)(kq:List aS)(ac:aC):lI:=λds rows K=>
 ds.length=np/\aw C ac (λe env aa=>(e= .normal\/e= .ret)/\bn (AU env aa kq) λl=>K (xA l) aa) (pL 0 ds) rows
theorem PI{fn:Func}{ds:List D}{rows:Rows}{ρ:Pl}{w:World}{T:Nat->Prop}{args:Array Value}{np:Nat}(hnp:np<=fn.ntmps)(hlen:ds.length=np)(hrows:jY ρ rows w T)(mF:∀r,rows.length<=r->ρ r=none)(y7:∀b,T b->b<w.heap.size)
  (hargs:bd (VR ρ w T) ds args.toList):eQ fn.ntmps ρ T (pL 0 ds) rows {tmps:=args++Array.replicate (fn.ntmps-args.size) undef,defers:=[]} w:=by
 have hal:args.size=np:=by rw[<-hlen];simpa using hargs.len.symm
 refine⟨hrows,λt d hd=>?_,by simp;omega,y7,mF,rfl⟩
 obtain⟨_,h2⟩:=PH ds 0 t d hd
 rw[acB]at h2
 obtain⟨v,hv,Zl⟩:=hargs.some h2
 have mN:args[t]?=some v:=by simpa using hv
 have hlt:t<args.size:=(aaX.1 mN).1
 have:(args++Array.replicate (fn.ntmps-args.size) undef).getD t undef=v:=by
  simp only[aee]
  rw[Array.getElem?_append_left hlt,mN]
  rfl
 rw[this]
 exact Zl
theorem fn_end{fn:Func}{kq:List aS}(hr:Ic P fn.results.toList=some kq){ρ':Pl}{T':Nat->Prop}{env':Env}{aa:Rows}{a':Act}{w':World}(gy:eQ fn.ntmps ρ' T' env' aa a' w'){l:List D}(hl:AU env' aa kq=some l):
  ∃v,(results fn a'.tmps).run P w'= .ok v w'/\VR ρ' w' T' (xA l) v:=by
 obtain⟨vs,h1,h2⟩:=LD gy hr hl
 have hm:(fn.results.mapM (λr:ResultVar=>(match r with| .tmp t=>pure (a'.tmps.getD t undef)| .cell x t=>do loadVar t (<-asAddr (a'.tmps.getD x undef)):Sem Value))).run P w'= .ok vs.toArray w':=by
  rw[aej]
  simp only[Sem.run_map,h1,Result.andThen_ok]
 have hlen:=h2.len
 have e0:(results fn a'.tmps).run P w'=((fn.results.mapM (λr:ResultVar=>(match r with| .tmp t=>pure (a'.tmps.getD t undef)| .cell x t=>do loadVar t (<-asAddr (a'.tmps.getD x undef)):Sem Value))).run P w').andThen
   λvs w'=>(pure (if h:vs.size=1 then vs[0]else .tuple vs):Sem Value).run P w':=by
  unfold results
  rw[Sem.run_bind]
  rfl
 rw[e0,hm]
 simp only[Result.andThen_ok,Sem.run_pure,ado]
 by_cases h1':vs.length=1
 ·have sO:l.length=1:=by omega
  obtain⟨v,rfl⟩:=adP.1 h1'
  obtain⟨d,rfl⟩:=adP.1 sO
  exact⟨v,by simp,VR.zz h2.head⟩
 ·refine⟨.tuple vs.toArray,by simp[h1'],?_⟩
  have:xA l= .cA l:=by
   have sO:l.length≠1:=by omega
   clear hlen h2 hl h1 hm e0
   match l,sO with
   |[],_=>rfl
   |[d],hq=>exact absurd rfl hq
   | _::_::_,_=>rfl
  rw[this]
  exact⟨vs.toArray,rfl,by simpa using h2⟩
theorem PJ(hC:aJ C P){f:FuncId}{fn:Func}{ac:aC}{kq:List aS}{np:Nat}(hf:P.funcs[f]?=some fn)(hb:o2 fn.body (comp P fn.ntmps)=some ac)(hr:Ic P fn.results.toList=some kq)(hnp:np<=fn.ntmps):
  aN C.aX P f (aQ C np kq ac):=by
 intro ds rows K ⟨hlen,h⟩ ρ w T args hrows mF y7 hargs Pp
 obtain⟨c,hbody,hcomp⟩:=aH hb
 refine calls_of_wp hf hbody ?_
 refine SN hC c ac hcomp _ _ _ rows ρ T _ w h (PI hnp hlen hrows mF y7 hargs) Pp ?_
 intro e env' aa ρ' T' a' w' ⟨he,hk⟩ gy hst
 obtain⟨l,hl,hk⟩:=au hk
 obtain⟨v,hv1,hv2⟩:=fn_end hr gy hl
 have PK:Ef K ρ T rows w (.returned v) w':=⟨v,xA l,aa,ρ',T',rfl,hk,gy.bE,gy.wD,gy.wC,hst,hv2⟩
 rcases he with rfl|rfl
 ·exact⟨gy.defers,v,hv1,PK⟩
 ·exact⟨gy.defers,v,hv1,PK⟩
end Go.Am
namespace Go.Am
variable {C:bf} {P:Program} {n:Nat} {ρ:Pl} {T:Nat->Prop} {env:Env} {rows:Rows} {a:Act} {w:World}
inductive wF (rows:Rows):D->D->Rows->Prop where
 |val (d:D):aR d=false->wF rows d d []
 |frz (d d':D):view rows 9 d=some d'->wF rows d d' []
 |frzT (l l':List D):dU (view rows 9) l=some l'->wF rows (.cA l) (.cA l') []
 |own (s:Sh) (r off len:Nat) (ex og:Bool) (row:Row):live rows r=some row->row.sh.pure=true->(og=true->ex=true)->wF rows (.sl s r [] off len ex) (.sl s 0 [] off len og) [some row]
 |nil0 (s:Sh):wF rows (.raw (.slice none 0 0)) (.sl s 0 [] 0 0 false) [some ⟨s,[]⟩]
 | KB (s : Sh) (r off len : Nat) (ex og : Bool) (row : Row) (l : List D) : live rows r = some row -> row.sh.pure = true -> aW l = false -> (og = true -> ex = true) ->
   wF rows (.cA (.sl s r [] off len ex::l)) (.cA (.sl s 0 [] off len og::l)) [some row]
 | ownU (z : List D) (s : Sh) (r off len : Nat) (ex og : Bool) (row : Row) (l : List D) : live rows r = some row -> row.sh.pure = true -> aW z = false -> aW l = false -> (og = true -> ex = true) ->
   wF rows (.cA (z++ .sl s r [] off len ex::l)) (.cA (z++ .sl s 0 [] off len og::l)) [some row]
 | ownA (S : Sh) (z : List D) (s : Sh) (r off len : Nat) (ex og : Bool) (row : Row) (l : List D) : live rows r = some row -> row.sh.pure = true -> aW z = false -> aW l = false -> (og = true -> ex = true) ->
   wF rows (.agg S (z++ .sl s r [] off len ex::l)) (.agg S (z++ .sl s 0 [] off len og::l)) [some row]
 | own2 (z y l : List D) (s s2 : Sh) (r r2 off len Nj Nk : Nat) (ex og Kp ex2' : Bool) (row pH : Row) : live rows r = some row -> live rows r2 = some pH -> r ≠ r2 -> row.sh.pure = true -> pH.sh.pure = true -> aW z = false -> aW y = false -> aW l = false ->
   (og=true->ex=true)->(ex2'=true->Kp=true)->
   wF rows (.cA (z++ .sl s r [] off len ex::(y++ .sl s2 r2 [] Nj Nk Kp::l))) (.cA (z++ .sl s 0 [] off len og::(y++ .sl s2 1 [] Nj Nk ex2'::l))) [some row,some pH]
def vU(L L2:Option Loc):Pl:=λr=>if r=0 then L else if r=1 then L2 else none
def BT(L:Option Loc):Pl:=λr=>if r=0 then L else none
theorem Step.emp{ρ':Pl}{T':Nat->Prop}{w':World}{aa:Rows}(hst:Step ρ T [] w ρ' T' aa w')(mF:∀r,ρ r=none):∀r row L,live aa r=some row->ρ' r=some L->w.heap.size<=L.b:=by
 intro r row L h1 h2
 rcases hst.fresh r row L h1 h2 with⟨r0,qP,L0,h3,_⟩|h3
 ·simp[live]at h3
 ·exact h3
theorem nu.pure{ρ':Pl}{row:Row}{L:Loc}{T':Nat->Prop}(h:nu ρ row L w T)(hp:row.sh.pure=true):nu ρ' row L w T:=by
 refine⟨h.sh,h.nZ,h.els,λhm=>?_,h.qO⟩
 obtain⟨cur,t,h1,h2,h3,h4⟩:=h.cells hm
 exact⟨cur,t,h1,h2,h3,h4.ofRaw (ky h.els hp)⟩
theorem El:∀{l:List D} {x:D},x∈aA l->∃d∈l,x∈d.flat
 |[],x,h=>by simp[aA]at h
 | d :: l, x, h => by
  simp only[aA,aaQ]at h
  rcases h with h|h
  ·exact⟨d,by simp,h⟩
  ·obtain⟨e,h1,h2⟩:=El h
   exact⟨e,by simp[h1],h2⟩
theorem view_tup{k:Nat}{d:D}{z:List D}(h:view rows k d=some (.cA z)):False:=by
 cases k with
 |zero=>simp[view]at h
 | succ k =>
  cases d with
  | cI s l e =>
   simp only[view]at h
   cases hp:s.pure with
   |true=>simp[hp]at h
   |false=>
    simp only[hp,aaM]at h
    split at h<;>cases h
  | agg s l =>
   simp only[view]at h
   cases hp:s.pure with
   |true=>simp[hp]at h
   |false=>
    simp only[hp,aaM]at h
    split at h<;>cases h
  | sl s r p off len e =>
   simp only[view]at h
   split at h
   ·rename_i l hl
    cases hb:(l.length==len)with
    |false=>simp[hb]at h
    | true =>
     simp only[hb,aa8,aaM]at h
     cases hp:s.pure with
     |true=>simp[hp]at h
     |false=>
      simp only[hp,aaM]at h
      split at h<;>cases h
   ·cases h
  |mp r=>
   simp only[view]at h
   split at h<;>cases h
  | ptr s r p =>
   simp only[view]at h
   split at h
   ·split at h
    ·cases hp:s.pure with
     |true=>simp[hp]at h
     |false=>
      simp only[hp,aaM]at h
      split at h<;>cases h
    ·cases h
   ·cases h
  |cd d=>
   simp only[view]at h
   cases hp:aR d with
   |true=>simp[hp]at h
   |false=>simp only[hp,aaM]at h;cases h
  | _=>simp[view]at h
theorem Ef.Nl{K K':D->Rows->Prop}{e:Ending}{w':World}(mF:∀r,ρ r=none)(h:Ef K ρ T [] w e w')(hk:∀d rows,K d rows->∃d' aa,wF rows d d' aa/\K' d' aa):Ef K' ρ T [] w e w':=by
 obtain⟨v,d,aa,ρ',T',he,Gn,hrows,hd,ht,hst,hv⟩:=h.ex
 obtain⟨d',nD,hx,Lm⟩:=hk d aa Gn
 have jr:=hst.emp mF
 have ev0:∀(r:Nat) (row:Row),live ([]:Rows) r≠some row:=by intro r row h;simp[live]at h
 have hT:∀b,T b->w'.heap[b]?=w'.heap[b]?:=λ_ _=>rfl
 --nothing left
 have val:VR fE w' T' d' v->Ef (λd r=>d=d'/\r=[]) ρ T [] w e w':=by
  intro mN
  exact⟨v,d',[],fE,T',he,⟨rfl,rfl⟩,⟨λr row L h=>absurd h (ev0 r row),λr _ row _ _ _ h=>absurd h (ev0 r row)⟩,λ_ _=>rfl,ht,
   ⟨λr L hr=>by rw[mF r]at hr;(cases hr),hst.tt,hst.wB,hst.size,hst.keep,λr row L h=>absurd h (ev0 r row),hst.os,hst.tape,hst.output,aaz _,λr hr=>by simp at hr⟩,mN⟩
 have frz:VR fE w' (So ρ' T' aa) d' v->Ef (λd r=>d=d'/\r=[]) ρ T [] w e w':=by
  intro mN
  refine⟨v,d',[],fE,So ρ' T' aa,he,⟨rfl,rfl⟩,⟨λr row L h=>absurd h (ev0 r row),λr _ row _ _ _ h=>absurd h (ev0 r row)⟩,λ_ _=>rfl,?_,
   ⟨λr L hr=>by rw[mF r]at hr;(cases hr),λb hb=> .inl (hst.tt b hb),?_,hst.size,hst.keep,λr row L h=>absurd h (ev0 r row),hst.os,hst.tape,hst.output,aaz _,λr hr=>by simp at hr⟩,mN⟩
  ·rintro b (h1|⟨r,row,L,h1,h2,rfl⟩)
   ·exact ht b h1
   ·exact(hrows.row r row L h1 h2).lt
  ·rintro b (h1|⟨r,row,L,h1,h2,rfl⟩)
   ·exact hst.wB b h1
   ·exact .inr (.inl (jr r row L h1 h2))
 have own:∀(r:Nat) (row:Row),live aa r=some row->row.sh.pure=true->VR (BT (ρ' r)) w' T' d' v->Ef (λd r=>d=d'/\r=[some row]) ρ T [] w e w':=by
  intro r row hl hp mN
  have Fy:∀q row',live [some row] q=some row'->q=0/\row'=row:=by
   intro q row' hq
   cases q with
   |zero=>simp[live]at hq;exact⟨rfl,hq.symm⟩
   |succ q=>simp[live]at hq
  refine⟨v,d',[some row],BT (ρ' r),T',he,⟨rfl,rfl⟩,⟨λq row' L h1 h2=>?_,λq q' Gj pH L L' h1 h2 _ _ hne=>?_⟩,λq hq=>?_,ht,
   ⟨λr L hr=>by rw[mF r]at hr;(cases hr),hst.tt,hst.wB,hst.size,hst.keep,λq row' L h1 h2=>?_,hst.os,hst.tape,hst.output,by simp,λr hr=>by simp at hr⟩,mN⟩
  ·obtain⟨rfl,rfl⟩:=Fy q row' h1
   simp only[BT,abX]at h2
   exact(hrows.row r row' L hl h2).pure (T':=T') hp
  ·exact absurd ((Fy q Gj h1).1.trans (Fy q' pH h2).1.symm) hne
  ·simp at hq
   unfold BT
   rw[aaA (by omega)]
  ·obtain⟨rfl,rfl⟩:=Fy q row' h1
   simp only[BT,abX]at h2
   exact .inr (jr r row' L hl h2)
 have sl1:∀(s:Sh) (r off len:Nat) (ex og:Bool) (v:Value),(og=true->ex=true)->LR ρ' w' T' (.sl s r [] off len ex) v->LR (BT (ρ' r)) w' T' (.sl s 0 [] off len og) v:=by
  intro s r off len ex og v hee DW
  cases DW with
  |sl _ _ _ _ _ _ L cap h1 h2 h3 h4=>exact .sl s 0 [] off len og L cap (by simp[BT,h1]) h2 (λh=>h3 (hee h)) h4
  |Bw _ _ _ _ _ a=>exact .Bw s 0 [] off og a
 have own2:∀(r r2:Nat) (row pH:Row),live aa r=some row->live aa r2=some pH->r≠r2->row.sh.pure=true->pH.sh.pure=true->VR (vU (ρ' r) (ρ' r2)) w' T' d' v->Ef (λd r=>d=d'/\r=[some row,some pH]) ρ T [] w e w':=by
  intro r r2 row pH hl xf hne2 hp sq mN
  have Fy:∀q row',live [some row,some pH] q=some row'->(q=0/\row'=row)\/(q=1/\row'=pH):=by
   intro q row' hq
   match q,hq with
   |0,hq=>simp[live]at hq;exact .inl ⟨rfl,hq.symm⟩
   |1,hq=>simp[live]at hq;exact .inr ⟨rfl,hq.symm⟩
   |q+2,hq=>simp[live]at hq
  have t0:vU (ρ' r) (ρ' r2) 0=ρ' r:=by simp[vU]
  have t1:vU (ρ' r) (ρ' r2) 1=ρ' r2:=by simp[vU]
  refine⟨v,d',[some row,some pH],vU (ρ' r) (ρ' r2),T',he,⟨rfl,rfl⟩,⟨λq row' L h1 h2=>?_,λq q' Gj row3 L L' h1 h2 h3 h4 hne=>?_⟩,λq hq=>?_,ht,
   ⟨λr L hr=>by rw[mF r]at hr;(cases hr),hst.tt,hst.wB,hst.size,hst.keep,λq row' L h1 h2=>?_,hst.os,hst.tape,hst.output,by simp,λr hr=>by simp at hr⟩,mN⟩
  ·rcases Fy q row' h1 with⟨rfl,rfl⟩|⟨rfl,rfl⟩
   ·rw[t0]at h2
    exact(hrows.row r row' L hl h2).pure (T':=T') hp
   ·rw[t1]at h2
    exact(hrows.row r2 row' L xf h2).pure (T':=T') sq
  ·rcases Fy q Gj h1 with⟨rfl,rfl⟩|⟨rfl,rfl⟩<;>rcases Fy q' row3 h2 with⟨rfl,rfl⟩|⟨rfl,rfl⟩
   ·exact absurd rfl hne
   ·rw[t0]at h3;rw[t1]at h4
    exact hrows.kx r r2 _ _ L L' hl xf h3 h4 hne2
   ·rw[t1]at h3;rw[t0]at h4
    exact hrows.kx r2 r _ _ L L' xf hl h3 h4 (abT hne2)
   ·exact absurd rfl hne
  ·simp at hq
   unfold vU
   rw[aaA (by omega),aaA (by omega)]
  ·rcases Fy q row' h1 with⟨rfl,rfl⟩|⟨rfl,rfl⟩
   ·rw[t0]at h2
    exact .inr (jr r row' L hl h2)
   ·rw[t1]at h2
    exact .inr (jr r2 row' L xf h2)
 have sl2:∀(s:Sh) (r r' q off len:Nat) (ex og:Bool) (v:Value) (RQ:Pl),RQ q=ρ' r->(og=true->ex=true)->LR ρ' w' T' (.sl s r [] off len ex) v->LR RQ w' T' (.sl s q [] off len og) v:=by
  intro s r r' q off len ex og v RQ hq hee DW
  cases DW with
  |sl _ _ _ _ _ _ L cap h1 h2 h3 h4=>exact .sl s q [] off len og L cap (by rw[hq];exact h1) h2 (λh=>h3 (hee h)) h4
  |Bw _ _ _ _ _ a=>exact .Bw s q [] off og a
 have done:Ef (λd r=>d=d'/\r=nD) ρ T [] w e w'->Ef K' ρ T [] w e w':=by
  rintro⟨v,d2,r2,RQ,T2,q1,⟨rfl,rfl⟩,q3⟩
  exact⟨v,d2,r2,RQ,T2,q1,Lm,q3⟩
 refine done ?_
 cases hx with
 |val _ h1=>exact val (hv.closed h1)
 |frz _ _ h1=>exact frz (Na hrows h1 hv)
 | frzT l l' h1 =>
  obtain⟨vs,rfl,bQ⟩:=hv
  refine frz ⟨vs,rfl,?_⟩
  obtain⟨g1,g2⟩:=kU h1
  refine⟨by rw[g1];exact bQ.len,λi x y hx hy=>?_⟩
  have wE:i<l.length:=by rw[<-g1];exact dA hx
  have hxi:=aap wE
  have:=Na hrows (g2 i _ _ hxi hx) (VR.zz (bQ.at_ i _ y hxi hy))
  cases x with
  |cA z=>
   exact(view_tup (g2 i _ _ hxi hx)).elim
  | _=>exact this
 |own s r off len ex og row h1 h2 h4=>exact own r row h1 h2 (VR.bH (sl1 s r off len ex og v h4 hv))
 | nil0 s =>
  have mN:=hv.ofRaw
  subst mN
  refine⟨_,_,[some ⟨s,[]⟩],fE,T',he,⟨rfl,rfl⟩,⟨λ_ _ _ _ h=>(by cases h),λ_ _ _ _ _ _ _ _ h=>(by cases h)⟩,λ_ _=>rfl,ht,
   ⟨λr L hr=>by rw[mF r]at hr;(cases hr),hst.tt,hst.wB,hst.size,hst.keep,λ_ _ _ _ h=>(by cases h),hst.os,hst.tape,hst.output,by simp,λr hr=>by simp at hr⟩,VR.bH (.Bw s 0 [] 0 false none)⟩
 | KB s r off len ex og row l h1 h2 h3 h4 =>
  obtain⟨vs,rfl,bQ⟩:=hv
  refine own r row h1 h2 ⟨vs,rfl,?_⟩
  cases hvs:vs.toList with
  |nil=>rw[hvs]at bQ;have:=bQ.len;simp at this
  |cons v0 vs'=>
   rw[hvs]at bQ
   refine .cons (sj.bH (sl1 s r off len ex og v0 h4 bQ.head)) ?_
   have ht:=bQ.tail
   refine⟨ht.len,λi x y hx hy=>?_⟩
   exact((ht.at_ i x y hx hy).closed (fw h3 x (bN hx))).mono (by intro r L h;cases h) (λ_ _=>rfl) (λ_ h=>h)
 | ownU z s r off len ex og row l h1 h2 h3 h5 h4 =>
  obtain⟨vs,rfl,bQ⟩:=hv
  refine own r row h1 h2 ⟨vs,rfl,?_⟩
  refine⟨by rw[<-bQ.len];simp,λi x y hx hy=>?_⟩
  have same:∀x,(z++ .sl s r [] off len ex::l)[i]?=some x->aR x=false->sj (BT (ρ' r)) w' T' x y:=λx hx hr=>
   ((bQ.at_ i x y hx hy).closed hr).mono (by intro r L h;cases h) (λ_ _=>rfl) (λ_ h=>h)
  by_cases c:i<z.length
  ·rw[aaN c]at hx
   exact same x (by rw[aaN c];exact hx) (fw h3 x (bN hx))
  ·rw[aaO (by omega)]at hx
   have hz:(z++ .sl s r [] off len ex::l)[i]?=(D.sl s r [] off len ex::l)[i-z.length]?:=aaO (by omega)
   cases hi:i-z.length with
   |zero=>
    rw[hi]at hx hz
    simp only[abM,abY]at hx hz
    subst hx
    exact sj.bH (sl1 s r off len ex og y h4 (bQ.at_ i _ y hz hy))
   |succ m=>
    rw[hi]at hx hz
    simp only[ab8]at hx hz
    exact same x (by rw[hz];exact hx) (fw h5 x (bN hx))
 | ownA S z s r off len ex og row l h1 h2 h3 h5 h4 =>
  obtain⟨cs,rfl,hsh,bQ⟩:=hv
  obtain⟨l0,e,hlen,fJ⟩:=hsh.jN (pI hsh).2
  cases e
  have hz:∀x∈aA z,aR x=false:=λx hx=>by
   obtain⟨d,hd,hxd⟩:=El hx
   obtain⟨i,hi,rfl⟩:=aa3.1 hd
   obtain⟨e,he⟩:=mL (s:=S) (i:=i) (by rw[<-hlen,aao];omega)
   exact o8 (fJ i e _ he (by rw[aaN hi];exact aap hi)) (fw h3 _ hd) x hxd
  have hl:∀x∈aA l,aR x=false:=λx hx=>by
   obtain⟨d,hd,hxd⟩:=El hx
   obtain⟨i,hi,rfl⟩:=aa3.1 hd
   obtain⟨e,he⟩:=mL (s:=S) (i:=z.length+1+i) (by rw[<-hlen,aao,aaP];omega)
   exact o8 (fJ _ e _ he (by rw[aaO (by omega),show z.length+1+i-z.length=i+1 by omega,ab8];exact aap hi)) (fw h5 _ hd) x hxd
  have same:∀{x y},LR ρ' w' T' x y->aR x=false->LR (BT (ρ' r)) w' T' x y:=λh hr=>(h.closed hr).mono (by intro r L h;cases h) (λ_ _=>rfl) (λ_ h=>h)
  refine own r row h1 h2 ⟨cs,rfl,.agg _ _ (pI hsh).2 (by rw[<-hlen];simp) λi e d hi hd=>?_,?_⟩
  ·by_cases c:i<z.length
   ·rw[aaN c]at hd
    exact fJ i e d hi (by rw[aaN c];exact hd)
   ·rw[aaO (by omega)]at hd
    have:=fJ i e ((D.sl s r [] off len ex::l).getD (i-z.length) default) hi
    rw[aaO (by omega)]at this
    cases hm:i-z.length with
    |zero=>
     rw[hm]at hd this
     cases hd
     cases this rfl
     exact .ref _ rfl
    |succ m=>
     rw[hm]at hd this
     simp only[ab8]at hd this
     have h6:=this (by rw[hd];simp[List.getD,hd])
     simpa[List.getD,hd]using h6
  ·rw[eh]at bQ⊢
   simp only[aA,D.flat]at bQ⊢
   refine⟨by rw[<-bQ.len];simp,λi x y hx hy=>?_⟩
   by_cases c:i<(aA z).length
   ·rw[aaN c]at hx
    exact same (bQ.at_ i x y (by rw[aaN c];exact hx) hy) (hz x (bN hx))
   ·have q:=bQ.at_ i
    rw[aaO (by omega)]at hx q
    cases hm:i-(aA z).length with
    |zero=>
     rw[hm]at hx q
     cases hx
     exact sl1 s r off len ex og y h4 (q _ y rfl hy)
    |succ m=>
     rw[hm]at hx q
     exact same (q x y hx hy) (hl x (bN hx))
 | own2 z y l s s2 r r2 off len Nj Nk ex og Kp ex2' row pH h1 h2 hne p1 p2 h3 h5 h6 h4 h7 =>
  obtain⟨vs,rfl,bQ⟩:=hv
  refine own2 r r2 row pH h1 h2 hne p1 p2 ⟨vs,rfl,?_⟩
  have t0:vU (ρ' r) (ρ' r2) 0=ρ' r:=by simp[vU]
  have t1:vU (ρ' r) (ρ' r2) 1=ρ' r2:=by simp[vU]
  refine⟨by rw[<-bQ.len];simp,λi x x' hx hy=>?_⟩
  have same:∀x,(z++ .sl s r [] off len ex::(y++ .sl s2 r2 [] Nj Nk Kp::l))[i]?=some x->aR x=false->sj (vU (ρ' r) (ρ' r2)) w' T' x x':=λx hx hr=>
   ((bQ.at_ i x x' hx hy).closed hr).mono (by intro r L h;cases h) (λ_ _=>rfl) (λ_ h=>h)
  by_cases c:i<z.length
  ·rw[aaN c]at hx
   exact same x (by rw[aaN c];exact hx) (fw h3 x (bN hx))
  ·rw [aaO (by omega)] at hx
   have hz:(z++ .sl s r [] off len ex::(y++ .sl s2 r2 [] Nj Nk Kp::l))[i]?=(D.sl s r [] off len ex::(y++ .sl s2 r2 [] Nj Nk Kp::l))[i-z.length]?:=aaO (by omega)
   cases hi:i-z.length with
   |zero=>
    rw[hi]at hx hz
    simp only[abM,abY]at hx hz
    subst hx
    exact sj.bH (sl2 s r 0 0 off len ex og x' _ t0 h4 (bQ.at_ i _ x' hz hy))
   | succ m =>
    rw[hi]at hx hz
    simp only[ab8]at hx hz
    by_cases c2:m<y.length
    ·rw[aaN c2]at hx hz
     exact same x (by rw[hz];exact hx) (fw h5 x (bN hx))
    ·have RT:(y++D.sl s2 r2 [] Nj Nk Kp::l)[m]?=(D.sl s2 r2 [] Nj Nk Kp::l)[m-y.length]?:=aaO (by omega)
     rw[aaO (by omega)]at hx
     rw[RT]at hz
     cases hm:m-y.length with
     |zero=>
      rw[hm]at hx hz
      simp only[abM,abY]at hx hz
      subst hx
      exact sj.bH (sl2 s2 r2 0 1 Nj Nk Kp ex2' x' _ t1 h7 (bQ.at_ i _ x' hz hy))
     |succ q=>
      rw[hm]at hx hz
      simp only[ab8]at hx hz
      exact same x (by rw[hz];exact hx) (fw h6 x (bN hx))
def nF:List (Nat×Fn)->FuncId->Option Fn
 |[],_=>none
 |(k,F)::l,f=>bif k==f then some F else nF l f
theorem Vi{G:Nat->Option D}:aJ ⟨G,nF [],λ_=>none,λ_=>none⟩ P:=⟨(by intro f F h;cases h),(by intro f F h;cases h),(by intro f F h;cases h)⟩
theorem ak{G:Nat->Option D}{k:Nat}{F:Fn}{l:List (Nat×Fn)}{r:FuncId->Option lI}{q:FuncId->Option Gh}(h:aN G P k (Fn.run F))(hl:aJ ⟨G,nF l,r,q⟩ P):aJ ⟨G,nF ((k,F)::l),r,q⟩ P:=by
 refine⟨?_,hl.2⟩
 intro f F' hf
 simp only[nF]at hf
 cases hb:(k==f)with
 |true=>
  rw[hb]at hf
  have:k=f:=by simpa using hb
  subst this
  cases hf
  exact h
 |false=>
  rw[hb]at hf
  exact hl.1 f F' hf
def pV:List (Nat×lI)->FuncId->Option lI
 |[],_=>none
 |(k,F)::l,f=>bif k==f then some F else pV l f
theorem ctx_nilr{G:Nat->Option D}:aJ ⟨G,nF [],pV [],λ_=>none⟩ P:=⟨(by intro f F h;cases h),(by intro f F h;cases h),(by intro f F h;cases h)⟩
theorem aT{G:Nat->Option D}{k:Nat}{A:lI}{t:FuncId->Option Fn}{l:List (Nat×lI)}{q:FuncId->Option Gh}(h:aN G P k A)(hl:aJ ⟨G,t,pV l,q⟩ P):aJ ⟨G,t,pV ((k,A)::l),q⟩ P:=by
 refine⟨hl.1,?_,hl.2.2⟩
 intro f F' hf
 simp only[pV]at hf
 cases hb:(k==f)with
 |true=>
  rw[hb]at hf
  have:k=f:=by simpa using hb
  subst this
  cases hf
  exact h
 |false=>
  rw[hb]at hf
  exact hl.2.1 f F' hf
def Em:List (Nat×Gh)->FuncId->Option Gh
 |[],_=>none
 |(k,F)::l,f=>bif k==f then some F else Em l f
theorem LF{G:Nat->Option D}{k:Nat}{A:Gh}{t:FuncId->Option Fn}{l:List (Nat×Gh)}{r:FuncId->Option lI}(h:HZ G P k (MX A))(hl:aJ ⟨G,t,r,Em l⟩ P):aJ ⟨G,t,r,Em ((k,A)::l)⟩ P:=by
 refine⟨hl.1,hl.2.1,?_⟩
 intro f F' hf
 simp only[Em]at hf
 cases hb:(k==f)with
 |true=>
  rw[hb]at hf
  have:k=f:=by simpa using hb
  subst this
  cases hf
  exact h
 |false=>
  rw[hb]at hf
  exact hl.2.2 f F' hf
end Go.Am

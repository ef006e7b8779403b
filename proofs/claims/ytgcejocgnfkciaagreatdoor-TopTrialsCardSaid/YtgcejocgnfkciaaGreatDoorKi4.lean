import Derived.Test.YtgcejocgnfkciaaGreatDoorKi3
set_option linter.unusedSimpArgs false
set_option linter.unusedVariables false
namespace Go.Am
variable {C:aX} {P:Program} {n:Nat}
theorem Yu{env:Env}{l:List Nat}{x:X}(h:∀t,x= .tmp t->t∈l):ev C (small env l) x=ev C env x:=by
 cases x with
 |tmp t=>simp only[ev];rw[p9 (h t rfl)]
 |const _=>rfl
 |aY _=>rfl
theorem Ex.congr{env:Env}{rows aa:Rows}{x:aS}{d:D}(h:Ex C env rows x d aa):Ex C (small env (ov x)) rows x d aa:=by
 have yc:∀y∈x.op.xs,ev C env y=ev C (small env (ov x)) y:=by
  intro y hy
  refine(Yu λt ht=>?_).symm
  subst ht
  exact acb _ (uu hy)
 unfold Ex at h⊢
 split at h
 ·rename_i hg
  rw[<-Dg yc];exact h
 ·rename_i s want hg
  have hs:look (small env (ov x)) s=look env s:=p9 (by unfold ov;rw[hg];simp)
  rw[hs]
  rcases h with⟨b,h1,h2,h3⟩|h
  ·exact .inl ⟨b,h1,λhb=>by rw[<-Dg yc];exact h2 hb,h3⟩
  ·exact .inr h
theorem ei.keep{w w':World}{T T':Nat->Prop}(hg:ei C w T)(hw:∀b,T b->w'.heap[b]?=w.heap[b]?)(hT:∀b,T b->T' b):ei C w' T':=
 λg d hd=>(hg g d hd).mono (λ_ _ h=>h) hw hT
structure Qp (C:aX) (P:Program) (n:Nat) (ops:Array Oper) (al:List aS) (m:Nat):Prop where
 ok:Yr ops.toList al m
 co:wl P n ops.toList ops.toList=some al
 ctx:aJ C P
theorem Qp.get{ops:Array Oper}{al:List aS}{m:Nat}(h:Qp C P n ops al m):al.length=ops.size/\∀i,i<ops.size->∃o x,ops[i]?=some o/\al[i]?=some x/\P4 n o.dst=true/\cOp P o.op=some x.op/\lQ ops.toList o.guard=some x.guard/\x.dst=o.dst:=by
 obtain⟨h1,h2⟩:=wD h.co
 have h1':al.length=ops.size:=by simpa using h1
 refine⟨h1',λi hi=>?_⟩
 have hia:i<al.length:=by omega
 obtain⟨q1,q2,q3,q4⟩:=h2 i ops[i] al[i] (by simp[hi]) (by simp[hia])
 exact⟨ops[i],al[i],by simp[hi],by simp[hia],q1,q2,q3,q4⟩
theorem NG{ops:Array Oper}{al:List aS}{m:Nat}(hD:DOK ops.toList al m)(hd:Qp C P n ops al m){K:Env->Rows->Prop}{Q':Exit->Act->World->Prop}{jS:Pl}{T0:Nat->Prop}{dZ:Rows}{w0:World}
  (hK:∀env' aa ρ' T' a' w',K env' aa->eA n ρ' T' env' aa a' w'->Step jS T0 dZ w0 ρ' T' aa w'->Q' .normal a' w'):
  ∀(fuel:Nat) (L:Array Bool) (k:Nat) (env:Env) (rows:Rows) (ρ:Pl) (T:Nat->Prop) (a:Act) (w:World),m<=k->k<=ops.size->ops.size-k<=fuel->L.size=ops.size->(∀j,done L j↔j<k)->
   dD C (al.drop k) env rows K->eA n ρ T env rows a w->ei C w T->Step jS T0 dZ w0 ρ T rows w->wpAny P .any ops Q' fuel L a w:=by
 obtain⟨hlen,kg⟩:=hd.get
 intro fuel
 have fin:∀(L:Array Bool) (k:Nat) (env:Env) (rows:Rows) (ρ:Pl) (T:Nat->Prop) (a:Act) (w:World),k=ops.size->dD C (al.drop k) env rows K->eA n ρ T env rows a w->Step jS T0 dZ w0 ρ T rows w->Q' .normal a w:=by
  intro L k env rows ρ T a w hk h hs hst
  subst hk
  rw[acC (by omega)]at h
  exact hK env rows ρ T a w h hs hst
 have noReady:∀(L:Array Bool) (k:Nat),k=ops.size->(∀j,done L j↔j<k)->Region.ready .any ops L=[]:=by
  intro L k hk hL
  cases hr:Region.ready .any ops L with
  |nil=>rfl
  |cons i l=>
   exfalso
   obtain⟨⟨o,ho⟩,h1,_⟩:=jf (L:=L) (ops:=ops) (i:=i) (by rw[hr];simp)
   have hi:i<ops.size:=(aaZ.1 ho).1
   exact(rz h1).1 ((hL i).2 (by omega))
 induction fuel with
 |zero=>
  intro L k env rows ρ T a w hmk hk hf hsz hL h hs hg hst
  exact⟨noReady L k (by omega) hL,fin L k env rows ρ T a w (by omega) h hs hst⟩
 | succ fuel ih =>
  intro L k env rows ρ T a w hmk hk hf hsz hL h hs hg hst
  refine⟨λhr=>?_,λi hi=>?_⟩
  ·by_cases hke:k=ops.size
   ·exact fin L k env rows ρ T a w hke h hs hst
   ·exfalso
    have M0:k<ops.size:=by omega
    have:k∈Region.ready .any ops L:=wE M0 (mO (λqY=>by have:=(hL k).1 qY;omega) (by omega)) (λj hj=>(hL j).2 (hd.ok.back k j hj))
    rw[hr]at this
    cases this
  ·obtain⟨⟨o',Qq⟩,h1,h2⟩:=jf hi
   have vN:i<ops.size:=(aaZ.1 Qq).1
   obtain⟨CN,pz⟩:=rz h1
   have hik:k<=i:=by
    rcases aa1 i k with h3|h3
    ·exact absurd ((hL i).2 h3) CN
    ·exact h3
   have bN:=GM hD (λi' hi' j hj=>(hL j).2 (Nat.lt_trans (hd.ok.back i' j hj) ((hL i').1 hi'))) vN (by omega) h2
   have hie:i=k:=by
    rcases aa1 k i with h3|h3
    ·have:=(hL k).1 (bN k h3);omega
    ·omega
   subst hie
   obtain⟨o,x,ho,hx,q1,q2,q3,q4⟩:=kg i vN
   have Ys:al.drop i=x::al.drop (i+1):=by
    have hlt:i<al.length:=by omega
    rw[abF hlt]
    congr 1
    rw[aaw hlt]at hx
    exact abe hx
   rw[Ys]at h
   refine A6 hd.ctx ho q1 q2 q3 q4 hs hg h ?_
   intro env' aa ρ' T' a' w' h' gh cQ
   refine ih _ (i+1) env' aa ρ' T' a' w' (by omega) (by omega) (by omega) (by simpa using hsz) (λj=>?_) h' gh (hg.step hs cQ) (hst.trans cQ)
   rw[bJ pz,hL j]
   omega
structure Fe (C:aX) (P:Program) (n:Nat) (ops:Array Oper) (al:List aS) (m:Nat) (env:Env) (Dd:Nat->D) (R:Nat->Rows):Prop extends Qp C P n ops al m where
 nor:∀f,C.dO f=none
 tr:∀i,i<m->∃x new,al[i]?=some x/\R (i+1)=R i++new/\Ex C (mz al Dd env i) (R i) x (Dd i) (R (i+1))
section
variable {ops:Array Oper} {al:List aS} {m:Nat} {env:Env} {Dd:Nat->D} {R:Nat->Rows}
theorem Fe.pre(h:Fe C P n ops al m env Dd R){i j:Nat}(UP:i<=j)(hj:j<=m):∃new,R j=R i++new:=
 Vb (λi hi=>by obtain⟨x,new,_,h2,_⟩:=h.tr i hi;exact⟨new,h2⟩) UP hj
theorem Fe.le(h:Fe C P n ops al m env Dd R){i j:Nat}(UP:i<=j)(hj:j<=m):(R i).length<=(R j).length:=by
 obtain⟨new,h1⟩:=h.pre UP hj
 rw[h1];simp
theorem Fe.liv(h:Fe C P n ops al m env Dd R){i j r:Nat}(UP:i<=j)(hj:j<=m)(hr:r<(R i).length):live (R j) r=live (R i) r:=by
 obtain⟨new,h1⟩:=h.pre UP hj
 exact fL h1 hr
theorem Fe.XM(h:Fe C P n ops al m env Dd R){i j t:Nat}(hi:i<m)(hj:j<m)(hne:j≠i)(ht:bz al i=some t):bz al j≠some t:=by
 obtain⟨x,o,h1,h2,_,_,h5,_⟩:=h.ok.quiet i hi
 exact h5 j hj hne t (by simpa[bz,h1]using ht)
theorem Fe.sees(h:Fe C P n ops al m env Dd R){L:Array Bool}{jS ρ:Pl}{T0 T:Nat->Prop}{a:Act}{w0 w:World}(hI:I4 C n al m env Dd R jS T0 w0 L ρ T a w){i t:Nat}{d:D}(hi:i<=m)
  (qY:∀j,j<m->bz al j=some t->done L j/\j<i)(hl:look (mz al Dd env i) t=some d):VR (jU ρ (R i).length) w T d (a.tmps.getD t undef):=by
 by_cases hex:∃j,j<m/\bz al j=some t
 ·obtain⟨j,hj,Tl⟩:=hex
  obtain⟨h1,h2⟩:=qY j hj Tl
  rw[wC Tl i h2 (λj' mJ hne=>h.XM hj (by omega) hne Tl)]at hl
  cases hl
  exact(hI.out j hj h1 t Tl).mono (NE (h.le (by omega) hi)) (λ_ _=>rfl) (λ_ h=>h)
 ·have hno:∀j,j<m->bz al j≠some t:=λj hj Tl=>hex ⟨j,hj,Tl⟩
  rw[wB i (λj hj=>hno j (by omega))]at hl
  exact(hI.base t d hl (λj hj _=>hno j hj)).mono (NE (h.le (by omega) hi)) (λ_ _=>rfl) (λ_ h=>h)
theorem Fe.all(h:Fe C P n ops al m env Dd R){L:Array Bool}{jS ρ:Pl}{T0 T:Nat->Prop}{a:Act}{w0 w:World}(hI:I4 C n al m env Dd R jS T0 w0 L ρ T a w)(bN:∀j,j<m->done L j):
  eA n ρ T (mz al Dd env m) (R m) a w:=by
 refine⟨⟨λr row Lc h1 h2=>?_,λr r' row row' Lc GN h1 h2 h3 h4=>?_⟩,λt d hl=>?_,hI.size,hI.vL,hI.vM,hI.defers⟩
 ·have hr:=a9 h1
  have:=(hI.rows m (aaL _)).row r row Lc h1 (by unfold jU;rw[aaM hr];exact h2)
  exact this.mono kj (λ_ _=>rfl) (λ_ h=>h) rfl this.nu
 ·have hr:=a9 h1
  have tY:=a9 h2
  exact(hI.rows m (aaL _)).jQ r r' row row' Lc GN h1 h2 (by unfold jU;rw[aaM hr];exact h3) (by unfold jU;rw[aaM tY];exact h4)
 ·exact(h.sees hI (aaL _) (λj hj _=>⟨bN j hj,hj⟩) hl).mono kj (λ_ _=>rfl) (λ_ h=>h)
theorem Fe.start(h:Fe C P n ops al m env Dd R){L:Array Bool}{ρ:Pl}{T:Nat->Prop}{a:Act}{w:World}(hs:eA n ρ T env (R 0) a w)(hg:ei C w T)(hL:∀j,¬done L j):I4 C n al m env Dd R ρ T w L ρ T a w:=by
 have fG:∀j,j<=m->∀r Lc,ρ r=some Lc->jU ρ (R j).length r=some Lc:=by
  intro j hj r Lc hr
  unfold jU
  rw[aaM]
  ·exact hr
  ·have:=h.le (acv j) hj
   rcases aa1 r (R 0).length with h1|h1
   ·omega
   ·rw[hs.vM r h1]at hr;cases hr
 have yC:∀r Lc,ρ r=some Lc->r<(R 0).length:=by
  intro r Lc hr
  rcases aa1 r (R 0).length with h1|h1
  ·exact h1
  ·rw[hs.vM r h1]at hr;cases hr
 refine⟨hs.size,hs.defers,hs.vL,hg,λr hr=>hs.vM r (abg (h.le (acv m) (aaL _)) hr),λj hj=>⟨λr row Lc h1 h2=>?_,λr r' row row' Lc GN h1 h2 h3 h4=>?_⟩,
  λj hj _ r hr _=>hs.vM r (abg (h.le (acv j) (by omega)) hr),λt d hl _=>(hs.env t d hl).mono (fG 0 (acv _)) (λ_ _=>rfl) (λ_ h=>h),
  λj hj qY=>absurd qY (hL j),?_⟩
 ·have h3:=kj r Lc h2
  rw[h.liv (acv j) hj (yC r Lc h3)]at h1
  have:=hs.bw.row r row Lc h1 h3
  exact this.mono (fG j hj) (λ_ _=>rfl) (λ_ h=>h) rfl this.nu
 ·have q3:=kj r Lc h3
  have q4:=kj r' GN h4
  rw[h.liv (acv j) hj (yC r Lc q3)]at h1
  rw[h.liv (acv j) hj (yC r' GN q4)]at h2
  exact hs.bw.jQ r r' row row' Lc GN h1 h2 q3 q4
 ·refine⟨λ_ _ h=>h,λ_ h=>h,λ_ h=> .inl h,aaL _,λ_ _ _=>rfl,λr row Lc h1 h2=>?_,rfl,rfl,rfl,h.le (acv m) (aaL _),λ_ _=>rfl⟩
  rw[h.liv (acv m) (aaL _) (yC r Lc h2)]at h1
  exact .inl ⟨r,row,Lc,h1,h2,rfl⟩
theorem Fe.next(h:Fe C P n ops al m env Dd R){L:Array Bool}{jS ρ ρ':Pl}{T0 T T':Nat->Prop}{a:Act}{w0 w w':World}(hI:I4 C n al m env Dd R jS T0 w0 L ρ T a w){i:Nat}(hi:i<m)(pz:i<L.size)(CN:¬done L i)
  {env':Env}{v:Value}(U9:∀t,bz al i=some t->t<n)(hs:eA n ρ' T' env' (R (i+1)) a w')(hst:Step (jU ρ (R i).length) T (R i) w ρ' T' (R (i+1)) w')(hv:VR ρ' w' T' (Dd i) v)(Ta:QH (jU ρ (R i).length) (R i) w w')(pI:∀b,T' b->T b\/w.heap.size<=b):
  I4 C n al m env Dd R jS T0 w0 (L.setIfInBounds i true) (λr=>if r<(R i).length then ρ r else if r<(R (i+1)).length then ρ' r else ρ r) T' (a.put (bz al i) v) w':=by
 let I5:Pl:=λr=>if r<(R i).length then ρ r else if r<(R (i+1)).length then ρ' r else ρ r
 show I4 C n al m env Dd R jS T0 w0 (L.setIfInBounds i true) I5 T' (a.put (bz al i) v) w'
 have hle:(R i).length<=(R (i+1)).length:=h.le (by omega) (by omega)
 have hw:∀b,T b->w'.heap[b]?=w.heap[b]?:=λb hb=>by
  rcases Ta b (hI.vL b hb)with h1|⟨_,r,row,Lc,h2,h3,rfl⟩
  ·exact h1
  ·exact absurd hb ((hI.rows i (by omega)).row r row Lc h2 h3).nu
 --old and new places
 have e1:∀r,r<(R i).length->I5 r=ρ r:=λr hr=>by simp only[I5];rw[aaM hr]
 have e2:∀r,(R i).length<=r->r<(R (i+1)).length->I5 r=ρ' r:=λr hr tY=>by simp only[I5];rw[aaE (by omega),aaM tY]
 have e3:∀r,(R (i+1)).length<=r->I5 r=ρ r:=λr hr=>by simp only[I5];rw[aaE (by omega),aaE (by omega)]
 have hA:∀r Lc,ρ r=some Lc->I5 r=some Lc:=by
  intro r Lc hr
  rcases aa1 r (R i).length with h1|h1
  ·rw[e1 r h1];exact hr
  ·rcases aa1 r (R (i+1)).length with h2|h2
   ·rw[hI.hole i hi CN r h1 h2]at hr;cases hr
   ·rw[e3 r h2];exact hr
 have hB:∀r Lc,ρ' r=some Lc->I5 r=some Lc/\r<(R (i+1)).length:=by
  intro r Lc hr
  rcases aa1 r (R (i+1)).length with h2|h2
  ·refine⟨?_,h2⟩
   rcases aa1 r (R i).length with h1|h1
   ·rw[e1 r h1]
    have:=hst.same r h1
    rw[this]at hr
    exact kj r Lc hr
   ·rw[e2 r h1 h2];exact hr
  ·rw[hs.vM r h2]at hr;cases hr
 have Xm:∀k r Lc,jU ρ k r=some Lc->jU I5 k r=some Lc:=by
  intro k r Lc hr
  unfold jU at hr⊢
  split at hr
  ·rename_i hlt;rw[aaM hlt];exact hA r Lc hr
  ·cases hr
 have hBr:∀k,(R (i+1)).length<=k->∀r Lc,ρ' r=some Lc->jU I5 k r=some Lc:=by
  intro k hkk r Lc hr
  obtain⟨h1,h2⟩:=hB r Lc hr
  unfold jU
  rw[aaM (by omega)];exact h1
 --a place is old or new
 have NH : ∀ j, j <= m -> ∀ r row Lc, live (R j) r = some row -> I5 r = some Lc -> (ρ r = some Lc) \/ ((R i).length <= r /\ r < (R (i + 1)).length /\ ρ' r = some Lc /\ live (R (i + 1)) r = some row /\ w.heap.size <= Lc.b /\ i + 1 <= j) := by
  intro j hj r row Lc hl hr
  rcases aa1 r (R i).length with h1|h1
  ·exact .inl (by rw[<-e1 r h1];exact hr)
  ·rcases aa1 r (R (i+1)).length with h2|h2
   ·rw[e2 r h1 h2]at hr
    have UP:i+1<=j:=by
     rcases aa1 i j with h3|h3
     ·exact h3
     ·have:=h.le h3 (by omega)
      have:=a9 hl
      omega
    have mC:live (R (i+1)) r=some row:=by rw[<-h.liv UP hj h2];exact hl
    refine .inr ⟨h1,h2,hr,mC,?_,UP⟩
    rcases hst.fresh r row Lc mC hr with⟨r0,pZ,L0,q1,q2,q3⟩|q
    ·exfalso
     have hr0:=a9 q1
     have q4:live (R (i+1)) r0=some pZ:=by rw[h.liv (by omega) (by omega) hr0];exact q1
     exact hs.bw.jQ r0 r pZ row L0 Lc q4 mC (hst.pl r0 L0 q2) hr (by omega) q3
    ·exact q
   ·exact .inl (by rw[<-e3 r h2];exact hr)
 have hold:∀j,j<=m->∀r row Lc,live (R j) r=some row->ρ r=some Lc->mF (jU ρ (R j).length) row Lc w T:=by
  intro j hj r row Lc hl hr
  refine(hI.rows j hj).row r row Lc hl ?_
  unfold jU;rw[aaM (a9 hl)];exact hr
 refine⟨?_,?_,hs.vL,hI.aY.keep hw hst.tt,λr hr=>?_,λj hj=>⟨λr row Lc h1 h2=>?_,λr r' row row' Lc GN h1 h2 h3 h4 hne=>?_⟩,λj hj qY r h1 h2=>?_,λt d hl hno=>?_,λj hj qY t ht=>?_,?_⟩
 ·cases hdd:bz al i with
  |none=>exact hI.size
  |some t=>simpa[Act.put]using hI.size
 ·cases hdd:bz al i with
  |none=>exact hI.defers
  |some t=>simpa[Act.put]using hI.defers
 ·have:=h.le (i:=i+1) (j:=m) (by omega) (aaL _)
  rw[e3 r (by omega)]
  exact hI.vM r hr
 ·rcases NH j hj r row Lc h1 (kj r Lc h2)with h3|⟨q1,q2,q3,q4,q5,q6⟩
  ·have hro:=hold j hj r row Lc h1 h3
   refine hro.XN (Xm _) hw hst.tt ((Ta _ hro.lt).imp_right (·.1)) (λhT=>?_)
   rcases pI _ hT with h4|h4
   ·exact hro.nu h4
   ·have:=hro.lt;omega
  ·have hro:=hs.bw.row r row Lc q4 q3
   exact hro.mono (hBr _ (h.le q6 hj)) (λ_ _=>rfl) (λ_ h=>h) rfl hro.nu
 ·rcases NH j hj r row Lc h1 (kj r Lc h3)with p|⟨q1,q2,q3,q4,q5,q6⟩
  ·rcases NH j hj r' row' GN h2 (kj r' GN h4)with p'|⟨q1',q2',q3',q4',q5',q6'⟩
   ·refine(hI.rows j hj).jQ r r' row row' Lc GN h1 h2 ?_ ?_ hne
    ·unfold jU;rw[aaM (a9 h1)];exact p
    ·unfold jU;rw[aaM (a9 h2)];exact p'
   ·have:=(hold j hj r row Lc h1 p).lt;omega
  ·rcases NH j hj r' row' GN h2 (kj r' GN h4)with p'|⟨q1',q2',q3',q4',q5',q6'⟩
   ·have:=(hold j hj r' row' GN h2 p').lt;omega
   ·exact hs.bw.jQ r r' row row' Lc GN q4 q4' q3 q3' hne
 ·have hne:j≠i:=λe=>qY ((bJ pz).2 (.inr e))
  have hnd':¬done L j:=λhh=>qY ((bJ pz).2 (.inl hh))
  rcases Nat.lt_or_gt_of_ne hne with h3|h3
  ·have:=h.le (i:=j+1) (j:=i) (by omega) (by omega)
   rw[e1 r (by omega)]
   exact hI.hole j hj hnd' r h1 h2
  ·have:=h.le (i:=i+1) (j:=j) (by omega) (by omega)
   rw[e3 r (by omega)]
   exact hI.hole j hj hnd' r h1 h2
 ·rw[Eo (hno i hi ((bJ pz).2 (.inr rfl)))]
  exact(hI.base t d hl (λj hj qY=>hno j hj ((bJ pz).2 (.inl qY)))).mono (Xm _) hw hst.tt
 ·by_cases Tm:j=i
  ·subst Tm
   rw[ht,NF (by rw[hI.size];exact U9 t ht)]
   exact hv.mono (hBr _ (aaL _)) (λ_ _=>rfl) (λ_ h=>h)
  ·have hdn':done L j:=by
    rcases(bJ pz).1 qY with h1|h1
    ·exact h1
    ·exact absurd h1 Tm
   rw[Eo (h.XM hj hi (λe=>Tm e.symm) ht)]
   exact(hI.out j hj hdn' t ht).mono (Xm _) hw hst.tt
 ·have AW:=hI.step
  refine⟨λr Lc hr=>hA r Lc (AW.pl r Lc hr),λb hb=>hst.tt b (AW.tt b hb),λb hb=>?_,abg AW.size hst.size,λb hb hn=>?_,λr row Lc h1 h2=>?_,hst.os.trans AW.os,hst.tape.trans AW.tape,hst.output.trans AW.output,AW.len,λr hr=>?_⟩
  ·rcases pI b hb with h1|h1
   ·exact AW.vK b h1
   ·exact .inr (.inl (abg AW.size h1))
  ·rcases Ta b (ab2 hb AW.size)with h1|⟨_,r,row,Lc,h2,h3,h4⟩
   ·rw[h1]
    exact AW.keep b hb hn
   ·exfalso
    have h5:live (R m) r=some row:=by rw[h.liv (by omega) (aaL _) (a9 h2)];exact h2
    rcases AW.fresh r row Lc h5 (kj r Lc h3)with⟨r0,pZ,L0,q1,q2,q3⟩|q
    ·exact hn r0 pZ L0 q1 q2 (q3.trans h4)
    ·omega
  ·rcases NH m (aaL _) r row Lc h1 h2 with p|⟨q1,q2,q3,q4,q5,q6⟩
   ·exact AW.fresh r row Lc h1 p
   ·exact .inr (abg AW.size q5)
  ·have:=h.le (i:=0) (j:=i) (by omega) (by omega)
   rw[e1 r (by omega)]
   exact AW.same r hr
theorem Fe.any (hD : DOK ops.toList al m) (h : Fe C P n ops al m env Dd R) {C' : aX} (hC' : aJ C' P) (hGl : ∀ w T, ei C w T -> ei C' w T) {K : Env -> Rows -> Prop} {Q' : Exit -> Act -> World -> Prop} {jS : Pl} {T0 : Nat -> Prop} {w0 : World} (Tn : dD C' (al.drop m) (mz al Dd env m) (R m) K)
  (hK:∀env' aa ρ' T' a' w',K env' aa->eA n ρ' T' env' aa a' w'->Step jS T0 (R 0) w0 ρ' T' aa w'->Q' .normal a' w'):
  ∀(fuel:Nat) (L:Array Bool) (ρ:Pl) (T:Nat->Prop) (a:Act) (w:World),jC L ops.size<=fuel->L.size=ops.size->(∀j,done L j->j<m)->(∀i,done L i->∀j,v7 ops.toList i j=true->done L j)->I4 C n al m env Dd R jS T0 w0 L ρ T a w->wpAny P .any ops Q' fuel L a w:=by
 obtain⟨hlen,kg⟩:=h.toQp.get
 have hm:m<=ops.size:=by have:=h.ok.le;simpa using this
 intro fuel
 induction fuel with
 | zero =>
  intro L ρ T a w hf hsz PL jF hI
  have bN:∀j,j<ops.size->done L j:=by
   intro j hj
   refine abo λhn=>?_
   have:=jV hj (by omega) (mO hn (by omega))
   omega
  have hs:=h.all hI (λj hj=>bN j (by omega))
  have hme:m=ops.size:=by
   rcases aa1 m ops.size with h1|h1
   ·have:=PL m (bN m h1);omega
   ·omega
  exact NG hD (C:=C') ⟨h.ok,h.co,hC'⟩ hK 0 L m _ _ ρ T a w (aaL _) hm (by omega) hsz (λj=>⟨PL j,λhj=>bN j (by omega)⟩) Tn hs (hGl _ _ hI.aY) hI.step
 | succ fuel ih =>
  intro L ρ T a w hf hsz PL jF hI
  by_cases bN:∀j,j<m->done L j
  ·have hs:=h.all hI bN
   refine NG hD (C:=C') ⟨h.ok,h.co,hC'⟩ hK (fuel+1) L m _ _ ρ T a w (aaL _) hm ?_ hsz (λj=>⟨PL j,bN j⟩) Tn hs (hGl _ _ hI.aY) hI.step
   have:∀k,k<=ops.size->m<=k->k-m<=jC L k:=by
    intro k
    induction k with
    |zero=>intro _ _;omega
    | succ k ihk =>
     intro h1 h2
     rcases aa1 k m with h3|h3
     ·omega
     ·have:=ihk (by omega) h3
      have hnk:L.getD k false=false:=by
       cases hb:L.getD k false with
       |false=>rfl
       |true=>have:=PL k hb;omega
      have hu:jC L (k+1)=jC L k+1:=by
       unfold jC
       rw[abM,List.filter_append,adi,hnk]
       simp only[abC,ab6,List.filter_nil,aax,aa0,aba]
      omega
   have:=this ops.size (aaL _) hm
   omega
  ·have hex : ∃ j, j < m /\ ¬ done L j := by
    refine abo λhne=>?_
    exact bN λj hj=>by
     refine abo λhn=>?_
     exact hne ⟨j,hj,hn⟩
   refine⟨λhr=>?_,λi hi=>?_⟩
   ·exfalso
    --the least one not done is ready
    have key : ∀ k, (∀ j, j < k -> j < m -> done L j) \/ ∃ j, j < k /\ j < m /\ ¬ done L j /\ ∀ j', j' < j -> done L j' := by
     intro k
     induction k with
     |zero=>left;intro j hj;omega
     | succ k ihk =>
      rcases ihk with h1|⟨j,q1,q2,q3,q4⟩
      ·by_cases hk:k<m/\¬done L k
       ·right
        exact⟨k,by omega,hk.1,hk.2,λj' mJ=>h1 j' mJ (by omega)⟩
       ·left
        intro j hj hjm
        rcases aa1 j k with h3|h3
        ·exact h1 j h3 hjm
        ·have:j=k:=by omega
         subst this
         refine abo λhn=>?_
         exact hk ⟨hjm,hn⟩
      ·right;exact⟨j,by omega,q2,q3,q4⟩
    rcases key m with h1|⟨j,q1,q2,q3,q4⟩
    ·exact bN λj hj=>h1 j hj hj
    ·have:j∈Region.ready .any ops L:=wE (by omega) (mO q3 (by omega)) (λj' mJ=>q4 j' (h.ok.back j j' mJ))
     rw[hr]at this
     cases this
   ·obtain⟨⟨o',Qq⟩,h1,h2⟩:=jf hi
    have vN:i<ops.size:=(aaZ.1 Qq).1
    obtain⟨CN,pz⟩:=rz h1
    have MZ:i<m:=by
     rcases aa1 i m with h3|h3
     ·exact h3
     ·exfalso
      have:=GM hD jF vN h3 h2
      obtain⟨j,hj,hn⟩:=hex
      exact hn (this j (by omega))
    obtain⟨o,x,ho,hx,q1,q2,q3,q4⟩:=kg i vN
    obtain⟨x',new,hx',hR,hE⟩:=h.tr i MZ
    rw[hx]at hx'
    cases hx'
    obtain⟨x',o',hx',ho'',hqa,hqo,_,hu⟩:=h.ok.quiet i MZ
    rw[hx]at hx'
    cases hx'
    have ho3:ops[i]?=some o':=by simpa using ho''
    rw[ho]at ho3
    cases ho3
    have hs:eA n (jU ρ (R i).length) T (small (mz al Dd env i) (ov x)) (R i) a w:=by
     refine⟨hI.rows i (by omega),λt d hl=>?_,hI.size,hI.vL,λr hr=>?_,hI.defers⟩
     ·obtain⟨ht,hl⟩:=yd hl
      refine h.sees hI (by omega) (λj hj Tl=>?_) hl
      have:=hu t ht j hj Tl
      exact⟨h2 j this,h.ok.back i j this⟩
     ·unfold jU;rw[aaE (by omega)]
    have qZ:bz al i=o.dst:=by simp[bz,hx,q4]
    refine ex_wp h.nor h.ctx ho q2 q3 hs hI.aY hqo hE.congr ?_
    intro ρ' T' v w' gh cQ lZ Ns
    have NI:=h.next hI MZ pz CN (λt ht=>ya q1 t (by rw[<-qZ];exact ht)) gh cQ lZ Ns.1 Ns.2
    rw[qZ]at NI
    refine ih _ _ T' _ w' ?_ (by simpa using hsz) (λj hj=>?_) (λi' hi' j hj=>?_) NI
    ·have:=jV vN pz h1
     omega
    ·rcases(bJ pz).1 hj with h3|h3
     ·exact PL j h3
     ·omega
    ·refine(bJ pz).2 (.inl ?_)
     rcases(bJ pz).1 hi' with h3|h3
     ·exact jF i' h3 j hj
     ·subst h3;exact h2 j hj
end
theorem GO(hN:∀f,C.dO f=none)(hC:aJ C P)(hP:P.follows .mixedOrders=true){id:Nat}{ops:Array Oper}{al:List aS}(hc:wl P n ops.toList ops.toList=some al)(hd:P5 ops.toList al=true)
  {env:Env}{rows:Rows}{ρ:Pl}{T:Nat->Prop}{a:Act}{w:World}{Q:fE->Env->Rows->Prop}{Q':Exit->Act->World->Prop}(h:dD C al env rows (Q .normal))(hs:eA n ρ T env rows a w)(hg:ei C w T)
  (hp:Post n ρ T rows w Q Q'):(Code.region id ops true).wp P Q' a w:=by
 obtain⟨m,_,hm⟩:=acu.1 hd
 have hok:=ND hm
 have hlen:=(wD hc).1
 have hq:∀i,i<m->∃x,al[i]?=some x/\lR x.op=true:=by
  intro i hi
  obtain⟨x,o,h1,_,h3,_⟩:=hok.quiet i hi
  exact⟨x,h1,h3⟩
 obtain⟨Dd,R,h0,h1,h2⟩:=trace hN m (by rw[hlen];exact hok.le) hq h
 subst h0
 have hrun:Fe C P n ops al m env Dd R:=⟨⟨hok.toYr,hc,hC⟩,hN,h1⟩
 have hw1:eA n ρ T env (R 0) a {w with drawn:=w.drawn+1}:=hs.heap rfl
 have Vc:ei C {w with drawn:=w.drawn+1} T:=hg.keep (λ_ _=>rfl) (λ_ h=>h)
 have Qr:∀j,¬done (Array.replicate ops.size false) j:=by
  intro j hj
  unfold done at hj
  simp[Array.getD]at hj
 refine wp_region_any hP (hrun.any hok hC (λ_ _ h=>h) h2 (w0:={w with drawn:=w.drawn+1}) (jS:=ρ) (T0:=T) ?_ ops.size _ ρ T a _ ?_ (by simp) (λj hj=>absurd hj (Qr j)) (λi hi=>absurd hi (Qr i)) (hrun.start hw1 Vc Qr))
 ·intro env' aa ρ' T' a' w' hk gh cQ
  exact hp .normal env' aa ρ' T' a' w' hk gh ⟨cQ.pl,cQ.tt,cQ.vK,cQ.size,cQ.keep,cQ.fresh,cQ.os,cQ.tape,cQ.output,cQ.len,cQ.same⟩
 ·unfold jC
  exact abg (ac3 _ _) (by simp)
end Go.Am
namespace Go.Am
variable {C:aX} {P:Program} {n:Nat}
def NJ(env:Env)(ts:List Nat):Env:=env.filter λp=>!ts.contains p.1
theorem sV(ts:List Nat)(t:Nat):∀(env:Env),look (NJ env ts) t=if t∈ts then none else look env t
 |[]=>by simp[NJ,look]
 | (k, d) :: env => by
  have ih:=sV ts t env
  simp only[NJ,adi]at ih⊢
  by_cases hk:k∈ts
  ·have:(!ts.contains k)=false:=by simp[hk]
   simp only[this]
   rw[aaE (by simp),ih]
   by_cases ht:t∈ts
   ·simp[ht]
   ·have:(k==t)=false:=by
     have:k≠t:=λe=>ht (e▸hk)
     simpa using this
    simp[ht,look,this]
  ·have:(!ts.contains k)=true:=by simp[hk]
   simp only[this,ab6,look]
   cases hkt:(k==t)with
   |true=>
    have:k=t:=by simpa using hkt
    subst this
    simp[hk]
   |false=>simpa using ih
def undL(al:List aS)(m:Nat)(L:Array Bool):List Nat:=(List.range m).filterMap λj=>bif L.getD j false then none else bz al j
theorem NK{al:List aS}{m:Nat}{L:Array Bool}{t:Nat}:t∈undL al m L↔∃j,j<m/\¬done L j/\bz al j=some t:=by
 unfold undL done
 rw[ac2]
 constructor
 ·rintro⟨j,hj,h⟩
  cases hb:L.getD j false with
  |true=>rw[hb]at h;cases h
  |false=>rw[hb]at h;exact⟨j,by simpa using hj,by rw[hb];simp,h⟩
 ·rintro⟨j,hj,h1,h2⟩
  refine⟨j,by simpa using hj,?_⟩
  have:L.getD j false=false:=by simpa using h1
  rw[this];exact h2
def iD(al:List aS)(m:Nat)(L:Array Bool)(env:Env):Env:=NJ env (undL al m L)
theorem sX{al:List aS}{m:Nat}{L:Array Bool}{env:Env}{t:Nat}(h:∀j,j<m->¬done L j->bz al j≠some t):look (iD al m L env) t=look env t:=by
 unfold iD
 rw[sV,aaE]
 rw[NK]
 rintro⟨j,h1,h2,h3⟩
 exact h j h1 h2 h3
theorem og{al:List aS}{m:Nat}{L:Array Bool}{env:Env}{t:Nat}{d:D}(h:look (iD al m L env) t=some d):look env t=some d/\∀j,j<m->¬done L j->bz al j≠some t:=by
 unfold iD at h
 rw[sV]at h
 split at h
 ·cases h
 ·rename_i hn
  refine⟨h,λj h1 h2 h3=>hn (NK.2 ⟨j,h1,h2,h3⟩)⟩
theorem eA.ext{ρ:Pl}{T:Nat->Prop}{env env':Env}{rows:Rows}{a:Act}{w:World}(h:eA n ρ T env rows a w)(he:∀t d,look env' t=some d->look env t=some d):eA n ρ T env' rows a w:=
 ⟨h.bw,λt d hd=>h.env t d (he t d hd),h.size,h.vL,h.vM,h.defers⟩
def KH(dst:Option Nat)(hd env:Env)(K0:Env->Rows->Prop):Env->Rows->Prop:=λenv' rows=>match dst with
 |some t=>∃d,env'=(t,d)::hd/\K0 ((t,d)::env) rows
 |none=>env'=hd/\K0 env rows
theorem La(dst:Option Nat)(hd env:Env)(K0:Env->Rows->Prop)(d:D)(rows:Rows):KH dst hd env K0 (put dst d hd) rows=K0 (put dst d env) rows:=by
 cases dst with
 |none=>simp[KH,put]
 | some t =>
  simp only[KH,put]
  apply propext
  constructor
  ·rintro⟨d',h1,h2⟩
   cases h1
   exact h2
  ·intro h
   exact⟨d,rfl,h⟩
theorem A7{x:aS}{hd env:Env}{rows:Rows}{K0:Env->Rows->Prop}(yc:∀t,t∈ov x->look hd t=look env t)(h:dD C [x] env rows K0):dD C [x] hd rows (KH x.dst hd env K0):=by
 obtain⟨dst,o,g⟩:=x
 have hx:∀y∈o.xs,ev C hd y=ev C env y:=by
  intro y hy
  cases y with
  |tmp t=>exact yc t (acb _ (uu hy))
  |const _=>rfl
  |aY _=>rfl
 have hop:∀k:D->Rows->Prop,dA C hd rows o k=dA C env rows o k:=λk=>Dg hx k
 have e1:(λd rows=>dD C [] (put dst d hd) rows (KH dst hd env K0))=λd rows=>dD C [] (put dst d env) rows K0:=by
  funext d r
  exact La dst hd env K0 d r
 cases g with
 |none=>
  show dA C hd rows o (λd rows=>dD C [] (put dst d hd) rows (KH dst hd env K0))
  rw[e1,hop]
  exact h
 | some gw =>
  obtain⟨g,want⟩:=gw
  have hg:look hd g=look env g:=yc g (by simp[ov])
  have h':=h
  simp only[dD]at h'⊢
  rw[hg]
  obtain⟨v,hv,hk⟩:=ak h'
  rw[hv]
  split at hk
  ·rename_i t
   show((t=want->dA C hd rows o λd rows=>KH dst hd env K0 (put dst d hd) rows)/\(t=!want->KH dst hd env K0 (put dst (.cB []) hd) rows))
   refine⟨λht=>?_,λht=>?_⟩
   ·have e2:(λd rows=>KH dst hd env K0 (put dst d hd) rows)=λd rows=>K0 (put dst d env) rows:=by
     funext d r
     exact La dst hd env K0 d r
    rw[e2,hop]
    exact hk.1 ht
   ·rw[La];exact hk.2 ht
  ·show KH dst hd env K0 (put dst (.cB []) hd) rows
   rw[La];exact hk
  ·exact hk.elim
theorem lC{ops:Array Oper}{L:Array Bool}(jF:∀i,done L i->∀j,v7 ops.toList i j=true->done L j):∀(f i j:Nat),(∀j,v7 ops.toList i j=true->done L j)->I3 ops.toList f i j=true->done L j
 |0,i,j,_,h=>by simp[I3]at h
 | f + 1, i, j, hd, h => by
  simp only[I3,abN]at h
  rcases h with h|h
  ·exact hd j h
  ·obtain⟨k,_,hk⟩:=acu.1 h
   simp only[aav]at hk
   exact lC jF f k j (λq hq=>jF k (hd k hk.1) q hq) hk.2
theorem Di{env:Env}{rows:Rows}:∀{l:List aS} {y:aS},sL C env rows l->y∈l->dA C env rows y.op (AP env rows y.dst)
 |[],y,_,h=>by simp at h
 |x::l,y,h,hy=>by
  rcases aaW.1 hy with rfl|hy
  ·exact h.1
  ·exact Di h.2 hy
theorem Vd {ops : Array Oper} {al : List aS} {m : Nat} (hD : DOK2 ops.toList al m) (hd : Qp C P n ops al m) {K : Env -> Rows -> Prop} {Q' : Exit -> Act -> World -> Prop} {jS : Pl} {T0 : Nat -> Prop} {dZ : Rows} {w0 : World}
  (hK:∀env' aa ρ' T' a' w',K env' aa->eA n ρ' T' env' aa a' w'->Step jS T0 dZ w0 ρ' T' aa w'->Q' .normal a' w'):
  ∀(fuel:Nat) (L:Array Bool) (k:Nat) (env:Env) (rows:Rows) (ρ:Pl) (T:Nat->Prop) (a:Act) (w:World),m<=k->k<=ops.size->jC L ops.size<=fuel->L.size=ops.size->(∀j,k<=j->¬done L j)->(∀j,m<=j->j<k->done L j)->
   (∀i,done L i->∀j,v7 ops.toList i j=true->done L j)->(∀j,j<m->¬done L j->∃y,al[j]?=some y/\y.guard=none/\(∃t,y.dst=some t)/\dA C env rows y.op (AP env rows y.dst))->
   wk C (Eg ops.toList al m k (ops.size-k)) env rows K->eA n ρ T (iD al m L env) rows a w->ei C w T->Step jS T0 dZ w0 ρ T rows w->wpAny P .any ops Q' fuel L a w:=by
 obtain⟨hlen,kg⟩:=hd.get
 intro fuel
 have fin:∀(L:Array Bool) (k:Nat) (env:Env) (rows:Rows) (ρ:Pl) (T:Nat->Prop) (a:Act) (w:World),k=ops.size->(∀j,j<ops.size->done L j)->m<=k->wk C (Eg ops.toList al m k (ops.size-k)) env rows K->eA n ρ T (iD al m L env) rows a w->Step jS T0 dZ w0 ρ T rows w->Q' .normal a w:=by
  intro L k env rows ρ T a w hk bN hmk h hs hst
  subst hk
  rw[acr]at h
  exact hK env rows ρ T a w h (hs.ext λt d hl=>by rw[sX (λj hj hn=>absurd (bN j (by omega)) hn)];exact hl) hst
 have Ye : ∀ (L : Array Bool), L.size = ops.size -> (∃ j, j < ops.size /\ ¬ done L j) -> ∃ j, j ∈ Region.ready .any ops L := by
  intro L hsz ⟨j,hj,hn⟩
  have key : ∀ q, (∀ j, j < q -> done L j) \/ ∃ j, j < q /\ ¬ done L j /\ ∀ j', j' < j -> done L j' := by
   intro q
   induction q with
   |zero=>left;intro j hj;omega
   | succ q ih =>
    rcases ih with h1|⟨j,q1,q2,q3⟩
    ·by_cases hq:done L q
     ·left;intro j hj
      rcases aa1 j q with h2|h2
      ·exact h1 j h2
      ·have:j=q:=by omega
       subst this;exact hq
     ·exact .inr ⟨q,by omega,hq,h1⟩
    ·exact .inr ⟨j,by omega,q2,q3⟩
  rcases key ops.size with h1|⟨j',q1,q2,q3⟩
  ·exact absurd (h1 j hj) hn
  ·exact⟨j',wE q1 (mO q2 (by omega)) (λj'' hj''=>q3 j'' (hd.ok.back j' j'' hj''))⟩
 have Lb:∀(L:Array Bool),L.size=ops.size->Region.ready .any ops L=[]->∀j,j<ops.size->done L j:=by
  intro L hsz hr j hj
  refine abo λhn=>?_
  obtain⟨i,hi⟩:=Ye L hsz ⟨j,hj,hn⟩
  rw[hr]at hi
  cases hi
 have kend:∀(L:Array Bool) (k:Nat),k<=ops.size->(∀j,k<=j->¬done L j)->(∀j,j<ops.size->done L j)->k=ops.size:=by
  intro L k hk h1 h2
  rcases aa1 k ops.size with h3|h3
  ·exact absurd (h2 k h3) (h1 k (aaL _))
  ·omega
 induction fuel with
 | zero =>
  intro L k env rows ρ T a w hmk hk hf hsz Xi hlo jF hob h hs hg hst
  have bN:∀j,j<ops.size->done L j:=by
   intro j hj
   refine abo λhn=>?_
   have:=jV hj (by omega) (mO hn (by omega))
   omega
  have hke:=kend L k hk Xi bN
  refine⟨?_,fin L k env rows ρ T a w hke bN hmk h hs hst⟩
  cases hr:Region.ready .any ops L with
  |nil=>rfl
  |cons i l=>
   exfalso
   obtain⟨⟨o,ho⟩,h1,_⟩:=jf (L:=L) (ops:=ops) (i:=i) (by rw[hr];simp)
   exact(rz h1).1 (bN i (aaZ.1 ho).1)
 | succ fuel ih =>
  intro L k env rows ρ T a w hmk hk hf hsz Xi hlo jF hob h hs hg hst
  refine⟨λhr=>?_,λi hi=>?_⟩
  ·have bN:=Lb L hsz hr
   exact fin L k env rows ρ T a w (kend L k hk Xi bN) bN hmk h hs hst
  ·obtain⟨⟨o',Qq⟩,h1,h2⟩:=jf hi
   have vN:i<ops.size:=(aaZ.1 Qq).1
   obtain⟨CN,pz⟩:=rz h1
   obtain⟨o,x,ho,hx,q1,q2,q3,q4⟩:=kg i vN
   have Ve:jC (L.setIfInBounds i true) ops.size<=fuel:=by have:=jV vN pz h1;omega
   have Vf:∀i',done (L.setIfInBounds i true) i'->∀j,v7 ops.toList i' j=true->done (L.setIfInBounds i true) j:=by
    intro i' hi' j hj
    refine(bJ pz).2 (.inl ?_)
    rcases(bJ pz).1 hi' with h3|h3
    ·exact jF i' h3 j hj
    ·subst h3;exact h2 j hj
   rcases aa1 i m with MZ|MZ
   · -- a quiet one that comes late
    obtain⟨y,hy,hyg,⟨t,GP⟩,hya⟩:=hob i MZ CN
    rw[hx]at hy
    cases hy
    obtain⟨x',o2,hx',ho2,hqa,hqo,_,hu⟩:=hD.quiet i MZ
    rw[hx]at hx'
    cases hx'
    have yc:∀t',t'∈ov x->look (iD al m L env) t'=look env t':=λt' yB=>sX λj hj hn he=>hn (h2 j (hu t' yB j hj he))
    have hst1:dD C [x] env rows (λenv' aa=>env'=put x.dst ((look env t).getD default) env/\look env t=some ((look env t).getD default)/\aa=rows):=by
     obtain⟨dst,op,g⟩:=x
     simp only at hyg GP
     subst hyg
     subst GP
     show dA C env rows op _
     have e:(λd aa=>dD C [] (put (some t) d env) aa λenv' aa=>env'=put (some t) ((look env t).getD default) env/\look env t=some ((look env t).getD default)/\aa=rows)=AP env rows (some t):=by
      funext d r
      simp only[dD,AP,put]
      apply propext
      constructor
      ·rintro⟨e1,e2,e3⟩
       cases e1
       exact⟨e2,e3⟩
      ·rintro⟨e1,e2⟩
       rw[e1]
       exact⟨rfl,rfl,e2⟩
     rw[e]
     exact hya
    refine A6 hd.ctx ho q1 q2 q3 q4 hs hg (A7 yc hst1) ?_
    intro env' aa ρ' T' a' w' h' gh cQ
    rw[GP]at h'
    obtain⟨d,rfl,h3,h4,rfl⟩:=h'
    have JU:look env t=some d:=by
     simp only[put,GP]at h3
     cases h3
     exact h4
    have hti:bz al i=some t:=by simp[bz,hx,GP]
    refine ih _ k env aa ρ' T' a' w' hmk hk Ve (by simpa using hsz) (λj hj qY=>?_) (λj hj hj2=>(bJ pz).2 (.inl (hlo j hj hj2))) Vf (λj hj hn=>hob j hj (λqY=>hn ((bJ pz).2 (.inl qY)))) h
     (gh.ext λt' d' hl=>?_) (hg.step hs cQ) (hst.trans cQ)
    ·rcases(bJ pz).1 qY with h5|h5
     ·exact Xi j hj h5
     ·omega
    ·obtain⟨h5,h6⟩:=og hl
     simp only[look]
     cases To:(t==t')with
     |true=>
      have:t=t':=by simpa using To
      subst this
      rw[JU]at h5
      simpa using h5
     | false =>
      have hne:t≠t':=by simpa using To
      simp only[aaR]
      rw[sX λj hj hn he=>?_]
      ·exact h5
      ·by_cases Tm:j=i
       ·subst Tm
        rw[hti]at he
        exact hne (abe he)
       ·exact h6 j hj (λqY=>(bJ pz).1 qY|>.elim (λh7=>hn h7) (λh7=>Tm h7)) he
   · -- the next one of the tail
    have hik:k<=i:=by
     rcases aa1 i k with h3|h3
     ·exact absurd (hlo i MZ h3) CN
     ·exact h3
    obtain⟨x',hx',Vg⟩:=hD.tail i (by simpa using vN) MZ
    rw[hx]at hx'
    cases hx'
    have hie:i=k:=by
     rcases aa1 k i with h3|h3
     ·exfalso
      rcases Vg k h3 with h4|⟨h4,_⟩
      ·exact Xi k (aaL _) (lC jF 2 i k h2 h4)
      ·omega
     ·omega
    subst hie
    have fG:ops.size-i=(ops.size-(i+1))+1:=by omega
    rw[fG]at h
    simp only[Eg,hx]at h
    have GQ:∀j,j<m->¬done L j->j∈dly ops.toList m i/\∃y t,al[j]?=some y/\y.guard=none/\y.dst=some t/\x.dst≠some t/\t∉ov x:=by
     intro j hj hn
     have hna:I3 ops.toList 2 i j=false:=by
      cases hb:I3 ops.toList 2 i j with
      |false=>rfl
      |true=>exact absurd (lC jF 2 i j h2 hb) hn
     refine⟨by simp[dly,hj,hna],?_⟩
     rcases Vg j (by omega)with h4|⟨_,h4⟩
     ·rw[hna]at h4;cases h4
     ·exact h4
    have yc:∀t',t'∈ov x->look (iD al m L env) t'=look env t':=λt' yB=>sX λj hj hn he=>by
     obtain⟨_,y,t,hy,_,GP,_,hyu⟩:=GQ j hj hn
     have:bz al j=some t:=by simp[bz,hy,GP]
     rw[this]at he
     cases he
     exact hyu yB
    refine A6 hd.ctx ho q1 q2 q3 q4 hs hg (A7 yc h) ?_
    intro env' aa ρ' T' a' w' h' gh cQ
    obtain⟨mL,uZ,Qk,NL⟩:∃mL,eA n ρ' T' (iD al m (L.setIfInBounds i true) mL) aa a' w'/\sL C mL aa ((dly ops.toList m i).filterMap λj=>al[j]?)/\wk C (Eg ops.toList al m (i+1) (ops.size-(i+1))) mL aa K:=by
     have uv:∀j,j<m->¬done (L.setIfInBounds i true) j->¬done L j:=λj hj hn qY=>hn ((bJ pz).2 (.inl qY))
     have NM:∀j,j<m->¬done L j->¬done (L.setIfInBounds i true) j:=λj hj hn qY=>(bJ pz).1 qY|>.elim (λh7=>hn h7) (λh7=>by omega)
     simp only[dD,KH]at h'
     cases hxd:x.dst with
     |none=>
      rw[hxd]at h'
      obtain⟨rfl,h3,h4⟩:=h'
      refine⟨env,gh.ext λt' d' hl=>?_,h3,h4⟩
      obtain⟨h5,h6⟩:=og hl
      rw[sX λj hj hn=>h6 j hj (NM j hj hn)]
      exact h5
     | some t =>
      rw[hxd]at h'
      obtain⟨d,rfl,h3,h4⟩:=h'
      refine⟨(t,d)::env,gh.ext λt' d' hl=>?_,h3,h4⟩
      obtain⟨h5,h6⟩:=og hl
      simp only[look]at h5⊢
      cases To:(t==t')with
      |true=>rw[To]at h5;exact h5
      |false=>
       rw[To]at h5
       simp only[aaR]at h5⊢
       rw[sX λj hj hn=>h6 j hj (NM j hj hn)]
       exact h5
    refine ih _ (i+1) mL aa ρ' T' a' w' (by omega) (by omega) Ve (by simpa using hsz) (λj hj qY=>?_) (λj hj hj2=>?_) Vf (λj hj hn=>?_) NL uZ (hg.step hs cQ) (hst.trans cQ)
    ·rcases(bJ pz).1 qY with h5|h5
     ·exact Xi j (by omega) h5
     ·omega
    ·refine(bJ pz).2 ?_
     rcases aa1 j i with h5|h5
     ·exact .inl (hlo j hj h5)
     ·exact .inr (by omega)
    ·have Qj:¬done L j:=λqY=>hn ((bJ pz).2 (.inl qY))
     obtain⟨h5,y,t,hy,hyg,GP,_⟩:=GQ j hj Qj
     exact⟨y,hy,hyg,⟨t,GP⟩,Di Qk (ac2.2 ⟨j,h5,hy⟩)⟩
section
variable {ops:Array Oper} {al:List aS} {m:Nat} {env:Env} {Dd:Nat->D} {R:Nat->Rows}
theorem Fe.come(h:Fe C P n ops al m env Dd R){L:Array Bool}{jS ρ:Pl}{T0 T:Nat->Prop}{a:Act}{w0 w:World}(hI:I4 C n al m env Dd R jS T0 w0 L ρ T a w):
  eA n ρ T (iD al m L (mz al Dd env m)) (R m) a w:=by
 refine⟨⟨λr row Lc h1 h2=>?_,λr r' row row' Lc GN h1 h2 h3 h4=>?_⟩,λt d hl=>?_,hI.size,hI.vL,hI.vM,hI.defers⟩
 ·have hr:=a9 h1
  have:=(hI.rows m (aaL _)).row r row Lc h1 (by unfold jU;rw[aaM hr];exact h2)
  exact this.mono kj (λ_ _=>rfl) (λ_ h=>h) rfl this.nu
 ·have hr:=a9 h1
  have tY:=a9 h2
  exact(hI.rows m (aaL _)).jQ r r' row row' Lc GN h1 h2 (by unfold jU;rw[aaM hr];exact h3) (by unfold jU;rw[aaM tY];exact h4)
 ·obtain⟨h5,h6⟩:=og hl
  exact(h.sees hI (aaL _) (λj hj he=>⟨abo λhn=>h6 j hj hn he,hj⟩) h5).mono kj (λ_ _=>rfl) (λ_ h=>h)
theorem Fe.any2 (hD : DOK2 ops.toList al m) (h : Fe C P n ops al m env Dd R) {K : Env -> Rows -> Prop} {Q' : Exit -> Act -> World -> Prop} {jS : Pl} {T0 : Nat -> Prop} {w0 : World}
  (hst:sL C (mz al Dd env m) (R m) ((dly ops.toList m m).filterMap λj=>al[j]?))(Tn:wk C (Eg ops.toList al m m (ops.size-m)) (mz al Dd env m) (R m) K)
  (hK:∀env' aa ρ' T' a' w',K env' aa->eA n ρ' T' env' aa a' w'->Step jS T0 (R 0) w0 ρ' T' aa w'->Q' .normal a' w'):
  ∀(fuel:Nat) (L:Array Bool) (ρ:Pl) (T:Nat->Prop) (a:Act) (w:World),jC L ops.size<=fuel->L.size=ops.size->(∀j,done L j->j<m)->(∀i,done L i->∀j,v7 ops.toList i j=true->done L j)->I4 C n al m env Dd R jS T0 w0 L ρ T a w->wpAny P .any ops Q' fuel L a w:=by
 obtain⟨hlen,kg⟩:=h.toQp.get
 have hm:m<=ops.size:=by have:=h.ok.le;simpa using this
 intro fuel
 have go:∀(fuel:Nat) (L:Array Bool) (ρ:Pl) (T:Nat->Prop) (a:Act) (w:World),jC L ops.size<=fuel->L.size=ops.size->(∀j,done L j->j<m)->(∀i,done L i->∀j,v7 ops.toList i j=true->done L j)->I4 C n al m env Dd R jS T0 w0 L ρ T a w->
   ((∀j,j<m->done L j)\/∃i,i∈Region.ready .any ops L/\m<=i)->wpAny P .any ops Q' fuel L a w:=by
  intro fuel L ρ T a w hf hsz PL jF hI hq
  refine Vd hD h.toQp hK fuel L m _ _ ρ T a w (aaL _) hm hf hsz (λj hj qY=>by have:=PL j qY;omega) (λj h1 h2=>by omega) jF (λj hj hn=>?_) Tn (h.come hI) hI.aY hI.step
  rcases hq with hq|⟨i,hi,hmi⟩
  ·exact absurd (hq j hj) hn
  ·obtain⟨⟨o',Qq⟩,h1,h2⟩:=jf hi
   have vN:i<ops.size:=(aaZ.1 Qq).1
   obtain⟨x,hx,Vg⟩:=hD.tail i (by simpa using vN) hmi
   have MZ:i=m:=by
    rcases aa1 m i with h3|h3
    ·exfalso
     rcases Vg m h3 with h4|⟨h4,_⟩
     ·have:=PL m (lC jF 2 i m h2 h4);omega
     ·omega
    ·omega
   subst MZ
   have hna:I3 ops.toList 2 i j=false:=by
    cases hb:I3 ops.toList 2 i j with
    |false=>rfl
    |true=>exact absurd (lC jF 2 i j h2 hb) hn
   rcases Vg j hj with h4|⟨_,y,t,hy,hyg,GP,_⟩
   ·rw[hna]at h4;cases h4
   ·exact⟨y,hy,hyg,⟨t,GP⟩,Di hst (ac2.2 ⟨j,by simp[dly,hj,hna],hy⟩)⟩
 induction fuel with
 |zero=>
  intro L ρ T a w hf hsz PL jF hI
  refine go 0 L ρ T a w hf hsz PL jF hI (.inl λj hj=>?_)
  refine abo λhn=>?_
  have:=jV (k:=ops.size) (i:=j) (by omega) (by omega) (mO hn (by omega))
  omega
 | succ fuel ih =>
  intro L ρ T a w hf hsz PL jF hI
  by_cases hq:(∀j,j<m->done L j)\/∃i,i∈Region.ready .any ops L/\m<=i
  ·exact go (fuel+1) L ρ T a w hf hsz PL jF hI hq
  ·have bN : ¬ ∀ j, j < m -> done L j := λh => hq (.inl h)
   refine⟨λhr=>?_,λi hi=>?_⟩
   ·exfalso
    --the least one not done is ready
    have key : ∀ k, (∀ j, j < k -> j < m -> done L j) \/ ∃ j, j < k /\ j < m /\ ¬ done L j /\ ∀ j', j' < j -> done L j' := by
     intro k
     induction k with
     |zero=>left;intro j hj;omega
     | succ k ihk =>
      rcases ihk with h1|⟨j,q1,q2,q3,q4⟩
      ·by_cases hk:k<m/\¬done L k
       ·right
        exact⟨k,by omega,hk.1,hk.2,λj' mJ=>h1 j' mJ (by omega)⟩
       ·left
        intro j hj hjm
        rcases aa1 j k with h3|h3
        ·exact h1 j h3 hjm
        ·have:j=k:=by omega
         subst this
         refine abo λhn=>?_
         exact hk ⟨hjm,hn⟩
      ·right;exact⟨j,by omega,q2,q3,q4⟩
    rcases key m with h1|⟨j,q1,q2,q3,q4⟩
    ·exact bN λj hj=>h1 j hj hj
    ·have:j∈Region.ready .any ops L:=wE (by omega) (mO q3 (by omega)) (λj' mJ=>q4 j' (h.ok.back j j' mJ))
     rw[hr]at this
     cases this
   ·obtain⟨⟨o',Qq⟩,h1,h2⟩:=jf hi
    have vN:i<ops.size:=(aaZ.1 Qq).1
    obtain⟨CN,pz⟩:=rz h1
    have MZ:i<m:=by
     rcases aa1 i m with h3|h3
     ·exact h3
     ·exact absurd (.inr ⟨i,hi,h3⟩) hq
    obtain⟨o,x,ho,hx,q1,q2,q3,q4⟩:=kg i vN
    obtain⟨x',new,hx',hR,hE⟩:=h.tr i MZ
    rw[hx]at hx'
    cases hx'
    obtain⟨x',o',hx',ho'',hqa,hqo,_,hu⟩:=h.ok.quiet i MZ
    rw[hx]at hx'
    cases hx'
    have ho3:ops[i]?=some o':=by simpa using ho''
    rw[ho]at ho3
    cases ho3
    have hs:eA n (jU ρ (R i).length) T (small (mz al Dd env i) (ov x)) (R i) a w:=by
     refine⟨hI.rows i (by omega),λt d hl=>?_,hI.size,hI.vL,λr hr=>?_,hI.defers⟩
     ·obtain⟨ht,hl⟩:=yd hl
      refine h.sees hI (by omega) (λj hj Tl=>?_) hl
      have:=hu t ht j hj Tl
      exact⟨h2 j this,h.ok.back i j this⟩
     ·unfold jU;rw[aaE (by omega)]
    have qZ:bz al i=o.dst:=by simp[bz,hx,q4]
    refine ex_wp h.nor h.ctx ho q2 q3 hs hI.aY hqo hE.congr ?_
    intro ρ' T' v w' gh cQ lZ Ns
    have NI:=h.next hI MZ pz CN (λt ht=>ya q1 t (by rw[<-qZ];exact ht)) gh cQ lZ Ns.1 Ns.2
    rw[qZ]at NI
    refine ih _ _ T' _ w' ?_ (by simpa using hsz) (λj hj=>?_) (λi' hi' j hj=>?_) NI
    ·have:=jV vN pz h1
     omega
    ·rcases(bJ pz).1 hj with h3|h3
     ·exact PL j h3
     ·omega
    ·refine(bJ pz).2 (.inl ?_)
     rcases(bJ pz).1 hi' with h3|h3
     ·exact jF i' h3 j hj
     ·subst h3;exact h2 j hj
end
theorem Qs{al:List aS}{m j:Nat}(hj:j<m):bz (al.take m) j=bz al j:=by
 unfold bz
 rw[abm hj]
theorem sY{al:List aS}{m:Nat}{Dd:Nat->D}{env:Env}:∀(i:Nat),i<=m->mz (al.take m) Dd env i=mz al Dd env i
 |0,_=>rfl
 |i+1,h=>by simp only[mz,sY (m:=m) i (by omega),Qs (j:=i) (show i<m by omega)]
theorem NN(hN:∀f,C.dO f=none)(hC:aJ C P)(hP:P.follows .mixedOrders=true){id:Nat}{ops:Array Oper}{al:List aS}{m:Nat}(hc:wl P n ops.toList ops.toList=some al)(hd:UN ops.toList al m=true)
  {env:Env}{rows:Rows}{ρ:Pl}{T:Nat->Prop}{a:Act}{w:World}{Q:fE->Env->Rows->Prop}{Q':Exit->Act->World->Prop}
  (h:dD C (al.take m) env rows λenv rows=>sL C env rows ((dly ops.toList m m).filterMap λj=>al[j]?)/\wk C (Eg ops.toList al m m (ops.toList.length-m)) env rows (Q .normal))(hs:eA n ρ T env rows a w)(hg:ei C w T)
  (hp:Post n ρ T rows w Q Q'):(Code.region id ops true).wp P Q' a w:=by
 have hok:=U8 hd
 have hlen:=(wD hc).1
 have hml:m<=al.length:=by rw[hlen];exact hok.le
 have hq:∀i,i<m->∃x,(al.take m)[i]?=some x/\lR x.op=true:=by
  intro i hi
  obtain⟨x,o,h1,_,h3,_⟩:=hok.quiet i hi
  exact⟨x,by rw[abm hi];exact h1,h3⟩
 obtain⟨Dd,R,h0,h1,h2⟩:=trace hN m (by simp;omega) hq h
 subst h0
 have Qa:(al.take m).drop m=[]:=acC (by simp;omega)
 rw[Qa,sY m (aaL _)]at h2
 obtain⟨h2a,h2b⟩:=h2
 have h1':∀i,i<m->∃x new,al[i]?=some x/\R (i+1)=R i++new/\Ex C (mz al Dd env i) (R i) x (Dd i) (R (i+1)):=by
  intro i hi
  obtain⟨x,new,q1,q2,q3⟩:=h1 i hi
  rw[abm hi]at q1
  rw[sY i (by omega)]at q3
  exact⟨x,new,q1,q2,q3⟩
 have hrun:Fe C P n ops al m env Dd R:=⟨⟨hok.toYr,hc,hC⟩,hN,h1'⟩
 have hw1:eA n ρ T env (R 0) a {w with drawn:=w.drawn+1}:=hs.heap rfl
 have Vc:ei C {w with drawn:=w.drawn+1} T:=hg.keep (λ_ _=>rfl) (λ_ h=>h)
 have Qr:∀j,¬done (Array.replicate ops.size false) j:=by
  intro j hj
  unfold done at hj
  simp[Array.getD]at hj
 have hsz:ops.toList.length-m=ops.size-m:=by simp
 rw[hsz]at h2b
 refine wp_region_any hP (hrun.any2 hok h2a h2b (w0:={w with drawn:=w.drawn+1}) (jS:=ρ) (T0:=T) ?_ ops.size _ ρ T a _ ?_ (by simp) (λj hj=>absurd hj (Qr j)) (λi hi=>absurd hi (Qr i)) (hrun.start hw1 Vc Qr))
 ·intro env' aa ρ' T' a' w' hk gh cQ
  exact hp .normal env' aa ρ' T' a' w' hk gh ⟨cQ.pl,cQ.tt,cQ.vK,cQ.size,cQ.keep,cQ.fresh,cQ.os,cQ.tape,cQ.output,cQ.len,cQ.same⟩
 ·unfold jC
  exact abg (ac3 _ _) (by simp)
theorem NO(hC:aJ C P)(hP:P.follows .mixedOrders=true){id:Nat}{ops:Array Oper}{al:List aS}{m:Nat}(hc:wl P n ops.toList ops.toList=some al)(hd:dOK ops.toList al m=true)
  {env:Env}{rows:Rows}{ρ:Pl}{T:Nat->Prop}{a:Act}{w:World}{Q:fE->Env->Rows->Prop}{Q':Exit->Act->World->Prop}
  (h:dD C.quiet (al.take m) env rows λenv rows=>dD C (al.drop m) env rows (Q .normal))(hs:eA n ρ T env rows a w)(hg:ei C w T)
  (hp:Post n ρ T rows w Q Q'):(Code.region id ops true).wp P Q' a w:=by
 have hok:=ND hd
 have hlen:=(wD hc).1
 have hml:m<=al.length:=by rw[hlen];exact hok.le
 have hq:∀i,i<m->∃x,(al.take m)[i]?=some x/\lR x.op=true:=by
  intro i hi
  obtain⟨x,o,h1,_,h3,_⟩:=hok.quiet i hi
  exact⟨x,by rw[abm hi];exact h1,h3⟩
 have hN:∀f,C.quiet.dO f=none:=λ_=>rfl
 obtain⟨Dd,R,h0,h1,h2⟩:=trace hN m (by simp;omega) hq h
 subst h0
 have Qa:(al.take m).drop m=[]:=acC (by simp;omega)
 rw[Qa,sY m (aaL _)]at h2
 have Xj:dD C (al.drop m) (mz al Dd env m) (R m) (Q .normal):=h2
 have h1':∀i,i<m->∃x new,al[i]?=some x/\R (i+1)=R i++new/\Ex C.quiet (mz al Dd env i) (R i) x (Dd i) (R (i+1)):=by
  intro i hi
  obtain⟨x,new,q1,q2,q3⟩:=h1 i hi
  rw[abm hi]at q1
  rw[sY i (by omega)]at q3
  exact⟨x,new,q1,q2,q3⟩
 have hrun:Fe C.quiet P n ops al m env Dd R:=⟨⟨hok.toYr,hc,hC.quiet⟩,hN,h1'⟩
 have hw1:eA n ρ T env (R 0) a {w with drawn:=w.drawn+1}:=hs.heap rfl
 have Qb:ei C.quiet w T:=hg
 have Vc:ei C.quiet {w with drawn:=w.drawn+1} T:=Qb.keep (λ_ _=>rfl) (λ_ h=>h)
 have Qr:∀j,¬done (Array.replicate ops.size false) j:=by
  intro j hj
  unfold done at hj
  simp[Array.getD]at hj
 refine wp_region_any hP (hrun.any hok hC (λ_ _ h=>h) Xj (w0:={w with drawn:=w.drawn+1}) (jS:=ρ) (T0:=T) ?_ ops.size _ ρ T a _ ?_ (by simp) (λj hj=>absurd hj (Qr j)) (λi hi=>absurd hi (Qr i)) (hrun.start hw1 Vc Qr))
 ·intro env' aa ρ' T' a' w' hk gh cQ
  exact hp .normal env' aa ρ' T' a' w' hk gh ⟨cQ.pl,cQ.tt,cQ.vK,cQ.size,cQ.keep,cQ.fresh,cQ.os,cQ.tape,cQ.output,cQ.len,cQ.same⟩
 ·unfold jC
  exact abg (ac3 _ _) (by simp)
theorem Vh{ops:List Oper}{al:List aS}{m:Nat}(h:KV ops al=some m):dOK ops al m=true:=by
 unfold KV at h
 have:=List.find?_some h
 simpa using this
end Go.Am
namespace Go.Am
variable {C:aX} {P:Program} {n:Nat}
def undF(al:List aS)(F:List Nat)(L:Array Bool):List Nat:=F.filterMap λj=>bif L.getD j false then none else bz al j
theorem NQ{al:List aS}{F:List Nat}{L:Array Bool}{t:Nat}:t∈undF al F L↔∃j,j∈F/\¬done L j/\bz al j=some t:=by
 unfold undF done
 rw[ac2]
 constructor
 ·rintro⟨j,hj,h⟩
  cases hb:L.getD j false with
  |true=>rw[hb]at h;cases h
  |false=>rw[hb]at h;exact⟨j,hj,by rw[hb];simp,h⟩
 ·rintro⟨j,hj,h1,h2⟩
  refine⟨j,hj,?_⟩
  have:L.getD j false=false:=by simpa using h1
  rw[this];exact h2
def yD(al:List aS)(F:List Nat)(L:Array Bool)(env:Env):Env:=NJ env (undF al F L)
theorem l7{al:List aS}{F:List Nat}{L:Array Bool}{env:Env}{t:Nat}(h:∀j,j∈F->¬done L j->bz al j≠some t):look (yD al F L env) t=look env t:=by
 unfold yD
 rw[sV,aaE]
 rw[NQ]
 rintro⟨j,h1,h2,h3⟩
 exact h j h1 h2 h3
theorem iM{al:List aS}{F:List Nat}{L:Array Bool}{env:Env}{t:Nat}{d:D}(h:look (yD al F L env) t=some d):look env t=some d/\∀j,j∈F->¬done L j->bz al j≠some t:=by
 unfold yD at h
 rw[sV]at h
 split at h
 ·cases h
 ·rename_i hn
  refine⟨h,λj h1 h2 h3=>hn (NQ.2 ⟨j,h1,h2,h3⟩)⟩
def jW(env:Env)(t:Nat):Option Nat:=match look env t with
 |some (.ptr _ r _)=>some r
 |some (.sl _ r _ _ _ _)=>some r
 | _=>none
def qa:nh->Bool
 | .alloc _ _=>true
 | .cP _ _ _ _=>true
 | _=>false
structure Yv (al:List aS) (F:List Nat) (L:Array Bool) (b0:Nat) (env:Env) (rows:Rows) (ρ:Pl):Prop where
 hole:∀j,j∈F->¬done L j->∀x t,al[j]?=some x->x.dst=some t->qa x.op=true->∃r,jW env t=some r/\b0<=r/\r<rows.length/\ρ r=none
 jQ:∀j j',j∈F->j'∈F->¬done L j->¬done L j'->j≠j'->∀x t x' t',al[j]?=some x->x.dst=some t->qa x.op=true->al[j']?=some x'->x'.dst=some t'->qa x'.op=true->jW env t≠jW env t'
mutual
theorem JV:∀(d:D),E6 d=true->∀x∈d.flat,∃v,x= .raw v
 | .raw v,_,x,hx=>by simp[D.flat]at hx;exact⟨v,hx⟩
 | .agg s l,h,x,hx=>by
  simp only[D.flat]at hx
  exact GR l (by simpa[E6]using h) x hx
 | .ptr _ _ _,h,_,_=>by simp[E6]at h
 | .sl _ _ _ _ _ _,h,_,_=>by simp[E6]at h
 | .nk _ _ _ _ _,h,_,_=>by simp[E6]at h
 | .cD _ _ _,h,_,_=>by simp[E6]at h
 | .b5 _,h,_,_=>by simp[E6]at h
 | .cB _,h,_,_=>by simp[E6]at h
 | .mp _,h,_,_=>by simp[E6]at h
 | .om _ _,h,_,_=>by simp[E6]at h
theorem GR:∀(l:List D),SV l=true->∀x∈au l,∃v,x= .raw v
 |[],_,x,hx=>by simp[au]at hx
 |d::l,h,x,hx=>by
  simp only[SV,aav]at h
  simp only[au,aaU]at hx
  rcases hx with hx|hx
  ·exact JV d h.1 x hx
  ·exact GR l h.2 x hx
end
theorem Ld{o:nh}(h:CV o=true):lR o=true:=by cases o<;>first|exact h|rfl|(simp[CV]at h)
theorem Vi(hN:∀f,C.dO f=none){env:Env}{rows:Rows}{o:nh}{k:D->Rows->Prop}(hf:CV o=true)(h:dA C env rows o k):
  ∃d new,k d (rows++new)/\(qa o=true->new.length=1/\∀t env,jW ((t,d)::env) t=some rows.length):=by
 cases hm:qa o with
 |false=>
  obtain⟨d,new,h1,_⟩:=FO hN o (Ld hf) _ h
  exact⟨d,new,h1,λh=>by cases h⟩
 | true =>
  cases o with
  |alloc s z=>exact⟨_,_,h,λ_=>⟨rfl,λt env=>by simp[jW,look]⟩⟩
  |cP s m z ps=>
   obtain⟨l,_,h2⟩:=ak h
   exact⟨_,_,h2,λ_=>⟨rfl,λt env=>by simp[jW,look]⟩⟩
  | _=>cases hm
theorem sZ{ops:List Oper}{al:List aS}{i:Nat}(h:fOK ops al i=true):∃o x t,ops[i]?=some o/\al[i]?=some x/\CV x.op=true/\gz o.op=true/\(x.guard=none\/qa x.op=false)/\x.dst=some t:=by
 unfold fOK at h
 split at h
 ·rename_i o x ho hx
  simp only[aav]at h
  obtain⟨⟨⟨h1,h2⟩,h3⟩,h4⟩:=h
  obtain⟨t,ht⟩:=aeg.1 h4
  refine⟨o,x,t,ho,hx,h1,h2,?_,ht⟩
  rcases adA.1 h3 with h3|h3
  ·exact .inl (by simpa using h3)
  ·refine .inr ?_
   have:=(acS.1 h3).1
   revert this
   generalize x.op=e
   intro he
   cases e<;>first|rfl|cases he
 ·cases h
theorem s3{ops:List Oper}{al:List aS}{prev:Option Nat}{F:List Nat}{i:Nat}(h:okF1 ops al prev F i=true):
  fOK ops al i=true/\i∉F/\(∀j∈F,bz al j≠bz al i)/\(∀c,prev=some c->I3 ops 2 i c=true)/\∀x,al[i]?=some x->∀t∈ov x,∀j,j<ops.length->bz al j=some t->v7 ops i j=true:=by
 simp only[okF1,aav]at h
 obtain⟨⟨⟨⟨h1,h2⟩,h3⟩,h4⟩,h5⟩:=h
 refine⟨h1,by simpa using h2,λj hj=>?_,λc hc=>?_,λx hx t ht j hj hd=>?_⟩
 ·have:=abc.1 h3 j hj
  simpa using this
 ·subst hc;exact h4
 ·rw[hx]at h5
  have:=abc.1 (abc.1 h5 t ht) j (by simpa using hj)
  simpa[hd]using this
theorem oy{ops:List Oper}{al:List aS}{prev:Option Nat}:∀{l F:List Nat},CW ops al prev F l=true->∀i∈l,fOK ops al i=true/\(∀c,prev=some c->I3 ops 2 i c=true)/\∀x,al[i]?=some x->∀t∈ov x,∀j,j<ops.length->bz al j=some t->v7 ops i j=true
 |[],_,_,i,hi=>by simp at hi
 | k :: l, F, h, i, hi => by
  simp only[CW,aav]at h
  rcases aaW.1 hi with rfl|hi
  ·obtain⟨h1,_,_,h4,h5⟩:=s3 h.1
   exact⟨h1,h4,h5⟩
  ·exact oy h.2 i hi
theorem Yw{al:List aS}{i:Nat}{l:List Nat}{x:aS}(h:al[i]?=some x):atU al (i::l)=noG x::atU al l:=by
 simp[atU,atL,h]
theorem GS{ops:List Oper}{al:List aS}{L:Array Bool}{b0:Nat}{ρ:Pl}{T:Nat->Prop}{a:Act}{w:World}{prev:Option Nat}{K:Env->Rows->Prop}(hN:∀f,C.dO f=none):∀(fl F:List Nat) (env:Env) (rows:Rows),CW ops al prev F fl=true->dD C (atU al fl) env rows K->(∀j∈fl,¬done L j)->
  Yv al F L b0 env rows ρ->b0<=rows.length->eA n ρ T (yD al F L env) rows a w->∃env' aa,K env' aa/\Yv al (F++fl) L b0 env' aa ρ/\eA n ρ T (yD al (F++fl) L env') aa a w/\∃new,aa=rows++new
 |[],F,env,rows,_,h,_,hI,_,hs=>⟨env,rows,h,by rw[aa4];exact hI,by rw[aa4];exact hs,[],by simp⟩
 | i :: l, F, env, rows, hok, h, CN, hI, hb, hs => by
  simp only[CW,aav]at hok
  obtain⟨h1,hiF,huq,_,_⟩:=s3 hok.1
  obtain⟨o,x,t,ho,hx,hfa,_,_,ht⟩:=sZ h1
  have hdi:bz al i=some t:=by simp[bz,hx,ht]
  rw[Yw hx]at h
  obtain⟨dst,op,g⟩:=x
  simp only[noG]at hfa ht h
  subst ht
  obtain⟨d,new,h2,hmk⟩:=Vi hN hfa h
  have hni:¬done L i:=CN i (.head _)
  have Gl:∀j∈F,∀t',bz al j=some t'->look ((t,d)::env) t'=look env t':=by
   intro j hj t' mJ
   have hne:t≠t':=λe=>huq j hj (by rw[mJ,hdi,e])
   have:(t==t')=false:=by simpa using hne
   simp[look,this]
  have hho:∀j∈F,∀t',bz al j=some t'->jW ((t,d)::env) t'=jW env t':=by
   intro j hj t' mJ
   unfold jW
   rw[Gl j hj t' mJ]
  have NI:Yv al (F++[i]) L b0 ((t,d)::env) (rows++new) ρ:=by
   refine⟨λj hj Ep x' t' hx' yB hm'=>?_,λj j' hj mJ Ep Le hne x1 t1 x2 t2 qV JW rA zY ht2 M1=>?_⟩
   ·rcases aaU.1 hj with hj|hj
    ·obtain⟨r,q1,q2,q3,q4⟩:=hI.hole j hj Ep x' t' hx' yB hm'
     exact⟨r,by rw[hho j hj t' (by simp[bz,hx',yB])];exact q1,q2,by rw[aax];omega,q4⟩
    ·rw[abd.1 hj]at hx'
     rw[hx]at hx'
     cases hx'
     cases yB
     obtain⟨q1,q2⟩:=hmk hm'
     exact⟨rows.length,q2 _ _,hb,by rw[aax,q1];omega,hs.vM _ (aaL _)⟩
   ·have one:∀(j:Nat),j∈F->¬done L j->∀(x1:aS) (t1:Nat),al[j]?=some x1->x1.dst=some t1->qa x1.op=true->qa op=true->jW ((t,d)::env) t1≠jW ((t,d)::env) t:=by
     intro j hj Ep x1 t1 qV JW rA hmo he
     obtain⟨r,q1,q2,q3,q4⟩:=hI.hole j hj Ep x1 t1 qV JW rA
     rw[hho j hj t1 (by simp[bz,qV,JW]),q1,(hmk hmo).2]at he
     cases he
     omega
    rcases aaU.1 hj with hj|hj
    ·rcases aaU.1 mJ with mJ|mJ
     ·rw[hho j hj t1 (by simp[bz,qV,JW]),hho j' mJ t2 (by simp[bz,zY,ht2])]
      exact hI.jQ j j' hj mJ Ep Le hne x1 t1 x2 t2 qV JW rA zY ht2 M1
     ·rw[abd.1 mJ,hx]at zY
      cases zY
      cases ht2
      exact one j hj Ep x1 t1 qV JW rA M1
    ·rw[abd.1 hj,hx]at qV
     cases qV
     cases JW
     rcases aaU.1 mJ with mJ|mJ
     ·exact(one j' mJ Le x2 t2 zY ht2 M1 rA).symm
     ·exact absurd ((abd.1 hj).trans (abd.1 mJ).symm) hne
  have gh:eA n ρ T (yD al (F++[i]) L ((t,d)::env)) (rows++new) a w:=by
   have yC:∀r Lc,ρ r=some Lc->r<rows.length:=by
    intro r Lc hr
    rcases aa1 r rows.length with h1|h1
    ·exact h1
    ·rw[hs.vM r h1]at hr;cases hr
   refine⟨⟨λr row Lc q1 q2=>?_,λr r' row row' Lc GN q1 q2 q3 q4=>?_⟩,λt' d' hl=>?_,hs.size,hs.vL,λr hr=>hs.vM r (by rw[aax]at hr;omega),hs.defers⟩
   ·rw[fL rfl (yC r Lc q2)]at q1
    exact hs.bw.row r row Lc q1 q2
   ·rw[fL rfl (yC r Lc q3)]at q1
    rw[fL rfl (yC r' GN q4)]at q2
    exact hs.bw.jQ r r' row row' Lc GN q1 q2 q3 q4
   ·obtain⟨q1,q2⟩:=iM hl
    have hne:t≠t':=λe=>q2 i (by simp) hni (by rw[hdi,e])
    have Gr:(t==t')=false:=by simpa using hne
    simp only[look,Gr,aaR]at q1
    refine hs.env t' d' ?_
    rw[l7 λj hj hn=>q2 j (by simp[hj]) hn]
    exact q1
  obtain⟨env',aa,k1,k2,k3,new',k4⟩:=GS hN l (F++[i]) ((t,d)::env) (rows++new) hok.2 h2 (λj hj=>CN j (.tail _ hj)) NI (by rw[aax];omega) gh
  exact⟨env',aa,k1,by rw[aaP]at k2;exact k2,by rw[aaP]at k3;exact k3,new++new',by rw[k4,aaP]⟩
structure Mk (C:aX) (env:Env) (rows:Rows) (op:nh) (d:D) (r0:Nat) (d0:D) (row:Row):Prop where
 run:∀k:D->Rows->Prop,k d0 (rows++[some row])->dA C env rows op k
 lv:live rows r0=some row
 raw:(∀e∈row.els,aL row.sh e)->∀y∈au row.els,∃v,y= .raw v
 vr:∀(ρ1 PM:Pl) (w:World) (T:Nat->Prop) (v:Value),ρ1 rows.length=PM r0->VR ρ1 w T d0 v->VR PM w T d v
theorem mk_of{env henv:Env}{rows:Rows}{op:nh}{t:Nat}(hm:qa op=true)(hf:CV op=true)(yc:∀y∈op.xs,ev C henv y=ev C env y)(h:fX C env rows op t):
  ∃d r0 d0 row,look env t=some d/\jW env t=some r0/\Mk C henv rows op d r0 d0 row:=by
 cases op with
 | alloc s z =>
  obtain⟨d,hd,h⟩:=ak h
  cases d with
  | ptr s' r p =>
   obtain⟨rfl,rfl,hl⟩:=h
   refine⟨_,r,.ptr s' rows.length [0],⟨s',[z]⟩,hd,by simp[jW,hd],λk hk=>hk,hl,λ_ y hy=>?_,λρ1 PM w T v he hv=>?_⟩
   ·simp only[au,aa4]at hy
    exact JV z hf y hy
   ·have:=hv.AS rfl
    cases this with
    |ptr _ _ _ L h1 h2=>exact VR.bB (.ptr _ _ _ L (by rw[<-he];exact h1) h2)
  | _=>exact h.elim
 | cP s m z ps =>
  obtain⟨l,Er,h⟩:=ak h
  obtain⟨d,hd,h⟩:=ak h
  cases d with
  | sl s' r p off len ex =>
   obtain⟨rfl,rfl,rfl,rfl,rfl,hl⟩:=h
   refine⟨_,r,.sl s' rows.length [] 0 len true,⟨s',l⟩,hd,by simp[jW,hd],λk hk=>?_,hl,λhe y hy=>jR he hf y hy,λρ1 PM w T v he hv=>?_⟩
   ·show bf (o6 C henv (Sh.ar len s').sub ps (List.replicate len z)) _
    rw[ry (env':=env) yc,Er]
    exact hk
   ·have:=hv.AS rfl
    cases this with
    |sl _ _ _ _ _ _ L cap h1 h2 h3 h4=>exact VR.bB (.sl _ _ _ _ _ _ L cap (by rw[<-he];exact h1) h2 h3 h4)
    |AE _ _ _ _ _ a=>exact VR.bB (.AE _ _ _ _ _ a)
  | _=>exact h.elim
 | _=>cases hm
theorem Vj{o:Oper}{op:nh}{env:Env}{rows dZ:Rows}{ρ jS:Pl}{T T0:Nat->Prop}{a:Act}{w w0:World}{d d0:D}{r0:Nat}{row:Row}{next:Act->World->Prop}{Q':Exit->Act->World->Prop}
  (hN:∀f,C.dO f=none)(hC:aJ C P)(hop:cOp P o.op=some op)(hq:gz o.op=true)(hs:eA n ρ T env rows a w)(hg:ei C w T)(M:Mk C env rows op d r0 d0 row)(hr0:ρ r0=none)(hb:dZ.length<=r0)(hst:Step jS T0 dZ w0 ρ T rows w)
  (hn:∀ρ' T' v w',eA n ρ' T' env rows a w'->VR ρ' w' T' d v->Step jS T0 dZ w0 ρ' T' rows w'->ei C w' T'->(∀r,r≠r0->ρ' r=ρ r)->next (a.put o.dst v) w'):o.wp P a w next Q':=by
 refine wA hs hg hC hop (M.run (λd2 r2=>d2=d0/\r2=rows++[some row]) ⟨rfl,rfl⟩) ?_
 rintro d2 r2 ρ' T' v w' ⟨rfl,rfl⟩ gh cQ hv hk
 obtain⟨hqh,pI⟩:=hk hN hq
 have hr0l:=a9 M.lv
 let I5:Pl:=λr=>if r=r0 then ρ' rows.length else ρ r
 have e0:I5 r0=ρ' rows.length:=aaM rfl
 have e1:∀r,r≠r0->I5 r=ρ r:=λr hr=>aaE hr
 have hA:∀r Lc,ρ r=some Lc->I5 r=some Lc:=by
  intro r Lc hr
  rw[e1 r (λe=>by rw[e,hr0]at hr;cases hr)]
  exact hr
 have yC:∀r Lc,ρ r=some Lc->r<rows.length:=by
  intro r Lc hr
  rcases aa1 r rows.length with h1|h1
  ·exact h1
  ·rw[hs.vM r h1]at hr;cases hr
 have hw:∀b,T b->w'.heap[b]?=w.heap[b]?:=λb hb=>by
  rcases hqh b (hs.vL b hb)with h1|⟨_,r,row',Lc,h2,h3,rfl⟩
  ·exact h1
  ·exact absurd hb (hs.bw.row r row' Lc h2 h3).nu
 have hlN:live (rows++[some row]) rows.length=some row:=uV rows row
 have hold:∀r row' Lc,live rows r=some row'->ρ r=some Lc->mF I5 row' Lc w' T':=by
  intro r row' Lc h1 h2
  have hro:=hs.bw.row r row' Lc h1 h2
  refine hro.XN hA hw cQ.tt ((hqh _ hro.lt).imp_right (·.1)) (λhT=>?_)
  rcases pI _ hT with h4|h4
  ·exact hro.nu h4
  ·have:=hro.lt;omega
 have iE:∀Lc,ρ' rows.length=some Lc->mF I5 row Lc w' T':=by
  intro Lc h
  have hro:=gh.bw.row rows.length row Lc hlN h
  refine⟨hro.sh,hro.nu,hro.els,λhm=>?_,hro.pY⟩
  obtain⟨cur,t,q1,q2,q3,q4⟩:=hro.cells hm
  exact⟨cur,t,q1,q2,q3,q4.ofRaw (M.raw hro.els)⟩
 have pJ:∀r Lc,ρ r=some Lc->ρ' r=some Lc:=cQ.pl
 have uZ:eA n I5 T' env rows a w':=by
  refine⟨⟨λr row' Lc h1 h2=>?_,λr r' E8 oP Lc GN h1 h2 h3 h4 hne=>?_⟩,λt' d' hl=>(hs.env t' d' hl).mono hA hw cQ.tt,gh.size,gh.vL,λr hr=>?_,gh.defers⟩
  ·by_cases hr:r=r0
   ·subst hr
    rw[M.lv]at h1
    cases h1
    rw[e0]at h2
    exact iE Lc h2
   ·rw[e1 r hr]at h2
    exact hold r row' Lc h1 h2
  ·by_cases hr:r=r0
   ·have tY:r'≠r0:=λe=>hne (hr.trans e.symm)
    subst hr
    rw[e0]at h3
    rw[e1 r' tY]at h4
    have mC:=yC r' GN h4
    exact gh.bw.jQ rows.length r' row oP Lc GN hlN (by rw[fL rfl mC];exact h2) h3 (pJ _ _ h4) (by omega)
   ·rw[e1 r hr]at h3
    have hl:=yC r Lc h3
    by_cases tY:r'=r0
    ·subst tY
     rw[e0]at h4
     exact gh.bw.jQ r rows.length E8 row Lc GN (by rw[fL rfl hl];exact h1) hlN (pJ _ _ h3) h4 (by omega)
    ·rw[e1 r' tY]at h4
     exact hs.bw.jQ r r' E8 oP Lc GN h1 h2 h3 h4 hne
  ·rw[e1 r (by omega)]
   exact hs.vM r hr
 have htr:=hst.trans cQ
 refine hn I5 T' v w' uZ (M.vr ρ' I5 w' T' v e0.symm hv) ⟨λr Lc hr=>hA r Lc (hst.pl r Lc hr),htr.tt,htr.vK,htr.size,htr.keep,λr row' Lc h1 h2=>?_,htr.os,htr.tape,htr.output,hst.len,λr hr=>?_⟩ (hg.step hs cQ) e1
 ·by_cases hr:r=r0
  ·subst hr
   rw[e0]at h2
   exact htr.fresh rows.length row Lc hlN h2
  ·rw[e1 r hr]at h2
   have hl:=yC r Lc h2
   exact htr.fresh r row' Lc (by rw[fL rfl hl];exact h1) (pJ _ _ h2)
 ·rw[e1 r (by omega)]
  exact hst.same r hr
def gOK(env:Env)(y:aS):Prop:=∀g w,y.guard=some (g,w)->look env g=some (.raw (.bool w))
theorem uw{env:Env}{rows:Rows}:∀{l:List aS} {y:aS},mE C env rows l->y∈l->∃t,y.dst=some t/\fX C env rows y.op t/\gOK env y
 |[],y,h,hy=>by simp at hy
 |⟨none,o,none⟩::l,y,h,hy=>h.1.elim
 |⟨none,o,some (g,w)⟩::l,y,h,hy=>h.2.1.elim
 |⟨some t,o,none⟩::l,y,h,hy=>by
  rcases aaW.1 hy with rfl|hy
  ·exact⟨t,rfl,h.1,λ_ _ e=>by cases e⟩
  ·exact uw h.2 hy
 |⟨some t,o,some (g,w)⟩::l,y,h,hy=>by
  rcases aaW.1 hy with rfl|hy
  ·exact⟨t,rfl,h.2.1,λ_ _ e=>by cases e;exact h.1⟩
  ·exact uw h.2.2 hy
theorem Lf{env:Env}{rows:Rows}{o:nh}{t:Nat}(hm:qa o=false)(h:fX C env rows o t):dA C env rows o (AP env rows (some t)):=by
 cases o with
 |alloc s z=>cases hm
 |cP s m z ps=>cases hm
 | _=>exact h
theorem NR{ops:Array Oper}{al:List aS}{L:Array Bool}(jF:∀i,done L i->∀j,v7 ops.toList i j=true->done L j){i:Nat}(hr:∀j,v7 ops.toList i j=true->done L j):∀(gs:List (Nat×List Nat)) (F:List Nat) (p:Nat),Xf ops.toList al (some p) F gs=true->¬done L p->(∀g∈gs,¬done L g.1)->IW gs i=true->False
 |[],_,_,_,_,_,h=>by simp[IW]at h
 | (c, fl) :: gs, F, p, hok, hp, hg, h => by
  simp only[Xf,aav]at hok
  obtain⟨⟨⟨⟨h1,h2⟩,h3⟩,h4⟩,h5⟩:=hok
  have hc:¬done L c:=hg _ (.head _)
  simp only[IW,adf,abN]at h
  rcases h with(h|h)|h
  ·have:c=i:=by simpa using h
   subst this
   simp only[okC,aav]at h1
   exact hp (lC jF 2 c p hr h1.1.2)
  ·have hm:i∈fl:=by simpa using h
   exact hc (lC jF 2 i c hr ((oy h4 i hm).2.1 c rfl))
  ·exact NR jF hr gs (F++fl) c h5 hc (λg PN=>hg g (.tail _ PN)) h
def Yx(L:Array Bool)(gs:List (Nat×List Nat)):Prop:=∀i,IW gs i=true->¬done L i
theorem Vk {ops : Array Oper} {al : List aS} (hd : Qp C P n ops al 0) {K : Env -> Rows -> Prop} {Q' : Exit -> Act -> World -> Prop} {jS : Pl} {T0 : Nat -> Prop} {dZ : Rows} {w0 : World}
  (hK:∀env' aa ρ' T' a' w',K env' aa->eA n ρ' T' env' aa a' w'->Step jS T0 dZ w0 ρ' T' aa w'->Q' .normal a' w'):
  ∀(fuel:Nat) (gs:List (Nat×List Nat)) (F Pd:List Nat) (prev:Option Nat) (L:Array Bool) (env:Env) (rows:Rows) (ρ:Pl) (T:Nat->Prop) (a:Act) (w:World),(∀j∈F,¬done L j->j∈Pd)->jC L ops.size<=fuel->L.size=ops.size->
   Xf ops.toList al prev F gs=true->(∀i,i<ops.size->i∈F\/done L i\/IW gs i=true)->(∀c,prev=some c->done L c)->Yx L gs->
   (∀i∈F,fOK ops.toList al i=true/\∀x,al[i]?=some x->∀t∈ov x,∀j,j<ops.size->bz al j=some t->v7 ops.toList i j=true)->(∀i∈F,∀j∈F,i≠j->bz al i≠bz al j)->
   (∀i,done L i->∀j,v7 ops.toList i j=true->done L j)->(∀j,j∈F->¬done L j->∃y t,al[j]?=some y/\y.dst=some t/\fX C.quiet env rows y.op t/\gOK env y)->Yv al F L dZ.length env rows ρ->
   yW C (Gd ops.toList al Pd gs) env rows K->eA n ρ T (yD al F L env) rows a w->ei C w T->Step jS T0 dZ w0 ρ T rows w->wpAny P .any ops Q' fuel L a w:=by
 obtain⟨hlen,kg⟩:=hd.get
 intro fuel
 have fin:∀(gs:List (Nat×List Nat)) (F Pd:List Nat) (L:Array Bool) (env:Env) (rows:Rows) (ρ:Pl) (T:Nat->Prop) (a:Act) (w:World),Yx L gs->(∀j∈F,j<ops.size)->(∀g∈gs,g.1<ops.size)->(∀j,j<ops.size->done L j)->yW C (Gd ops.toList al Pd gs) env rows K->eA n ρ T (yD al F L env) rows a w->Step jS T0 dZ w0 ρ T rows w->Q' .normal a w:=by
  intro gs F Pd L env rows ρ T a w Xn hF hG bN h hs hst
  cases gs with
  |cons g gs=>
   exfalso
   exact Xn g.1 (by simp[IW]) (bN g.1 (hG g (.head _)))
  |nil=>exact hK env rows ρ T a w h (hs.ext λt d hl=>by rw[l7 (λj hj hn=>absurd (bN j (hF j hj)) hn)];exact hl) hst
 have Ye : ∀ (L : Array Bool), L.size = ops.size -> (∃ j, j < ops.size /\ ¬ done L j) -> ∃ j, j ∈ Region.ready .any ops L := by
  intro L hsz ⟨j,hj,hn⟩
  have key : ∀ q, (∀ j, j < q -> done L j) \/ ∃ j, j < q /\ ¬ done L j /\ ∀ j', j' < j -> done L j' := by
   intro q
   induction q with
   |zero=>left;intro j hj;omega
   | succ q ih =>
    rcases ih with h1|⟨j,q1,q2,q3⟩
    ·by_cases hq:done L q
     ·left;intro j hj
      rcases aa1 j q with h2|h2
      ·exact h1 j h2
      ·have:j=q:=by omega
       subst this;exact hq
     ·exact .inr ⟨q,by omega,hq,h1⟩
    ·exact .inr ⟨j,by omega,q2,q3⟩
  rcases key ops.size with h1|⟨j',q1,q2,q3⟩
  ·exact absurd (h1 j hj) hn
  ·exact⟨j',wE q1 (mO q2 (by omega)) (λj'' hj''=>q3 j'' (hd.ok.back j' j'' hj''))⟩
 have Lb:∀(L:Array Bool),L.size=ops.size->Region.ready .any ops L=[]->∀j,j<ops.size->done L j:=by
  intro L hsz hr j hj
  refine abo λhn=>?_
  obtain⟨i,hi⟩:=Ye L hsz ⟨j,hj,hn⟩
  rw[hr]at hi
  cases hi
 have ltF:∀(F:List Nat),(∀i∈F,fOK ops.toList al i=true/\∀x,al[i]?=some x->∀t∈ov x,∀j,j<ops.size->bz al j=some t->v7 ops.toList i j=true)->∀j∈F,j<ops.size:=by
  intro F h j hj
  obtain⟨o,_,_,ho,_⟩:=sZ (h j hj).1
  have:=cU ho
  simpa using this
 have ltG:∀(gs:List (Nat×List Nat)) (F:List Nat) (prev:Option Nat),Xf ops.toList al prev F gs=true->∀g∈gs,g.1<ops.size:=by
  intro gs
  induction gs with
  |nil=>intro F prev _ g hg;simp at hg
  | cons g gs ih =>
   obtain⟨c,fl⟩:=g
   intro F prev hok g hg
   simp only[Xf,aav]at hok
   obtain⟨⟨⟨⟨h1,h2⟩,h3⟩,h4⟩,h5⟩:=hok
   rcases aaW.1 hg with rfl|hg
   ·simp only[okC,aav]at h1
    have h6:=h1.2
    split at h6
    ·rename_i x hx
     have:=cU hx
     show c<ops.size
     omega
    ·cases h6
   ·exact ih (F++fl) (some c) h5 g hg
 induction fuel with
 | zero =>
  intro gs F Pd prev L env rows ρ T a w hPd hf hsz hok hcov hprev Xn JX hFd jF hob hI h hs hg hst
  have bN:∀j,j<ops.size->done L j:=by
   intro j hj
   refine abo λhn=>?_
   have:=jV hj (by omega) (mO hn (by omega))
   omega
  refine⟨?_,fin gs F Pd L env rows ρ T a w Xn (ltF F JX) (ltG gs F prev hok) bN h hs hst⟩
  cases hr:Region.ready .any ops L with
  |nil=>rfl
  |cons i l=>
   exfalso
   obtain⟨⟨o,ho⟩,h1,_⟩:=jf (L:=L) (ops:=ops) (i:=i) (by rw[hr];simp)
   exact(rz h1).1 (bN i (aaZ.1 ho).1)
 | succ fuel ih =>
  intro gs F Pd prev L env rows ρ T a w hPd hf hsz hok hcov hprev Xn JX hFd jF hob hI h hs hg hst
  refine⟨λhr=>?_,λi hi=>?_⟩
  ·exact fin gs F Pd L env rows ρ T a w Xn (ltF F JX) (ltG gs F prev hok) (Lb L hsz hr) h hs hst
  ·obtain ⟨⟨o', Qq⟩, h1, h2⟩ := jf hi
   have vN:i<ops.size:=(aaZ.1 Qq).1
   obtain⟨CN,pz⟩:=rz h1
   obtain⟨o,x,ho,hx,q1,q2,q3,q4⟩:=kg i vN
   have Ve:jC (L.setIfInBounds i true) ops.size<=fuel:=by have:=jV vN pz h1;omega
   have Vf:∀i',done (L.setIfInBounds i true) i'->∀j,v7 ops.toList i' j=true->done (L.setIfInBounds i true) j:=by
    intro i' hi' j hj
    refine(bJ pz).2 (.inl ?_)
    rcases(bJ pz).1 hi' with h3|h3
    ·exact jF i' h3 j hj
    ·subst h3;exact h2 j hj
   have uv:∀j,¬done (L.setIfInBounds i true) j->¬done L j:=λj hn qY=>hn ((bJ pz).2 (.inl qY))
   by_cases hiF:i∈F
   · -- it comes when it will
    obtain⟨y,t,hy,GP,hya,hyg⟩:=hob i hiF CN
    rw[hx]at hy
    cases hy
    obtain⟨o2,x2,t2,ho2,zY,hfa,hqo,hgn,_⟩:=sZ (JX i hiF).1
    have ho2':ops[i]?=some o2:=by simpa using ho2
    rw[ho]at ho2'
    cases ho2'
    rw[hx]at zY
    cases zY
    have hti:bz al i=some t:=by simp[bz,hx,GP]
    have yc:∀t',t'∈ov x->look (yD al F L env) t'=look env t':=λt' yB=>l7 λj hj hn he=>hn (h2 j ((JX i hiF).2 x hx t' yB j (ltF F JX j hj) he))
    have hru' : Yx (L.setIfInBounds i true) gs := by
     intro j hj qY
     rcases(bJ pz).1 qY with h5|h5
     ·exact Xn j hj h5
     ·subst h5
      exact absurd CN (by
       intro _
       exact Xn j hj |> λhh => by
        --i lies in F and among the rest
        have:IW gs j=true:=hj
        exact absurd hiF (by
         have key : ∀ (gs : List (Nat × List Nat)) (F : List Nat) (prev : Option Nat), Xf ops.toList al prev F gs = true -> IW gs j = true -> j ∉ F := by
          intro gs
          induction gs with
          |nil=>intro F prev _ hh;simp[IW]at hh
          | cons g gs ihg =>
           obtain⟨c,fl⟩:=g
           intro F prev hok hh
           simp only[Xf,aav]at hok
           obtain⟨⟨⟨⟨k1,k2⟩,k3⟩,k4⟩,k5⟩:=hok
           simp only[IW,adf,abN]at hh
           rcases hh with(hh|hh)|hh
           ·have:c=j:=by simpa using hh
            subst this
            simp only[okC,aav]at k1
            simpa using k1.1.1
           ·have hm:j∈fl:=by simpa using hh
            have fresh:∀(fl F:List Nat),CW ops.toList al (some c) F fl=true->j∈fl->j∉F:=by
             intro fl
             induction fl with
             |nil=>intro F _ hm;simp at hm
             |cons q fl ihf=>
              intro F hk hm
              simp only[CW,aav]at hk
              rcases aaW.1 hm with rfl|hm
              ·exact(s3 hk.1).2.1
              ·exact λhF=>ihf (F++[q]) hk.2 hm (acb _ hF)
            exact fresh fl F k4 hm
           ·exact λhF=>ihg (F++fl) (some c) k5 hh (acb _ hF)
         exact key gs F prev hok this))
    have hcov':∀j,j<ops.size->j∈F\/done (L.setIfInBounds i true) j\/IW gs j=true:=λj hj=>(hcov j hj).imp_right (λh5=>h5.imp_left (λh6=>(bJ pz).2 (.inl h6)))
    have Yy:∀c,prev=some c->done (L.setIfInBounds i true) c:=λc hc=>(bJ pz).2 (.inl (hprev c hc))
    have hob':∀j,j∈F->¬done (L.setIfInBounds i true) j->∃y t,al[j]?=some y/\y.dst=some t/\fX C.quiet env rows y.op t/\gOK env y:=λj hj hn=>hob j hj (uv j hn)
    have hsim:∀(ρ':Pl) (T':Nat->Prop) (v:Value) (w':World) (d:D),look env t=some d->eA n ρ' T' (yD al F L env) rows a w'->VR ρ' w' T' d v->eA n ρ' T' (yD al F (L.setIfInBounds i true) env) rows (a.put o.dst v) w':=by
     intro ρ' T' v w' d JU gh hv
     have uZ:=gh.put hv (dst:=o.dst) (ya q1)
     rw[<-q4,GP]at uZ⊢
     refine uZ.ext λt' d' hl=>?_
     obtain⟨h5,h6⟩:=iM hl
     simp only[put,look]
     cases To:(t==t')with
     |true=>
      have:t=t':=by simpa using To
      subst this
      rw[JU]at h5
      simpa using h5
     | false =>
      have hne:t≠t':=by simpa using To
      simp only[aaR]
      rw[l7 λj hj hn he=>?_]
      ·exact h5
      ·by_cases Tm:j=i
       ·subst Tm
        rw[hti]at he
        exact hne (abe he)
       ·exact h6 j hj (λqY=>(bJ pz).1 qY|>.elim (λh7=>hn h7) (λh7=>Tm h7)) he
    have P6:∀y∈x.op.xs,ev C.quiet (yD al F L env) y=ev C.quiet env y:=by
     intro y hy
     cases y with
     |tmp t'=>exact yc t' (acb _ (uu hy))
     |const _=>rfl
     |aY _=>rfl
    cases hm:qa x.op with
    | true =>
     obtain⟨d,r0,d0,row,JU,hhole,M⟩:=mk_of hm hfa P6 hya
     obtain⟨r,g1,g2,g3,g4⟩:=hI.hole i hiF CN x t hx GP hm
     rw[hhole]at g1
     cases g1
     unfold wpOp
     simp only[ho]
     have Qn:o.guard=none:=by
      cases Qn:o.guard with
      |none=>rfl
      | some jw =>
       rw[Qn]at q3
       obtain⟨j,want⟩:=jw
       simp only[lQ]at q3
       split at q3
       ·split at q3
        ·rcases hgn with hgn|hgn
         ·rw[hgn]at q3;cases q3
         ·rw[hgn]at hm;cases hm
        ·cases q3
       ·cases q3
     have hwt:Region.wanted o (yielded ops a.tmps)=true:=by simp[Region.wanted,Qn]
     rw[aaM hwt]
     refine .inl (Vj (C:=C.quiet) (λ_=>rfl) hd.ctx.quiet q2 hqo hs hg M g4 g2 hst ?_)
     intro ρ' T' v w' gh hv cQ PN hρ
     refine ih gs F Pd prev _ env rows ρ' T' _ w' (λj hj hn=>hPd j hj (uv j hn)) Ve (by simpa using hsz) hok hcov' Yy hru' JX hFd Vf hob' ⟨λj hj Ep x1 t1 qV JW rA=>?_,λj j' hj mJ Ep Le=>hI.jQ j j' hj mJ (uv j Ep) (uv j' Le)⟩ h (hsim ρ' T' v w' d JU gh hv) PN cQ
     obtain⟨r1,p1,p2,p3,p4⟩:=hI.hole j hj (uv j Ep) x1 t1 qV JW rA
     have Tm:j≠i:=λe=>Ep ((bJ pz).2 (.inr e))
     have hne:r1≠r0:=λe=>by
      have:=hI.jQ j i hj hiF (uv j Ep) CN Tm x1 t1 x t qV JW rA hx GP hm
      rw[p1,hhole,e]at this
      exact this rfl
     exact⟨r1,p1,p2,p3,by rw[hρ r1 hne];exact p4⟩
    | false =>
     have hya:=Lf hm hya
     have hst1:dD C.quiet [x] env rows (λenv' aa=>env'=put x.dst ((look env t).getD default) env/\look env t=some ((look env t).getD default)/\aa=rows):=by
      obtain⟨dst,op,g⟩:=x
      simp only at GP
      subst GP
      suffices hs:dA C.quiet env rows op (λd aa=>dD C.quiet [] (put (some t) d env) aa λenv' aa=>env'=put (some t) ((look env t).getD default) env/\look env t=some ((look env t).getD default)/\aa=rows) by
       cases g with
       |none=>exact hs
       |some gw=>
        obtain⟨g,w⟩:=gw
        show bf (look env g) _
        rw[hyg g w rfl]
        exact⟨λ_=>hs,λe=>by cases w<;>cases e⟩
      have e:(λd aa=>dD C.quiet [] (put (some t) d env) aa λenv' aa=>env'=put (some t) ((look env t).getD default) env/\look env t=some ((look env t).getD default)/\aa=rows)=AP env rows (some t):=by
       funext d r
       simp only[dD,AP,put]
       apply propext
       constructor
       ·rintro⟨e1,e2,e3⟩
        cases e1
        exact⟨e2,e3⟩
       ·rintro⟨e1,e2⟩
        rw[e1]
        exact⟨rfl,rfl,e2⟩
      rw[e]
      exact hya
     refine A6 (C:=C.quiet) hd.ctx.quiet ho q1 q2 q3 q4 hs hg (A7 yc hst1) ?_
     intro env' aa ρ' T' a' w' h' gh cQ
     rw[GP]at h'
     obtain⟨d,rfl,h3,h4,rfl⟩:=h'
     have JU:look env t=some d:=by
      simp only[put,GP]at h3
      cases h3
      exact h4
     refine ih gs F Pd prev _ env aa ρ' T' a' w' (λj hj hn=>hPd j hj (uv j hn)) Ve (by simpa using hsz) hok hcov' Yy hru' JX hFd Vf hob' ⟨λj hj Ep x1 t1 qV JW rA=>?_,λj j' hj mJ Ep Le=>hI.jQ j j' hj mJ (uv j Ep) (uv j' Le)⟩ h
      (gh.ext λt' d' hl=>?_) (hg.step hs cQ) (hst.trans cQ)
     ·obtain⟨r1,p1,p2,p3,p4⟩:=hI.hole j hj (uv j Ep) x1 t1 qV JW rA
      exact⟨r1,p1,p2,p3,by rw[cQ.same r1 p3];exact p4⟩
     ·obtain⟨h5,h6⟩:=iM hl
      simp only[look]
      cases To:(t==t')with
      |true=>
       have:t=t':=by simpa using To
       subst this
       rw[JU]at h5
       simpa using h5
      | false =>
       have hne:t≠t':=by simpa using To
       simp only[aaR]
       rw[l7 λj hj hn he=>?_]
       ·exact h5
       ·by_cases Tm:j=i
        ·subst Tm
         rw[hti]at he
         exact hne (abe he)
        ·exact h6 j hj (λqY=>(bJ pz).1 qY|>.elim (λh7=>hn h7) (λh7=>Tm h7)) he
   · -- the next one of the text's order
    have hin:IW gs i=true:=by
     rcases hcov i vN with h3|h3|h3
     ·exact absurd h3 hiF
     ·exact absurd h3 CN
     ·exact h3
    cases gs with
    |nil=>simp[IW]at hin
    | cons g gs =>
     obtain⟨c,fl⟩:=g
     have hok0:=hok
     simp only[Xf,aav]at hok
     obtain⟨⟨⟨⟨k1,k2⟩,k3⟩,k4⟩,k5⟩:=hok
     have hcU:¬done L c:=Xn c (by simp[IW])
     have hie:i=c:=by
      simp only[IW,adf,abN]at hin
      rcases hin with(hh|hh)|hh
      ·have:c=i:=by simpa using hh
       exact this.symm
      ·have hm:i∈fl:=by simpa using hh
       exact absurd (lC jF 2 i c h2 ((oy k4 i hm).2.1 c rfl)) hcU
      ·exact(NR jF h2 gs (F++fl) c k5 hcU (λg PN=>Xn g.1 (by
        simp only[IW,adf,abN]
        exact .inr (acu.2 ⟨g,PN,by simp⟩))) hh).elim
     subst hie
     simp only[Gd,hx]at h
     simp only[okC,aav,hx]at k1
     obtain⟨⟨_,_⟩,k6⟩:=k1
     have GQ:∀j,j∈F->¬done L j->j∈Nf ops.toList Pd i/\∃t,bz al j=some t/\x.dst≠some t/\t∉ov x:=by
      intro j hj hn
      have hna:I3 ops.toList 2 i j=false:=by
       cases hb:I3 ops.toList 2 i j with
       |false=>rfl
       |true=>exact absurd (lC jF 2 i j h2 hb) hn
      refine⟨by simp[Nf,hPd j hj hn,hna],?_⟩
      have:=abc.1 k6 j hj
      rw[hna,acA]at this
      split at this
      ·rename_i t ht
       simp only[aav]at this
       exact⟨t,ht,by simpa using this.1,by simpa using this.2⟩
      ·cases this
     have yc:∀t',t'∈ov x->look (yD al F L env) t'=look env t':=λt' yB=>l7 λj hj hn he=>by
      obtain⟨_,t,ht,_,hyu⟩:=GQ j hj hn
      rw[ht]at he
      cases he
      exact hyu yB
     refine A6 hd.ctx ho q1 q2 q3 q4 hs hg (A7 yc h) ?_
     intro env' aa ρ' T' a' w' h' gh cQ
     have NM:∀j,j∈F->¬done L j->¬done (L.setIfInBounds i true) j:=λj hj hn qY=>(bJ pz).1 qY|>.elim (λh7=>hn h7) (λh7=>hiF (h7▸hj))
     have hslot:∀j,j∈F->¬done L j->∀t,bz al j=some t->x.dst≠some t:=by
      intro j hj hn t ht
      obtain⟨_,t',yB,hne,_⟩:=GQ j hj hn
      rw[ht]at yB
      cases yB
      exact hne
     obtain⟨mL,uZ,hlk2,NL⟩:∃mL,eA n ρ' T' (yD al F (L.setIfInBounds i true) mL) aa a' w'/\(∀t,x.dst≠some t->look mL t=look env t)/\dD C.quiet (atU al fl) mL aa (λenv rows=>mE C.quiet env rows (atL al (Nf ops.toList Pd i++fl))/\yW C (Gd ops.toList al (Nf ops.toList Pd i++fl) gs) env rows K):=by
      simp only[dD,KH]at h'
      cases hxd:x.dst with
      |none=>
       rw[hxd]at h'
       obtain⟨rfl,h3⟩:=h'
       refine⟨env,gh.ext λt' d' hl=>?_,λt _=>rfl,h3⟩
       obtain⟨h5,h6⟩:=iM hl
       rw[l7 λj hj hn=>h6 j hj (NM j hj hn)]
       exact h5
      | some t =>
       rw[hxd]at h'
       obtain⟨d,rfl,h3⟩:=h'
       refine⟨(t,d)::env,gh.ext λt' d' hl=>?_,λt' yB=>?_,h3⟩
       ·obtain⟨h5,h6⟩:=iM hl
        simp only[look]at h5⊢
        cases To:(t==t')with
        |true=>rw[To]at h5;exact h5
        |false=>
         rw[To]at h5
         simp only[aaR]at h5⊢
         rw[l7 λj hj hn=>h6 j hj (NM j hj hn)]
         exact h5
       ·have:(t==t')=false:=by
         have:t≠t':=λe=>yB (by rw[e])
         simpa using this
        simp[look,this]
     have hI2:Yv al F (L.setIfInBounds i true) dZ.length mL aa ρ':=by
      have hh:∀j,j∈F->¬done L j->∀t,bz al j=some t->jW mL t=jW env t:=by
       intro j hj hn t ht
       unfold jW
       rw[hlk2 t (hslot j hj hn t ht)]
      refine⟨λj hj Ep x1 t1 qV JW rA=>?_,λj j' hj mJ Ep Le hne x1 t1 x2 t2 qV JW rA zY ht2 M1=>?_⟩
      ·obtain⟨r1,p1,p2,p3,p4⟩:=hI.hole j hj (uv j Ep) x1 t1 qV JW rA
       exact⟨r1,by rw[hh j hj (uv j Ep) t1 (by simp[bz,qV,JW])];exact p1,p2,ab2 p3 cQ.len,by rw[cQ.same r1 p3];exact p4⟩
      ·rw[hh j hj (uv j Ep) t1 (by simp[bz,qV,JW]),hh j' mJ (uv j' Le) t2 (by simp[bz,zY,ht2])]
       exact hI.jQ j j' hj mJ (uv j Ep) (uv j' Le) hne x1 t1 x2 t2 qV JW rA zY ht2 M1
     have hflU:∀j∈fl,¬done (L.setIfInBounds i true) j:=by
      intro j hj qY
      rcases(bJ pz).1 qY with h5|h5
      ·exact Xn j (by simp only[IW,adf,abN];exact .inl (.inr (by simpa using hj))) h5
      ·subst h5
       simp only[List.contains_eq_mem,aaA,acT,abX]at k3
       exact k3 hj
     have JE:dZ.length<=aa.length:=abg hst.len cQ.len
     obtain⟨Yz,l9,⟨YA,Vg⟩,hI3,hs3,new,iE⟩:=GS (C:=C.quiet) (λ_=>rfl) fl F mL aa k4 NL hflU hI2 JE uZ
     have hstep3:Step jS T0 dZ w0 ρ' T' l9 w':=by
      have h0:=hst.trans cQ
      have yC:∀r Lc,ρ' r=some Lc->r<aa.length:=by
       intro r Lc hr
       rcases aa1 r aa.length with h1|h1
       ·exact h1
       ·rw[gh.vM r h1]at hr;cases hr
      refine⟨h0.pl,h0.tt,h0.vK,h0.size,h0.keep,λr row Lc p1 p2=>?_,h0.os,h0.tape,h0.output,by rw[iE,aax];have:=h0.len;omega,h0.same⟩
      rw[fL iE (yC r Lc p2)]at p1
      exact h0.fresh r row Lc p1 p2
     refine ih gs (F++fl) (Nf ops.toList Pd i++fl) (some i) _ Yz l9 ρ' T' a' w' (λj hj hn=>?_) Ve (by simpa using hsz) k5 (λj hj=>?_) (λc hc=>by cases hc;exact(bJ pz).2 (.inr rfl)) (λj hj qY=>?_) (λj hj=>?_) (λj hj j' mJ hne=>?_) Vf (λj hj hn=>?_) hI3 Vg hs3 (hg.step hs cQ) hstep3
     ·rcases aaU.1 hj with hj|hj
      ·exact acb _ (GQ j hj (uv j hn)).1
      ·exact adQ _ hj
     ·rcases hcov j hj with h5|h5|h5
      ·exact .inl (acb _ h5)
      ·exact .inr (.inl ((bJ pz).2 (.inl h5)))
      ·simp only[IW,adf,abN]at h5
       rcases h5 with(h5|h5)|h5
       ·exact .inr (.inl ((bJ pz).2 (.inr (by simpa using(Eq.symm (by simpa using h5))))))
       ·exact .inl (adQ _ (by simpa using h5))
       ·exact .inr (.inr h5)
     ·have hj0:IW ((i,fl)::gs) j=true:=by simp only[IW,adf,abN];exact .inr hj
      rcases(bJ pz).1 qY with h5|h5
      ·exact Xn j hj0 h5
      ·subst h5
       obtain⟨g,Vc,PJ⟩:=acu.1 hj
       simp only[abN]at PJ
       rcases PJ with PJ|PJ
       ·have:=abc.1 k2 g Vc
        simp only[bne,acT]at this
        rw[this]at PJ
        cases PJ
       · -- it would come when it will behind a later one
        have hm:j∈g.2:=by simpa using PJ
        have key:∀(gs:List (Nat×List Nat)) (F:List Nat) (prev:Option Nat),Xf ops.toList al prev F gs=true->∀g∈gs,j∈g.2->I3 ops.toList 2 j g.1=true:=by
         intro gs
         induction gs with
         |nil=>intro F prev _ g hg;simp at hg
         |cons g0 gs ihg=>
          obtain⟨c0,fl0⟩:=g0
          intro F prev hok g hg hm
          simp only[Xf,aav]at hok
          obtain⟨⟨⟨⟨r1,r2⟩,r3⟩,r4⟩,r5⟩:=hok
          rcases aaW.1 hg with rfl|hg
          ·exact(oy r4 j hm).2.1 c0 rfl
          ·exact ihg (F++fl0) (some c0) r5 g hg hm
        have han:=key gs (F++fl) (some j) k5 g Vc hm
        exact Xn g.1 (by
         simp only[IW,adf,abN]
         exact .inr (acu.2 ⟨g,Vc,by simp⟩)) (lC jF 2 j g.1 h2 han)
     ·rcases aaU.1 hj with hj|hj
      ·exact JX j hj
      ·obtain⟨r1,_,r3⟩:=oy k4 j hj
       exact⟨r1,λx' hx' t ht j' mJ=>r3 x' hx' t ht j' (by simpa using mJ)⟩
     ·have uq:∀(fl F:List Nat),CW ops.toList al (some i) F fl=true->(∀p∈F,∀q∈F,p≠q->bz al p≠bz al q)->∀p∈F++fl,∀q∈F++fl,p≠q->bz al p≠bz al q:=by
       intro fl
       induction fl with
       |nil=>intro F _ hF p hp q hq;simp at hp hq;exact hF p hp q hq
       |cons e fl ihf=>
        intro F hk hF p hp q hq
        simp only[CW,aav]at hk
        obtain⟨_,_,u3,_,_⟩:=s3 hk.1
        refine ihf (F++[e]) hk.2 (λp hp q hq hne=>?_) p (by simpa using hp) q (by simpa using hq)
        rcases aaU.1 hp with hp|hp<;>rcases aaU.1 hq with hq|hq
        ·exact hF p hp q hq hne
        ·rw[abd.1 hq];exact u3 p hp
        ·rw[abd.1 hp];exact(u3 q hq).symm
        ·exact absurd ((abd.1 hp).trans (abd.1 hq).symm) hne
      exact uq fl F k4 hFd j hj j' mJ hne
     ·have U1:∃y,al[j]?=some y:=by
       rcases aaU.1 hj with hj|hj
       ·obtain⟨_,y,_,_,hy,_⟩:=sZ (JX j hj).1
        exact⟨y,hy⟩
       ·obtain⟨_,y,_,_,hy,_⟩:=sZ (oy k4 j hj).1
        exact⟨y,hy⟩
      obtain⟨y,hy⟩:=U1
      have hin2:y∈atL al (Nf ops.toList Pd i++fl):=by
       refine ac2.2 ⟨j,?_,hy⟩
       rcases aaU.1 hj with hj|hj
       ·exact acb _ (GQ j hj (uv j hn)).1
       ·exact adQ _ hj
      obtain⟨t,ht,hstb⟩:=uw YA hin2
      exact⟨y,t,hy,ht,hstb⟩
theorem Es(hC:aJ C P)(hP:P.follows .mixedOrders=true){id:Nat}{ops:Array Oper}{al:List aS}{f0:List Nat}{gs:List (Nat×List Nat)}(hc:wl P n ops.toList ops.toList=some al)(hd:UO ops.toList al f0 gs=true)
  {env:Env}{rows:Rows}{ρ:Pl}{T:Nat->Prop}{a:Act}{w:World}{Q:fE->Env->Rows->Prop}{Q':Exit->Act->World->Prop}
  (h:dD C.quiet (atU al f0) env rows λenv rows=>mE C.quiet env rows (atL al f0)/\yW C (Gd ops.toList al f0 gs) env rows (Q .normal))(hs:eA n ρ T env rows a w)(hg:ei C w T)
  (hp:Post n ρ T rows w Q Q'):(Code.region id ops true).wp P Q' a w:=by
 simp only[UO,aav]at hd
 obtain⟨⟨⟨d1,d2⟩,d3⟩,d4⟩:=hd
 have hok0:Yr ops.toList al 0:=Dh (by simp[Nat.ble]) d1 (by simp)
 have hD:Qp C P n ops al 0:=⟨hok0,hc,hC⟩
 have hw1:eA n ρ T env rows a {w with drawn:=w.drawn+1}:=hs.heap rfl
 have Vc:ei C {w with drawn:=w.drawn+1} T:=hg.keep (λ_ _=>rfl) (λ_ h=>h)
 have Qr:∀j,¬done (Array.replicate ops.size false) j:=by
  intro j hj
  unfold done at hj
  simp[Array.getD]at hj
 have AW:eA n ρ T (yD al [] (Array.replicate ops.size false) env) rows a {w with drawn:=w.drawn+1}:=hw1.ext λt d hl=>(iM hl).1
 obtain⟨Yz,l9,⟨YA,Vg⟩,hI3,hs3,new,iE⟩:=GS (C:=C.quiet) (L:=Array.replicate ops.size false) (b0:=rows.length) (λ_=>rfl) f0 [] env rows d3 h (λj _=>Qr j) ⟨λj hj=>by simp at hj,λj j' hj=>by simp at hj⟩ (aaL _) AW
 rw[abr]at hI3 hs3
 refine wp_region_any hP (Vk hD (jS:=ρ) (T0:=T) (dZ:=rows) (w0:={w with drawn:=w.drawn+1}) (K:=Q .normal) ?_ ops.size gs f0 f0 none _ Yz l9 ρ T a _ (λj hj _=>hj) ?_ (by simp) d4 (λi hi=>?_) (λc hc=>by cases hc) (λi _=>Qr i) (λi hi=>?_) (λi hi j hj hne=>?_) (λi hi=>absurd hi (Qr i)) (λj hj _=>?_) hI3 Vg hs3 Vc ?_)
 ·intro env' aa ρ' T' a' w' hk gh cQ
  exact hp .normal env' aa ρ' T' a' w' hk gh ⟨cQ.pl,cQ.tt,cQ.vK,cQ.size,cQ.keep,cQ.fresh,cQ.os,cQ.tape,cQ.output,cQ.len,cQ.same⟩
 ·unfold jC
  exact abg (ac3 _ _) (by simp)
 ·have:=abc.1 d2 i (by simpa using hi)
  rcases adA.1 this with h1|h1
  ·exact .inl (by simpa using h1)
  ·exact .inr (.inr h1)
 ·obtain⟨r1,_,r3⟩:=oy d3 i hi
  exact⟨r1,λx' hx' t ht j' mJ=>r3 x' hx' t ht j' (by simpa using mJ)⟩
 ·have uq:∀(fl F:List Nat),CW ops.toList al none F fl=true->(∀p∈F,∀q∈F,p≠q->bz al p≠bz al q)->∀p∈F++fl,∀q∈F++fl,p≠q->bz al p≠bz al q:=by
   intro fl
   induction fl with
   |nil=>intro F _ hF p hp q hq;simp at hp hq;exact hF p hp q hq
   |cons e fl ihf=>
    intro F hk hF p hp q hq
    simp only[CW,aav]at hk
    obtain⟨_,_,u3,_,_⟩:=s3 hk.1
    refine ihf (F++[e]) hk.2 (λp hp q hq hne=>?_) p (by simpa using hp) q (by simpa using hq)
    rcases aaU.1 hp with hp|hp<;>rcases aaU.1 hq with hq|hq
    ·exact hF p hp q hq hne
    ·rw[abd.1 hq];exact u3 p hp
    ·rw[abd.1 hp];exact(u3 q hq).symm
    ·exact absurd ((abd.1 hp).trans (abd.1 hq).symm) hne
  exact uq f0 [] d3 (λp hp=>by simp at hp) i (by simpa using hi) j (by simpa using hj) hne
 ·obtain⟨_,y,_,_,hy,_⟩:=sZ (oy d3 j hj).1
  obtain⟨t,ht,hstb⟩:=uw YA (ac2.2 ⟨j,hj,hy⟩)
  exact⟨y,t,hy,ht,hstb⟩
 ·have h0:=Step.refl ρ T rows {w with drawn:=w.drawn+1}
  have yC:∀r Lc,ρ r=some Lc->r<rows.length:=by
   intro r Lc hr
   rcases aa1 r rows.length with h1|h1
   ·exact h1
   ·rw[hs.vM r h1]at hr;cases hr
  refine⟨h0.pl,h0.tt,h0.vK,h0.size,h0.keep,λr row Lc p1 p2=>?_,h0.os,h0.tape,h0.output,by rw[iE,aax];omega,h0.same⟩
  rw[fL iE (yC r Lc p2)]at p1
  exact h0.fresh r row Lc p1 p2
end Go.Am
namespace Go.Am
variable {C:aX} {P:Program} {n:Nat} {ρ:Pl} {T:Nat->Prop} {env:Env} {rows:Rows} {a:Act} {w:World}
theorem Qt(hC:aJ C P):∀(c:Code) (ac:aA),comp P n c=some ac->∀(Q:fE->Env->Rows->Prop) (Q':Exit->Act->World->Prop) (env:Env) (rows:Rows) (ρ:Pl) (T:Nat->Prop) (a:Act) (w:World),
  aw C ac Q env rows->eA n ρ T env rows a w->ei C w T->Post n ρ T rows w Q Q'->c.wp P Q' a w:=by
 intro c
 induction c with
 |skip=>
  intro ac hc Q Q' env rows ρ T a w h hs hg hp
  simp[comp]at hc;subst hc
  exact wp_skip (hp .normal env rows ρ T a w h hs (Step.refl _ _ _ _))
 | region id ops draw =>
  intro ac hc Q Q' env rows ρ T a w h hs hg hp
  simp only[comp]at hc
  split at hc
  ·rename_i al h1
   cases draw with
   |false=>
    simp only[abC,aaY]at hc
    cases hc
    refine wp_region ?_
    have:=U6 hC ops (Q':=Q') ops.toList 0 (by simp) al h1 env rows ρ T a w (Q .normal) h hs hg (λenv' aa ρ' T' a' w' hk gh hst=>hp .normal env' aa ρ' T' a' w' hk gh hst)
    rw[adZ]
    simpa using this
   | true =>
    simp only[abn,aaR]at hc
    cases X5:(hasF al&&(P.follows .mixedOrders&&UO ops.toList al (E7 ops.toList al).1 (E7 ops.toList al).2))with
    |true=>
     rw[X5]at hc
     simp only[aaY]at hc
     cases hc
     simp only[aav]at X5
     exact Es hC X5.2.1 h1 X5.2.2 h hs hg hp
    |false=>
    rw[X5]at hc
    simp only[aaR]at hc
    cases hdr:(P.follows .mixedOrders&&P5 ops.toList al)with
    | false =>
     rw[hdr]at hc
     simp only[aaR]at hc
     cases AF:(P.follows .mixedOrders&&UN ops.toList al (mQ ops.toList al))with
     | false =>
      rw[AF]at hc
      simp only[aaR]at hc
      cases K1:(P.follows .mixedOrders&&UO ops.toList al (E7 ops.toList al).1 (E7 ops.toList al).2)with
      |false=>rw[K1]at hc;cases hc;exact h.elim
      |true=>
       rw[K1]at hc
       simp only[aaY]at hc
       cases hc
       simp only[aav]at K1
       exact Es hC K1.1 h1 K1.2 h hs hg hp
     |true=>
      rw[AF]at hc
      simp only[aaY]at hc
      cases hc
      simp only[aav]at AF
      exact NN (C:=C.quiet) (λ_=>rfl) hC.quiet AF.1 h1 AF.2 h hs hg hp
    | true =>
     rw[hdr]at hc
     simp only[aaY]at hc
     cases hc
     simp only[aav]at hdr
     cases hm:KV ops.toList al with
     |none=>
      have e:Gc ops.toList al= .region true al:=by unfold Gc;rw[hm]
      rw[e]at h
      exact GO (C:=C.quiet) (λ_=>rfl) hC.quiet hdr.1 h1 hdr.2 h hs hg hp
     | some m =>
      cases jF:XK (al.drop m)with
      |false=>
       have e:Gc ops.toList al= .region true al:=by unfold Gc;rw[hm];simp only[jF,aaR]
       rw[e]at h
       exact GO (C:=C.quiet) (λ_=>rfl) hC.quiet hdr.1 h1 hdr.2 h hs hg hp
      |true=>
       have e:Gc ops.toList al= .AL (al.take m) (al.drop m):=by unfold Gc;rw[hm];simp only[jF,aaY]
       rw[e]at h
       exact NO hC hdr.1 h1 (Vh hm) h hs hg hp
  ·cases hc;exact h.elim
 |seq x y ihx ihy=>
  intro ac hc Q Q' env rows ρ T a w h hs hg hp
  obtain⟨ax,h1,hc⟩:=aD hc
  obtain⟨ay,h2,hc⟩:=aD hc
  cases hc
  refine wp_seq (ihx ax h1 _ _ env rows ρ T a w h hs hg ?_)
  intro e env' aa ρ' T' a' w' hq gh hst
  cases e with
  |normal=>exact ihy ay h2 Q Q' env' aa ρ' T' a' w' hq gh (hg.step hs hst) (λe2 mL mN PM T2 a2 w2 Qo uZ Qk=>hp e2 mL mN PM T2 a2 w2 Qo uZ (hst.trans Qk))
  |exit i=>exact hp (.exit i) env' aa ρ' T' a' w' hq gh hst
  |ret=>exact hp .ret env' aa ρ' T' a' w' hq gh hst
 | cond x p q ihp ihq =>
  intro ac hc Q Q' env rows ρ T a w h hs hg hp
  obtain⟨x',h1,hc⟩:=aD hc
  obtain⟨ap,h2,hc⟩:=aD hc
  obtain⟨aq,h3,hc⟩:=aD hc
  cases hc
  obtain⟨d,he,hk⟩:=ak h
  split at hk
  ·rename_i t
   have hG:sN C ρ w T:=λg d hd=>(hg g d hd).mono (by intro r L h;cases h) (λ_ _=>rfl) (λ_ h=>h)
   have hx:=eP h1 he hs hG
   refine wp_cond_split hx (λht=>?_) (λht=>?_)
   ·exact ihp ap h2 Q Q' env rows ρ T a w (hk.1 ht) hs hg hp
   ·exact ihq aq h3 Q Q' env rows ρ T a w (hk.2 ht) hs hg hp
  ·exact hk.elim
 | block id x ih =>
  intro ac hc Q Q' env rows ρ T a w h hs hg hp
  obtain⟨ax,h1,hc⟩:=aD hc
  cases hc
  refine wp_block (ih ax h1 _ _ env rows ρ T a w h hs hg ?_)
  intro e env' aa ρ' T' a' w' hq gh hst
  cases e with
  |normal=>exact hp .normal env' aa ρ' T' a' w' hq gh hst
  |exit i=>
   simp only[Qm,Exit.inBlock]
   by_cases hi:i=id
   ·rw[aaM hi];exact hp .normal env' aa ρ' T' a' w' (hq.1 hi) gh hst
   ·rw[aaE hi];exact hp (.exit i) env' aa ρ' T' a' w' (hq.2 hi) gh hst
  |ret=>exact hp .ret env' aa ρ' T' a' w' hq gh hst
 | loop x ih =>
  intro ac hc Q Q' env rows ρ T a w h hs hg hp
  obtain⟨ax,h1,hc⟩:=aD hc
  cases hc
  obtain⟨m,hm⟩:=h
  refine wp_loop_rounds m ?_
  induction m generalizing env rows ρ T a w with
  |zero=>exact hm.elim
  |succ m ihm=>
   refine ih ax h1 _ _ env rows ρ T a w hm hs hg ?_
   intro e env' aa ρ' T' a' w' hq gh hst
   cases e with
   |normal=>exact ihm env' aa ρ' T' a' w' gh (hg.step hs hst) (λe2 mL mN PM T2 a2 w2 Qo uZ Qk=>hp e2 mL mN PM T2 a2 w2 Qo uZ (hst.trans Qk)) hq
   |exit i=>exact hp (.exit i) env' aa ρ' T' a' w' hq gh hst
   |ret=>exact hp .ret env' aa ρ' T' a' w' hq gh hst
 |exit id=>
  intro ac hc Q Q' env rows ρ T a w h hs hg hp
  simp[comp]at hc;subst hc
  exact wp_exit (hp (.exit id) env rows ρ T a w h hs (Step.refl _ _ _ _))
 |ret=>
  intro ac hc Q Q' env rows ρ T a w h hs hg hp
  simp[comp]at hc;subst hc
  exact wp_ret (hp .ret env rows ρ T a w h hs (Step.refl _ _ _ _))
 | _=>intro ac hc;cases hc;intro Q Q' env rows ρ T a w h;exact h.elim
inductive aO where
 |tmp (t:Nat)
 |cell (t:Nat) (s:Sh)
 deriving Inhabited
def cRes(P:Program):ResultVar->Option aO
 | .tmp t=>some (.tmp t)
 | .cell t ty=>o2 (sh P ty) λs=>yX (lP P ty s) (some (.cell t s))
def GU(P:Program):List ResultVar->Option (List aO)
 |[]=>some []
 |r::l=>o2 (cRes P r) λa=>o2 (GU P l) λb=>some (a::b)
def Et(env:Env)(rows:Rows):aO->Option D
 | .tmp t=>match look env t with
  |some (.cB _)=>none
  |d=>d
 | .cell t s => match look env t with
  |some (.ptr s' r p)=>bif s'==s then(match live rows r with
   |some row=>cF row.els p
   |none=>none)else none
  | _=>none
def zZ(env:Env)(rows:Rows):List aO->Option (List D)
 |[]=>some []
 | r :: l => match Et env rows r with
  |some d=>match zZ env rows l with
   |some ds=>some (d::ds)
   |none=>none
  |none=>none
def wF:List D->D
 |[d]=>d
 |l=> .cB l
def oT:Nat->List D->Env
 | _,[]=>[]
 |i,d::l=>(i,d)::oT (i+1) l
theorem NS:∀(l:List D) (i t:Nat) (d:D),look (oT i l) t=some d->i<=t/\l[t-i]?=some d
 |[],i,t,d,h=>by simp[oT,look]at h
 | x :: l, i, t, d, h => by
  simp only[oT,look]at h
  cases hb:(i==t)with
  |true=>
   have:i=t:=by simpa using hb
   subst this
   simp[hb]at h
   subst h
   simp
  |false=>
   simp[hb]at h
   have hne:i≠t:=by simpa using hb
   obtain⟨h1,h2⟩:=NS l (i+1) t d h
   refine⟨by omega,?_⟩
   have:t-i=(t-(i+1))+1:=by omega
   rw[this]
   simpa using h2
theorem JY (hs : eA n ρ T env rows a w) : ∀ {l : List ResultVar} {l' : List aO} {ds : List D}, GU P l = some l' -> zZ env rows l' = some ds ->
  ∃vs:List Value,(l.mapM (λr:ResultVar=>(match r with| .tmp t=>pure (a.tmps.getD t undef)| .cell x t=>do loadVar t (<-asAddr (a.tmps.getD x undef)):Sem Value))).run P w= .ok vs w/\aW (qU ρ w T) ds vs
 |[],l',ds,h1,h2=>by
  simp[GU]at h1;subst h1
  simp[zZ]at h2;subst h2
  exact⟨[],by simp,.nil⟩
 | r :: l, l', ds, h1, h2 => by
  obtain⟨r',g1,h1⟩:=aD h1
  obtain⟨q,g2,h1⟩:=aD h1
  cases h1
  simp only[zZ]at h2
  split at h2
  ·rename_i d hd
   split at h2
   ·rename_i ds' hds
    cases h2
    obtain⟨vs,k1,k2⟩:=JY hs g2 hds
    have one : ∃ v, (match r with | .tmp t => pure (a.tmps.getD t undef) | .cell x t => do loadVar t (<- asAddr (a.tmps.getD x undef)) : Sem Value).run P w = .ok v w /\ qU ρ w T d v := by
     cases r with
     | tmp t =>
      simp[cRes]at g1
      subst g1
      simp only[Et]at hd
      refine⟨a.tmps.getD t undef,by simp,?_⟩
      split at hd
      ·cases hd
      ·rename_i x hx
       have:=hs.env t d hd
       cases d with
       |cB z=>exact absurd hd (by intro h;exact hx z h)
       | _=>exact this
     | cell x t =>
      obtain⟨s,g3,g1⟩:=aD g1
      obtain⟨g4,g1⟩:=cx g1
      cases g1
      simp only[Et]at hd
      split at hd
      ·rename_i s' rr p Gl
       cases Np:(s'==s)with
       |false=>rw[Np]at hd;simp at hd
       | true =>
        have hss':s'=s:=by simpa using Np
        subst hss'
        simp only[Np,aaY]at hd
        split at hd
        ·rename_i row hl
         have hv:=hs.env x _ Gl
         obtain⟨b,o',cs,hx,m1,m2,m3⟩:=hs.bw.KY (show LR ρ w T _ _ from hv) hl hd
         have hlen:=m2.len
         rw[m1.len]at hlen
         refine⟨gO s' cs,?_,?_⟩
         ·simp only[Sem.run_bind]
          rw[hx]
          simp[asAddr,mH g3 g4 m3 hlen.symm (p7 m1 m2)]
         ·have:=VR.gO (ρ:=ρ) (T:=T) m1 m2
          unfold gO at this⊢
          cases hag:s'.isAgg with
          |true=>exact qU.Nk m1 hag (by simpa using m2)
          |false=>
           have hlf:=m1.pW hag
           rw[b9 hlf]at m2
           have Gu:=m2.len
           match cs,Gu with
           |[c],_=>exact qU.bB m2.head
        ·cases hd
      ·cases hd
    obtain⟨v,m1,m2⟩:=one
    refine⟨v::vs,?_,.cons m2 k2⟩
    rw[List.mapM_cons]
    simp only[Sem.run_bind,m1,k1,Result.andThen_ok,Sem.run_pure]
   ·cases h2
  ·cases h2
def aG(C:aX)(np:Nat)(jU:List aO)(ac:aA):j9:=λds rows K=>
 ds.length=np/\aw C ac (λe env aa=>(e= .normal\/e= .ret)/\bf (zZ env aa jU) λl=>K (wF l) aa) (oT 0 ds) rows
theorem NT{fn:Func}{ds:List D}{rows:Rows}{ρ:Pl}{w:World}{T:Nat->Prop}{args:Array Value}{np:Nat}(hnp:np<=fn.ntmps)(hlen:ds.length=np)(hrows:jB ρ rows w T)(lS:∀r,rows.length<=r->ρ r=none)(yA:∀b,T b->b<w.heap.size)
  (hargs:aW (VR ρ w T) ds args.toList):eA fn.ntmps ρ T (oT 0 ds) rows {tmps:=args++Array.replicate (fn.ntmps-args.size) undef,defers:=[]} w:=by
 have hal:args.size=np:=by rw[<-hlen];simpa using hargs.len.symm
 refine⟨hrows,λt d hd=>?_,by simp;omega,yA,lS,rfl⟩
 obtain⟨_,h2⟩:=NS ds 0 t d hd
 rw[acO]at h2
 obtain⟨v,hv,Xk⟩:=hargs.some h2
 have lZ:args[t]?=some v:=by simpa using hv
 have hlt:t<args.size:=(aaZ.1 lZ).1
 have:(args++Array.replicate (fn.ntmps-args.size) undef).getD t undef=v:=by
  simp only[ad6]
  rw[Array.getElem?_append_left hlt,lZ]
  rfl
 rw[this]
 exact Xk
theorem YB{fn:Func}{jU:List aO}(hr:GU P fn.results.toList=some jU){ρ':Pl}{T':Nat->Prop}{env':Env}{aa:Rows}{a':Act}{w':World}(gh:eA fn.ntmps ρ' T' env' aa a' w'){l:List D}(hl:zZ env' aa jU=some l):
  ∃v,(results fn a'.tmps).run P w'= .ok v w'/\VR ρ' w' T' (wF l) v:=by
 obtain⟨vs,h1,h2⟩:=JY gh hr hl
 have hm:(fn.results.mapM (λr:ResultVar=>(match r with| .tmp t=>pure (a'.tmps.getD t undef)| .cell x t=>do loadVar t (<-asAddr (a'.tmps.getD x undef)):Sem Value))).run P w'= .ok vs.toArray w':=by
  rw[ad9]
  simp only[Sem.run_map,h1,Result.andThen_ok]
 have hlen:=h2.len
 have e0:(results fn a'.tmps).run P w'=((fn.results.mapM (λr:ResultVar=>(match r with| .tmp t=>pure (a'.tmps.getD t undef)| .cell x t=>do loadVar t (<-asAddr (a'.tmps.getD x undef)):Sem Value))).run P w').andThen
   λvs w'=>(pure (if h:vs.size=1 then vs[0]else .tuple vs):Sem Value).run P w':=by
  unfold results
  rw[Sem.run_bind]
  rfl
 rw[e0,hm]
 simp only[Result.andThen_ok,Sem.run_pure,adw]
 by_cases h1':vs.length=1
 ·have wG:l.length=1:=by omega
  obtain⟨v,rfl⟩:=List.length_eq_one_iff.1 h1'
  obtain⟨d,rfl⟩:=List.length_eq_one_iff.1 wG
  exact⟨v,by simp,VR.yZ h2.head⟩
 ·refine⟨.tuple vs.toArray,by simp[h1'],?_⟩
  have:wF l= .cB l:=by
   have wG:l.length≠1:=by omega
   clear hlen h2 hl h1 hm e0
   match l,wG with
   |[],_=>rfl
   |[d],hq=>exact absurd rfl hq
   | _::_::_,_=>rfl
  rw[this]
  exact⟨vs.toArray,rfl,by simpa using h2⟩
theorem NU(hC:aJ C P){f:FuncId}{fn:Func}{ac:aA}{jU:List aO}{np:Nat}(hf:P.funcs[f]?=some fn)(hb:o2 fn.body (comp P fn.ntmps)=some ac)(hr:GU P fn.results.toList=some jU)(hnp:np<=fn.ntmps):
  aP C.aY P f (aG C np jU ac):=by
 intro ds rows K ⟨hlen,h⟩ ρ w T args hrows lS yA hargs NA
 obtain⟨c,hbody,YC⟩:=aD hb
 refine calls_of_wp hf hbody ?_
 refine Qt hC c ac YC _ _ _ rows ρ T _ w h (NT hnp hlen hrows lS yA hargs) NA ?_
 intro e env' aa ρ' T' a' w' ⟨he,hk⟩ gh hst
 obtain⟨l,hl,hk⟩:=ak hk
 obtain⟨v,hv1,hv2⟩:=YB hr gh hl
 have NV:Dc K ρ T rows w (.returned v) w':=⟨v,wF l,aa,ρ',T',rfl,hk,gh.bw,gh.vM,gh.vL,hst,hv2⟩
 rcases he with rfl|rfl
 ·exact⟨gh.defers,v,hv1,NV⟩
 ·exact⟨gh.defers,v,hv1,NV⟩
end Go.Am
namespace Go.Am
variable {C:aX} {P:Program} {n:Nat} {ρ:Pl} {T:Nat->Prop} {env:Env} {rows:Rows} {a:Act} {w:World}
inductive yE (rows:Rows):D->D->Rows->Prop where
 |val (d:D):aT d=false->yE rows d d []
 |frz (d d':D):view rows 9 d=some d'->yE rows d d' []
 |frzT (l l':List D):dC (view rows 9) l=some l'->yE rows (.cB l) (.cB l') []
 |own (s:Sh) (r off len:Nat) (ex pA:Bool) (row:Row):live rows r=some row->row.sh.pure=true->(pA=true->ex=true)->yE rows (.sl s r [] off len ex) (.sl s 0 [] off len pA) [some row]
 |YD (s:Sh):yE rows (.raw (.slice none 0 0)) (.sl s 0 [] 0 0 false) [some ⟨s,[]⟩]
 | I6 (s : Sh) (r off len : Nat) (ex pA : Bool) (row : Row) (l : List D) : live rows r = some row -> row.sh.pure = true -> aV l = false -> (pA = true -> ex = true) ->
   yE rows (.cB (.sl s r [] off len ex::l)) (.cB (.sl s 0 [] off len pA::l)) [some row]
 | ownU (z : List D) (s : Sh) (r off len : Nat) (ex pA : Bool) (row : Row) (l : List D) : live rows r = some row -> row.sh.pure = true -> aV z = false -> aV l = false -> (pA = true -> ex = true) ->
   yE rows (.cB (z++ .sl s r [] off len ex::l)) (.cB (z++ .sl s 0 [] off len pA::l)) [some row]
 | ownA (S : Sh) (z : List D) (s : Sh) (r off len : Nat) (ex pA : Bool) (row : Row) (l : List D) : live rows r = some row -> row.sh.pure = true -> aV z = false -> aV l = false -> (pA = true -> ex = true) ->
   yE rows (.agg S (z++ .sl s r [] off len ex::l)) (.agg S (z++ .sl s 0 [] off len pA::l)) [some row]
 | own2 (z y l : List D) (s s2 : Sh) (r r2 off len Lg Lh : Nat) (ex pA I7 ex2' : Bool) (row oP : Row) : live rows r = some row -> live rows r2 = some oP -> r ≠ r2 -> row.sh.pure = true -> oP.sh.pure = true -> aV z = false -> aV y = false -> aV l = false ->
   (pA=true->ex=true)->(ex2'=true->I7=true)->
   yE rows (.cB (z++ .sl s r [] off len ex::(y++ .sl s2 r2 [] Lg Lh I7::l))) (.cB (z++ .sl s 0 [] off len pA::(y++ .sl s2 1 [] Lg Lh ex2'::l))) [some row,some oP]
def u6(L L2:Option Loc):Pl:=λr=>if r=0 then L else if r=1 then L2 else none
def A8(L:Option Loc):Pl:=λr=>if r=0 then L else none
theorem Step.emp{ρ':Pl}{T':Nat->Prop}{w':World}{aa:Rows}(hst:Step ρ T [] w ρ' T' aa w')(lS:∀r,ρ r=none):∀r row L,live aa r=some row->ρ' r=some L->w.heap.size<=L.b:=by
 intro r row L h1 h2
 rcases hst.fresh r row L h1 h2 with⟨r0,pZ,L0,h3,_⟩|h3
 ·simp[live]at h3
 ·exact h3
theorem mF.pure{ρ':Pl}{row:Row}{L:Loc}{T':Nat->Prop}(h:mF ρ row L w T)(hp:row.sh.pure=true):mF ρ' row L w T:=by
 refine⟨h.sh,h.nu,h.els,λhm=>?_,h.pY⟩
 obtain⟨cur,t,h1,h2,h3,h4⟩:=h.cells hm
 exact⟨cur,t,h1,h2,h3,h4.ofRaw (jR h.els hp)⟩
theorem Dj:∀{l:List D} {x:D},x∈au l->∃d∈l,x∈d.flat
 |[],x,h=>by simp[au]at h
 | d :: l, x, h => by
  simp only[au,aaU]at h
  rcases h with h|h
  ·exact⟨d,by simp,h⟩
  ·obtain⟨e,h1,h2⟩:=Dj h
   exact⟨e,by simp[h1],h2⟩
theorem YE{k:Nat}{d:D}{z:List D}(h:view rows k d=some (.cB z)):False:=by
 cases k with
 |zero=>simp[view]at h
 | succ k =>
  cases d with
  | cD s l e =>
   simp only[view]at h
   cases hp:s.pure with
   |true=>simp[hp]at h
   |false=>
    simp only[hp,aaR]at h
    split at h<;>cases h
  | agg s l =>
   simp only[view]at h
   cases hp:s.pure with
   |true=>simp[hp]at h
   |false=>
    simp only[hp,aaR]at h
    split at h<;>cases h
  | sl s r p off len e =>
   simp only[view]at h
   split at h
   ·rename_i l hl
    cases hb:(l.length==len)with
    |false=>simp[hb]at h
    | true =>
     simp only[hb,abn,aaR]at h
     cases hp:s.pure with
     |true=>simp[hp]at h
     |false=>
      simp only[hp,aaR]at h
      split at h<;>cases h
   ·cases h
  |mp r=>
   simp only[view]at h
   split at h<;>cases h
  | ptr s r p =>
   simp only[view]at h
   split at h
   ·split at h
    ·cases hp:s.pure with
     |true=>simp[hp]at h
     |false=>
      simp only[hp,aaR]at h
      split at h<;>cases h
    ·cases h
   ·cases h
  |b5 d=>
   simp only[view]at h
   cases hp:aT d with
   |true=>simp[hp]at h
   |false=>simp only[hp,aaR]at h;cases h
  | _=>simp[view]at h
theorem Dc.Li{K K':D->Rows->Prop}{e:Ending}{w':World}(lS:∀r,ρ r=none)(h:Dc K ρ T [] w e w')(hk:∀d rows,K d rows->∃d' aa,yE rows d d' aa/\K' d' aa):Dc K' ρ T [] w e w':=by
 obtain⟨v,d,aa,ρ',T',he,Fc,hrows,hd,ht,hst,hv⟩:=h.ex
 obtain⟨d',mN,hx,Ns⟩:=hk d aa Fc
 have iE:=hst.emp lS
 have ev0:∀(r:Nat) (row:Row),live ([]:Rows) r≠some row:=by intro r row h;simp[live]at h
 have hT:∀b,T b->w'.heap[b]?=w'.heap[b]?:=λ_ _=>rfl
 --nothing left
 have val:VR fw w' T' d' v->Dc (λd r=>d=d'/\r=[]) ρ T [] w e w':=by
  intro lZ
  exact⟨v,d',[],fw,T',he,⟨rfl,rfl⟩,⟨λr row L h=>absurd h (ev0 r row),λr _ row _ _ _ h=>absurd h (ev0 r row)⟩,λ_ _=>rfl,ht,
   ⟨λr L hr=>by rw[lS r]at hr;(cases hr),hst.tt,hst.vK,hst.size,hst.keep,λr row L h=>absurd h (ev0 r row),hst.os,hst.tape,hst.output,aaL _,λr hr=>by simp at hr⟩,lZ⟩
 have frz:VR fw w' (P9 ρ' T' aa) d' v->Dc (λd r=>d=d'/\r=[]) ρ T [] w e w':=by
  intro lZ
  refine⟨v,d',[],fw,P9 ρ' T' aa,he,⟨rfl,rfl⟩,⟨λr row L h=>absurd h (ev0 r row),λr _ row _ _ _ h=>absurd h (ev0 r row)⟩,λ_ _=>rfl,?_,
   ⟨λr L hr=>by rw[lS r]at hr;(cases hr),λb hb=> .inl (hst.tt b hb),?_,hst.size,hst.keep,λr row L h=>absurd h (ev0 r row),hst.os,hst.tape,hst.output,aaL _,λr hr=>by simp at hr⟩,lZ⟩
  ·rintro b (h1|⟨r,row,L,h1,h2,rfl⟩)
   ·exact ht b h1
   ·exact(hrows.row r row L h1 h2).lt
  ·rintro b (h1|⟨r,row,L,h1,h2,rfl⟩)
   ·exact hst.vK b h1
   ·exact .inr (.inl (iE r row L h1 h2))
 have own:∀(r:Nat) (row:Row),live aa r=some row->row.sh.pure=true->VR (A8 (ρ' r)) w' T' d' v->Dc (λd r=>d=d'/\r=[some row]) ρ T [] w e w':=by
  intro r row hl hp lZ
  have Er:∀q row',live [some row] q=some row'->q=0/\row'=row:=by
   intro q row' hq
   cases q with
   |zero=>simp[live]at hq;exact⟨rfl,hq.symm⟩
   |succ q=>simp[live]at hq
  refine⟨v,d',[some row],A8 (ρ' r),T',he,⟨rfl,rfl⟩,⟨λq row' L h1 h2=>?_,λq q' E8 oP L L' h1 h2 _ _ hne=>?_⟩,λq hq=>?_,ht,
   ⟨λr L hr=>by rw[lS r]at hr;(cases hr),hst.tt,hst.vK,hst.size,hst.keep,λq row' L h1 h2=>?_,hst.os,hst.tape,hst.output,by simp,λr hr=>by simp at hr⟩,lZ⟩
  ·obtain⟨rfl,rfl⟩:=Er q row' h1
   simp only[A8,ab6]at h2
   exact(hrows.row r row' L hl h2).pure (T':=T') hp
  ·exact absurd ((Er q E8 h1).1.trans (Er q' oP h2).1.symm) hne
  ·simp at hq
   unfold A8
   rw[aaE (by omega)]
  ·obtain⟨rfl,rfl⟩:=Er q row' h1
   simp only[A8,ab6]at h2
   exact .inr (iE r row' L hl h2)
 have sl1:∀(s:Sh) (r off len:Nat) (ex pA:Bool) (v:Value),(pA=true->ex=true)->LR ρ' w' T' (.sl s r [] off len ex) v->LR (A8 (ρ' r)) w' T' (.sl s 0 [] off len pA) v:=by
  intro s r off len ex pA v hee E9
  cases E9 with
  |sl _ _ _ _ _ _ L cap h1 h2 h3 h4=>exact .sl s 0 [] off len pA L cap (by simp[A8,h1]) h2 (λh=>h3 (hee h)) h4
  |AE _ _ _ _ _ a=>exact .AE s 0 [] off pA a
 have own2:∀(r r2:Nat) (row oP:Row),live aa r=some row->live aa r2=some oP->r≠r2->row.sh.pure=true->oP.sh.pure=true->VR (u6 (ρ' r) (ρ' r2)) w' T' d' v->Dc (λd r=>d=d'/\r=[some row,some oP]) ρ T [] w e w':=by
  intro r r2 row oP hl Gu hne2 hp tZ lZ
  have Er:∀q row',live [some row,some oP] q=some row'->(q=0/\row'=row)\/(q=1/\row'=oP):=by
   intro q row' hq
   match q,hq with
   |0,hq=>simp[live]at hq;exact .inl ⟨rfl,hq.symm⟩
   |1,hq=>simp[live]at hq;exact .inr ⟨rfl,hq.symm⟩
   |q+2,hq=>simp[live]at hq
  have t0:u6 (ρ' r) (ρ' r2) 0=ρ' r:=by simp[u6]
  have t1:u6 (ρ' r) (ρ' r2) 1=ρ' r2:=by simp[u6]
  refine⟨v,d',[some row,some oP],u6 (ρ' r) (ρ' r2),T',he,⟨rfl,rfl⟩,⟨λq row' L h1 h2=>?_,λq q' E8 row3 L L' h1 h2 h3 h4 hne=>?_⟩,λq hq=>?_,ht,
   ⟨λr L hr=>by rw[lS r]at hr;(cases hr),hst.tt,hst.vK,hst.size,hst.keep,λq row' L h1 h2=>?_,hst.os,hst.tape,hst.output,by simp,λr hr=>by simp at hr⟩,lZ⟩
  ·rcases Er q row' h1 with⟨rfl,rfl⟩|⟨rfl,rfl⟩
   ·rw[t0]at h2
    exact(hrows.row r row' L hl h2).pure (T':=T') hp
   ·rw[t1]at h2
    exact(hrows.row r2 row' L Gu h2).pure (T':=T') tZ
  ·rcases Er q E8 h1 with⟨rfl,rfl⟩|⟨rfl,rfl⟩<;>rcases Er q' row3 h2 with⟨rfl,rfl⟩|⟨rfl,rfl⟩
   ·exact absurd rfl hne
   ·rw[t0]at h3;rw[t1]at h4
    exact hrows.jQ r r2 _ _ L L' hl Gu h3 h4 hne2
   ·rw[t1]at h3;rw[t0]at h4
    exact hrows.jQ r2 r _ _ L L' Gu hl h3 h4 (abZ hne2)
   ·exact absurd rfl hne
  ·simp at hq
   unfold u6
   rw[aaE (by omega),aaE (by omega)]
  ·rcases Er q row' h1 with⟨rfl,rfl⟩|⟨rfl,rfl⟩
   ·rw[t0]at h2
    exact .inr (iE r row' L hl h2)
   ·rw[t1]at h2
    exact .inr (iE r2 row' L Gu h2)
 have sl2:∀(s:Sh) (r r' q off len:Nat) (ex pA:Bool) (v:Value) (PM:Pl),PM q=ρ' r->(pA=true->ex=true)->LR ρ' w' T' (.sl s r [] off len ex) v->LR PM w' T' (.sl s q [] off len pA) v:=by
  intro s r r' q off len ex pA v PM hq hee E9
  cases E9 with
  |sl _ _ _ _ _ _ L cap h1 h2 h3 h4=>exact .sl s q [] off len pA L cap (by rw[hq];exact h1) h2 (λh=>h3 (hee h)) h4
  |AE _ _ _ _ _ a=>exact .AE s q [] off pA a
 have done:Dc (λd r=>d=d'/\r=mN) ρ T [] w e w'->Dc K' ρ T [] w e w':=by
  rintro⟨v,d2,r2,PM,T2,q1,⟨rfl,rfl⟩,q3⟩
  exact⟨v,d2,r2,PM,T2,q1,Ns,q3⟩
 refine done ?_
 cases hx with
 |val _ h1=>exact val (hv.closed h1)
 |frz _ _ h1=>exact frz (K8 hrows h1 hv)
 | frzT l l' h1 =>
  obtain⟨vs,rfl,bN⟩:=hv
  refine frz ⟨vs,rfl,?_⟩
  obtain⟨g1,g2⟩:=jT h1
  refine⟨by rw[g1];exact bN.len,λi x y hx hy=>?_⟩
  have vN:i<l.length:=by rw[<-g1];exact cU hx
  have hxi:=aaw vN
  have:=K8 hrows (g2 i _ _ hxi hx) (VR.yZ (bN.at_ i _ y hxi hy))
  cases x with
  |cB z=>
   exact(YE (g2 i _ _ hxi hx)).elim
  | _=>exact this
 |own s r off len ex pA row h1 h2 h4=>exact own r row h1 h2 (VR.bB (sl1 s r off len ex pA v h4 hv))
 | YD s =>
  have lZ:=hv.ofRaw
  subst lZ
  refine⟨_,_,[some ⟨s,[]⟩],fw,T',he,⟨rfl,rfl⟩,⟨λ_ _ _ _ h=>(by cases h),λ_ _ _ _ _ _ _ _ h=>(by cases h)⟩,λ_ _=>rfl,ht,
   ⟨λr L hr=>by rw[lS r]at hr;(cases hr),hst.tt,hst.vK,hst.size,hst.keep,λ_ _ _ _ h=>(by cases h),hst.os,hst.tape,hst.output,by simp,λr hr=>by simp at hr⟩,VR.bB (.AE s 0 [] 0 false none)⟩
 | I6 s r off len ex pA row l h1 h2 h3 h4 =>
  obtain⟨vs,rfl,bN⟩:=hv
  refine own r row h1 h2 ⟨vs,rfl,?_⟩
  cases hvs:vs.toList with
  |nil=>rw[hvs]at bN;have:=bN.len;simp at this
  |cons v0 vs'=>
   rw[hvs]at bN
   refine .cons (qU.bB (sl1 s r off len ex pA v0 h4 bN.head)) ?_
   have ht:=bN.tail
   refine⟨ht.len,λi x y hx hy=>?_⟩
   exact((ht.at_ i x y hx hy).closed (fc h3 x (bH hx))).mono (by intro r L h;cases h) (λ_ _=>rfl) (λ_ h=>h)
 | ownU z s r off len ex pA row l h1 h2 h3 h5 h4 =>
  obtain⟨vs,rfl,bN⟩:=hv
  refine own r row h1 h2 ⟨vs,rfl,?_⟩
  refine⟨by rw[<-bN.len];simp,λi x y hx hy=>?_⟩
  have same:∀x,(z++ .sl s r [] off len ex::l)[i]?=some x->aT x=false->qU (A8 (ρ' r)) w' T' x y:=λx hx hr=>
   ((bN.at_ i x y hx hy).closed hr).mono (by intro r L h;cases h) (λ_ _=>rfl) (λ_ h=>h)
  by_cases c:i<z.length
  ·rw[aaQ c]at hx
   exact same x (by rw[aaQ c];exact hx) (fc h3 x (bH hx))
  ·rw[aaT (by omega)]at hx
   have hz:(z++ .sl s r [] off len ex::l)[i]?=(D.sl s r [] off len ex::l)[i-z.length]?:=aaT (by omega)
   cases hi:i-z.length with
   |zero=>
    rw[hi]at hx hz
    simp only[abD,abS]at hx hz
    subst hx
    exact qU.bB (sl1 s r off len ex pA y h4 (bN.at_ i _ y hz hy))
   |succ m=>
    rw[hi]at hx hz
    simp only[ab7]at hx hz
    exact same x (by rw[hz];exact hx) (fc h5 x (bH hx))
 | ownA S z s r off len ex pA row l h1 h2 h3 h5 h4 =>
  obtain⟨cs,rfl,hsh,bN⟩:=hv
  obtain⟨l0,e,hlen,fG⟩:=hsh.jl (oQ hsh).2
  cases e
  have hz:∀x∈au z,aT x=false:=λx hx=>by
   obtain⟨d,hd,hxd⟩:=Dj hx
   obtain⟨i,hi,rfl⟩:=aa8.1 hd
   obtain⟨e,he⟩:=lY (s:=S) (i:=i) (by rw[<-hlen,aax];omega)
   exact ox (fG i e _ he (by rw[aaQ hi];exact aaw hi)) (fc h3 _ hd) x hxd
  have hl:∀x∈au l,aT x=false:=λx hx=>by
   obtain⟨d,hd,hxd⟩:=Dj hx
   obtain⟨i,hi,rfl⟩:=aa8.1 hd
   obtain⟨e,he⟩:=lY (s:=S) (i:=z.length+1+i) (by rw[<-hlen,aax,aa0];omega)
   exact ox (fG _ e _ he (by rw[aaT (by omega),show z.length+1+i-z.length=i+1 by omega,ab7];exact aaw hi)) (fc h5 _ hd) x hxd
  have same:∀{x y},LR ρ' w' T' x y->aT x=false->LR (A8 (ρ' r)) w' T' x y:=λh hr=>(h.closed hr).mono (by intro r L h;cases h) (λ_ _=>rfl) (λ_ h=>h)
  refine own r row h1 h2 ⟨cs,rfl,.agg _ _ (oQ hsh).2 (by rw[<-hlen];simp) λi e d hi hd=>?_,?_⟩
  ·by_cases c:i<z.length
   ·rw[aaQ c]at hd
    exact fG i e d hi (by rw[aaQ c];exact hd)
   ·rw[aaT (by omega)]at hd
    have:=fG i e ((D.sl s r [] off len ex::l).getD (i-z.length) default) hi
    rw[aaT (by omega)]at this
    cases hm:i-z.length with
    |zero=>
     rw[hm]at hd this
     cases hd
     cases this rfl
     exact .ref _ rfl
    |succ m=>
     rw[hm]at hd this
     simp only[ab7]at hd this
     have h6:=this (by rw[hd];simp[List.getD,hd])
     simpa[List.getD,hd]using h6
  ·rw[dJ]at bN⊢
   simp only[au,D.flat]at bN⊢
   refine⟨by rw[<-bN.len];simp,λi x y hx hy=>?_⟩
   by_cases c:i<(au z).length
   ·rw[aaQ c]at hx
    exact same (bN.at_ i x y (by rw[aaQ c];exact hx) hy) (hz x (bH hx))
   ·have q:=bN.at_ i
    rw[aaT (by omega)]at hx q
    cases hm:i-(au z).length with
    |zero=>
     rw[hm]at hx q
     cases hx
     exact sl1 s r off len ex pA y h4 (q _ y rfl hy)
    |succ m=>
     rw[hm]at hx q
     exact same (q x y hx hy) (hl x (bH hx))
 | own2 z y l s s2 r r2 off len Lg Lh ex pA I7 ex2' row oP h1 h2 hne p1 p2 h3 h5 h6 h4 h7 =>
  obtain⟨vs,rfl,bN⟩:=hv
  refine own2 r r2 row oP h1 h2 hne p1 p2 ⟨vs,rfl,?_⟩
  have t0:u6 (ρ' r) (ρ' r2) 0=ρ' r:=by simp[u6]
  have t1:u6 (ρ' r) (ρ' r2) 1=ρ' r2:=by simp[u6]
  refine⟨by rw[<-bN.len];simp,λi x x' hx hy=>?_⟩
  have same:∀x,(z++ .sl s r [] off len ex::(y++ .sl s2 r2 [] Lg Lh I7::l))[i]?=some x->aT x=false->qU (u6 (ρ' r) (ρ' r2)) w' T' x x':=λx hx hr=>
   ((bN.at_ i x x' hx hy).closed hr).mono (by intro r L h;cases h) (λ_ _=>rfl) (λ_ h=>h)
  by_cases c:i<z.length
  ·rw[aaQ c]at hx
   exact same x (by rw[aaQ c];exact hx) (fc h3 x (bH hx))
  ·rw [aaT (by omega)] at hx
   have hz:(z++ .sl s r [] off len ex::(y++ .sl s2 r2 [] Lg Lh I7::l))[i]?=(D.sl s r [] off len ex::(y++ .sl s2 r2 [] Lg Lh I7::l))[i-z.length]?:=aaT (by omega)
   cases hi:i-z.length with
   |zero=>
    rw[hi]at hx hz
    simp only[abD,abS]at hx hz
    subst hx
    exact qU.bB (sl2 s r 0 0 off len ex pA x' _ t0 h4 (bN.at_ i _ x' hz hy))
   | succ m =>
    rw[hi]at hx hz
    simp only[ab7]at hx hz
    by_cases c2:m<y.length
    ·rw[aaQ c2]at hx hz
     exact same x (by rw[hz];exact hx) (fc h5 x (bH hx))
    ·have Vl:(y++D.sl s2 r2 [] Lg Lh I7::l)[m]?=(D.sl s2 r2 [] Lg Lh I7::l)[m-y.length]?:=aaT (by omega)
     rw[aaT (by omega)]at hx
     rw[Vl]at hz
     cases hm:m-y.length with
     |zero=>
      rw[hm]at hx hz
      simp only[abD,abS]at hx hz
      subst hx
      exact qU.bB (sl2 s2 r2 0 1 Lg Lh I7 ex2' x' _ t1 h7 (bN.at_ i _ x' hz hy))
     |succ q=>
      rw[hm]at hx hz
      simp only[ab7]at hx hz
      exact same x (by rw[hz];exact hx) (fc h6 x (bH hx))
def mP:List (Nat×Fn)->FuncId->Option Fn
 |[],_=>none
 |(k,F)::l,f=>bif k==f then some F else mP l f
theorem Tp{G:Nat->Option D}:aJ ⟨G,mP [],λ_=>none,λ_=>none⟩ P:=⟨(by intro f F h;cases h),(by intro f F h;cases h),(by intro f F h;cases h)⟩
theorem az{G:Nat->Option D}{k:Nat}{F:Fn}{l:List (Nat×Fn)}{r:FuncId->Option j9}{q:FuncId->Option E5}(h:aP G P k (Fn.run F))(hl:aJ ⟨G,mP l,r,q⟩ P):aJ ⟨G,mP ((k,F)::l),r,q⟩ P:=by
 refine⟨?_,hl.2⟩
 intro f F' hf
 simp only[mP]at hf
 cases hb:(k==f)with
 |true=>
  rw[hb]at hf
  have:k=f:=by simpa using hb
  subst this
  cases hf
  exact h
 |false=>
  rw[hb]at hf
  exact hl.1 f F' hf
def o7:List (Nat×j9)->FuncId->Option j9
 |[],_=>none
 |(k,F)::l,f=>bif k==f then some F else o7 l f
theorem YF{G:Nat->Option D}:aJ ⟨G,mP [],o7 [],λ_=>none⟩ P:=⟨(by intro f F h;cases h),(by intro f F h;cases h),(by intro f F h;cases h)⟩
theorem aN{G:Nat->Option D}{k:Nat}{A:j9}{t:FuncId->Option Fn}{l:List (Nat×j9)}{q:FuncId->Option E5}(h:aP G P k A)(hl:aJ ⟨G,t,o7 l,q⟩ P):aJ ⟨G,t,o7 ((k,A)::l),q⟩ P:=by
 refine⟨hl.1,?_,hl.2.2⟩
 intro f F' hf
 simp only[o7]at hf
 cases hb:(k==f)with
 |true=>
  rw[hb]at hf
  have:k=f:=by simpa using hb
  subst this
  cases hf
  exact h
 |false=>
  rw[hb]at hf
  exact hl.2.1 f F' hf
def Dk:List (Nat×E5)->FuncId->Option E5
 |[],_=>none
 |(k,F)::l,f=>bif k==f then some F else Dk l f
theorem Vm{G:Nat->Option D}{k:Nat}{A:E5}{t:FuncId->Option Fn}{l:List (Nat×E5)}{r:FuncId->Option j9}(h:K9 G P k (Na A))(hl:aJ ⟨G,t,r,Dk l⟩ P):aJ ⟨G,t,r,Dk ((k,A)::l)⟩ P:=by
 refine⟨hl.1,hl.2.1,?_⟩
 intro f F' hf
 simp only[Dk]at hf
 cases hb:(k==f)with
 |true=>
  rw[hb]at hf
  have:k=f:=by simpa using hb
  subst this
  cases hf
  exact h
 |false=>
  rw[hb]at hf
  exact hl.2.2 f F' hf
end Go.Am

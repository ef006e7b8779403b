import Derived.Test.YtgcejocgnfkciaaGreatDoorKg2
import Derived.MapKept
import Derived.LoopN
import Derived.Orders
set_option linter.unusedSimpArgs false
set_option linter.unusedVariables false
namespace Go.Am
variable {C:bf} {P:Program} {n:Nat} {ρ:Pl} {T:Nat->Prop} {env:Env} {rows:Rows} {a:Act} {w:World}
def fE:Pl:=λ_=>none
theorem qy{s:Sh}{d:D}(h:aL s d)(hp:s.pure=true):∀x∈d.flat,∃v,x= .raw v:=by
 induction h with
 |leaf k v hv=>intro x hx;simp[D.flat]at hx;exact⟨v,hx⟩
 |ref d hd=>simp[Sh.pure]at hp
 | agg s l ha hl fJ ih =>
  intro x hx
  simp only[D.flat]at hx
  have key:∀(s:Sh) (l:List D),s.isAgg=true->s.pure=true->l.length=s.count->(∀i e d,s.sub i=some e->l[i]?=some d->e.pure=true->∀x∈d.flat,∃v,x= .raw v)->∀x∈aA l,∃v,x= .raw v:=by
   intro s
   induction s with
   |leaf _=>intro l h;simp[Sh.isAgg]at h
   |ref=>intro l h;simp[Sh.isAgg]at h
   |nil=>intro l _ _ hl _ x hx;simp[Sh.count]at hl;subst hl;simp[aA]at hx
   | cons a b _ ihb =>
    intro l ha hp hl h x hx
    cases l with
    |nil=>simp[aA]at hx
    |cons d l=>
     simp only[Sh.pure,aan]at hp
     simp only[aA,aaQ]at hx
     rcases hx with hx|hx
     ·exact h 0 a d rfl rfl hp.1 x hx
     ·exact ihb l (by simpa[Sh.isAgg]using ha) hp.2 (by simpa[Sh.count]using hl) (λi e d' h1 h2=>h (i+1) e d' (by simpa[Sh.sub]using h1) (by simpa using h2)) x hx
   | ar m e _ =>
    intro l _ hp hl h x hx
    simp[Sh.count]at hl
    clear ih
    have:∀(l:List D) (k:Nat),(∀(i:Nat) (d:D),l[i]?=some d->∀x∈d.flat,∃v,x=D.raw v)->∀x∈aA l,∃v,x=D.raw v:=by
     intro l
     induction l with
     |nil=>intro _ _ x hx;simp[aA]at hx
     |cons d l ih=>
      intro k h x hx
      simp only[aA,aaQ]at hx
      rcases hx with hx|hx
      ·exact h 0 d rfl x hx
      ·exact ih k (λi d' j9=>h (i+1) d' (by simpa using j9)) x hx
    exact this l 0 (λi d hd=>h i e d (by simp[Sh.sub];have:=dA hd;omega) hd (by simpa[Sh.pure]using hp)) x hx
  exact key s l ha hp hl (λi e d h1 h2 h3=>ih i e d h1 h2 h3) x hx
theorem ky{s:Sh}{l:List D}(h:∀d∈l,aL s d)(hp:s.pure=true):∀x∈aA l,∃v,x= .raw v:=by
 induction l with
 |nil=>intro x hx;simp[aA]at hx
 |cons d l ih=>
  intro x hx
  simp only[aA,aaQ]at hx
  rcases hx with hx|hx
  ·exact qy (h d (by simp)) hp x hx
  ·exact ih (λe he=>h e (by simp[he])) x hx
theorem LR.ofRaw{ρ':Pl}{w':World}{T':Nat->Prop}{d:D}{v:Value}(h:LR ρ w T d v)(hr:∃x,d= .raw x):LR ρ' w' T' d v:=by
 obtain⟨x,rfl⟩:=hr
 cases h
 rename_i h
 exact .raw _ h
theorem bd.ofRaw{ρ':Pl}{w':World}{T':Nat->Prop}{l:List D}{cs:List Value}(h:bd (LR ρ w T) l cs)(hr:∀x∈l,∃v,x= .raw v):bd (LR ρ' w' T') l cs:=
 ⟨h.len,λi x y hx hy=>(h.at_ i x y hx hy).ofRaw (hr x (bN hx))⟩
theorem fw:∀{l:List D},aW l=false->∀d∈l,aR d=false
 |[],_,d,hd=>by simp at hd
 |x::l,h,d,hd=>by
  simp[aW]at h
  rcases aaW.1 hd with rfl|hd
  ·exact h.1
  ·exact fw h.2 d hd
theorem o8{s:Sh}{d:D}(h:aL s d)(hr:aR d=false):∀x∈d.flat,aR x=false:=by
 induction h with
 |leaf k v hv=>intro x hx;simp[D.flat]at hx;subst hx;rfl
 |ref d hd=>rw[cz hd];intro x hx;simp at hx;subst hx;exact hr
 | agg s l ha hl fJ ih =>
  simp only[aR]at hr
  cases hp:s.pure with
  |true=>
   intro x hx
   obtain⟨v,rfl⟩:=qy (aL.agg s l ha hl fJ) hp x hx
   rfl
  | false =>
   simp[hp]at hr
   intro x hx
   simp only[D.flat]at hx
   have hm:=fw hr
   have:∀(l:List D),(∀d∈l,∀x∈d.flat,aR x=false)->∀x∈aA l,aR x=false:=by
    intro l
    induction l with
    |nil=>intro _ x hx;simp[aA]at hx
    |cons d l ih=>
     intro h x hx
     simp only[aA,aaQ]at hx
     rcases hx with hx|hx
     ·exact h d (by simp) x hx
     ·exact ih (λe he=>h e (by simp[he])) x hx
   refine this l (λd hd=>?_) x hx
   obtain⟨i,hi,rfl⟩:=aa3.1 hd
   obtain⟨e,he⟩:=mL (s:=s) (i:=i) (by omega)
   exact ih i e _ he (aap hi) (hm _ hd)
theorem M9{s:Sh}{l:List D}(h:∀d∈l,aL s d)(hr:aW l=false):∀x∈aA l,aR x=false:=by
 induction l with
 |nil=>intro x hx;simp[aA]at hx
 |cons d l ih=>
  simp[aW]at hr
  intro x hx
  simp only[aA,aaQ]at hx
  rcases hx with hx|hx
  ·exact o8 (h d (by simp)) hr.1 x hx
  ·exact ih (λe he=>h e (by simp[he])) hr.2 x hx
theorem LR.closed{d:D}{v:Value}(h:LR ρ w T d v)(hr:aR d=false):LR fE w T d v:=by
 induction h with
 |raw v hv=>exact .raw v hv
 |ptr=>simp[aR]at hr
 |sl=>simp[aR]at hr
 |Bw=>simp[aR]at hr
 |nX=>simp[aR]at hr
 |mp=>simp[aR]at hr
 |Fi=>simp[aR]at hr
 |om s l b es clock h1 h2 h3 h4=>exact .om s l b es clock h1 h2 h3 h4
 |qj s ex a cap h1 h2=>exact .qj s ex a cap h1 h2
 | cI s l ex b o cap f h1 hb h2 h3 h4 h5 ih =>
  refine .cI s l ex b o cap f h1 hb h2 (λi d hd=>?_) h4 h5
  simp only[aR]at hr
  cases hp:s.pure with
  |true=>exact(h3 i d hd).ofRaw (ky h1 hp d (bN hd))
  |false=>
   simp[hp]at hr
   exact ih i d hd (M9 h1 hr d (bN hd))
 |cd s d b o f h1 hb h2 h3 ih=>
  simp only[aR]at hr
  exact .cd s d b o f h1 hb h2 (λi x hx=>ih i x hx (o8 h1 hr x (bN hx)))
theorem sj.closed{d:D}{v:Value}(h:sj ρ w T d v)(hr:aR d=false):sj fE w T d v:=by
 cases d with
 |agg s l=>
  obtain⟨cs,rfl,h1,h2⟩:=h
  have:=o8 h1 hr
  simp only[D.flat]at this
  exact⟨cs,rfl,h1,h2.len,λi x y hx hy=>(h2.at_ i x y hx hy).closed (this x (bN hx))⟩
 | _=>exact LR.closed h hr
theorem VR.closed{d:D}{v:Value}(h:VR ρ w T d v)(hr:aR d=false):VR fE w T d v:=by
 cases d with
 |cA l=>
  obtain⟨vs,rfl,h1⟩:=h
  simp only[aR]at hr
  exact⟨vs,rfl,h1.len,λi x y hx hy=>(h1.at_ i x y hx hy).closed (fw hr x (bN hx))⟩
 |agg s l=>exact sj.closed (d:= .agg s l) h hr
 | _=>exact LR.closed h hr
theorem AM:∀{l:List D},jG l=true->∀d∈l,cj d=true
 |[],_,d,hd=>by simp at hd
 |x::l,h,d,hd=>by
  simp[jG]at h
  rcases aaW.1 hd with rfl|hd
  ·exact h.1
  ·exact AM h.2 d hd
theorem LR.cj{T':Nat->Prop}{w':World}{d:D}{v:Value}(h:LR ρ w T d v)(hr:cj d=true):LR ρ w' T' d v:=by
 cases h with
 |raw v hv=>exact .raw v hv
 |ptr s r p L h1 h2=>exact .ptr s r p L h1 h2
 |sl s r p off len ex L cap h1 h2 h3 h4=>exact .sl s r p off len ex L cap h1 h2 h3 h4
 |Bw s r p off ex a=>exact .Bw s r p off ex a
 |nX n s r p off L h1 h2=>exact .nX n s r p off L h1 h2
 |mp r L h1 h2=>exact .mp r L h1 h2
 |Fi f s r p L h1 h2=>exact .Fi f s r p L h1 h2
 |om=>simp[Am.cj]at hr
 |qj=>simp[Am.cj]at hr
 |cI=>simp[Am.cj]at hr
 |cd=>simp[Am.cj]at hr
theorem Sw{s:Sh}{d:D}(h:aL s d)(hr:cj d=true):∀x∈d.flat,cj x=true:=by
 induction h with
 |leaf k v hv=>intro x hx;simp[D.flat]at hx;subst hx;rfl
 |ref d hd=>rw[cz hd];intro x hx;simp at hx;subst hx;exact hr
 | agg s l ha hl fJ ih =>
  simp only[cj]at hr
  cases hp:s.pure with
  |true=>
   intro x hx
   obtain⟨v,rfl⟩:=qy (aL.agg s l ha hl fJ) hp x hx
   rfl
  | false =>
   simp[hp]at hr
   intro x hx
   simp only[D.flat]at hx
   have hm:=AM hr
   have:∀(l:List D),(∀d∈l,∀x∈d.flat,cj x=true)->∀x∈aA l,cj x=true:=by
    intro l
    induction l with
    |nil=>intro _ x hx;simp[aA]at hx
    |cons d l ih=>
     intro h x hx
     simp only[aA,aaQ]at hx
     rcases hx with hx|hx
     ·exact h d (by simp) x hx
     ·exact ih (λe he=>h e (by simp[he])) x hx
   refine this l (λd hd=>?_) x hx
   obtain⟨i,hi,rfl⟩:=aa3.1 hd
   obtain⟨e,he⟩:=mL (s:=s) (i:=i) (by omega)
   exact ih i e _ he (aap hi) (hm _ hd)
theorem sj.cj{T':Nat->Prop}{w':World}{d:D}{v:Value}(h:sj ρ w T d v)(hr:cj d=true):sj ρ w' T' d v:=by
 cases d with
 |agg s l=>
  obtain⟨cs,rfl,h1,h2⟩:=h
  have:=Sw h1 hr
  simp only[D.flat]at this
  exact⟨cs,rfl,h1,h2.len,λi x y hx hy=>(h2.at_ i x y hx hy).cj (this x (bN hx))⟩
 | _=>exact LR.cj h hr
theorem VR.cj{T':Nat->Prop}{w':World}{d:D}{v:Value}(h:VR ρ w T d v)(hr:cj d=true):VR ρ w' T' d v:=by
 cases d with
 |cA l=>
  obtain⟨vs,rfl,h1⟩:=h
  simp only[Am.cj]at hr
  exact⟨vs,rfl,h1.len,λi x y hx hy=>(h1.at_ i x y hx hy).cj (AM hr x (bN hx))⟩
 |agg s l=>exact sj.cj (d:= .agg s l) h hr
 | _=>exact LR.cj h hr
theorem HN{k:Nat}{d:D}(h:d.eZ=true):(shift k d).eZ=true:=by
 cases d with
 |cI s l e=>simp only[shift];cases s.pure<;>rfl
 |raw v=>exact h
 |agg=>simp[D.eZ]at h
 |cA=>simp[D.eZ]at h
 | _=>rfl
theorem vl(k:Nat):∀(l:List D),(bB k l).length=l.length
 |[]=>rfl
 |d::l=>by simp[bB,vl k l]
theorem AN(k:Nat):∀(l:List D) (i:Nat),(bB k l)[i]?=(l[i]?).map (shift k)
 |[],i=>by simp[bB]
 |d::l,0=>by simp[bB]
 |d::l,i+1=>by simp[bB,AN k l i]
theorem Sx{k:Nat}{l:List D}(h:∀x∈l,∃v,x= .raw v):l.map (shift k)=l:=by
 have:l.map (shift k)=l.map id:=by
  apply acC
  intro x hx
  obtain⟨v,rfl⟩:=h x hx
  simp[shift]
 rw[this,List.map_id]
theorem HO{k:Nat}{s:Sh}{d:D}(h:aL s d):aL s (shift k d)/\(shift k d).flat=d.flat.map (shift k):=by
 induction h with
 |leaf j v hv=>exact⟨by simp only[shift];exact .leaf j v hv,by simp[shift,D.flat]⟩
 |ref d hd=>exact⟨.ref _ (HN hd),by rw[cz hd,cz (HN hd)];rfl⟩
 | agg s l ha hl fJ ih =>
  simp only[shift]
  cases hp:s.pure with
  |true=>
   have hr:=qy (aL.agg s l ha hl fJ) hp
   simp only[aaU]
   exact⟨.agg s l ha hl fJ,(Sx hr).symm⟩
  | false =>
   simp only[aaM]
   refine⟨.agg s _ ha (by rw[vl];exact hl) (λi e d hi hd=>?_),?_⟩
   ·rw[AN]at hd
    cases hx:l[i]? with
    |none=>simp[hx]at hd
    |some x=>
     simp[hx]at hd
     subst hd
     exact(ih i e x hi hx).1
   ·simp only[D.flat]
    have:∀(l:List D),(∀d∈l,(shift k d).flat=d.flat.map (shift k))->aA (bB k l)=(aA l).map (shift k):=by
     intro l
     induction l with
     |nil=>intro _;simp[bB,aA]
     |cons d l ih=>
      intro h
      simp only[bB,aA,acE]
      rw[h d (by simp),ih (λe he=>h e (by simp[he]))]
    refine this l (λd hd=>?_)
    obtain⟨i,hi,rfl⟩:=aa3.1 hd
    obtain⟨e,he⟩:=mL (s:=s) (i:=i) (by omega)
    exact(ih i e _ he (aap hi)).2
theorem Ee{k:Nat}{s:Sh}:∀{l:List D},(∀d∈l,aL s d)->(∀d∈bB k l,aL s d)/\aA (bB k l)=(aA l).map (shift k)
 |[],_=>⟨by simp[bB],by simp[bB,aA]⟩
 |d::l,h=>by
  obtain⟨h1,h2⟩:=Ee (k:=k) (l:=l) (λe he=>h e (by simp[he]))
  obtain⟨h3,h4⟩:=HO (k:=k) (h d (by simp))
  refine⟨λx hx=>?_,by simp[bB,aA,h2,h4]⟩
  simp only[bB,aaW]at hx
  rcases hx with rfl|hx
  ·exact h3
  ·exact h1 x hx
def hU(k:Nat)(ρ ρ':Pl):Pl:=λr=>if r<k then ρ r else ρ' (r-k)
theorem LR.shift{ρ':Pl}{d:D}{v:Value}(k:Nat)(kz:Pl)(h:LR ρ' w T d v):LR (hU k kz ρ') w T (Am.shift k d) v:=by
 induction h with
 |raw v hv=>exact .raw v hv
 |ptr s r p L h1 h2=>exact .ptr s (r+k) p L (by simp[hU,show¬(r+k<k) by omega,h1]) h2
 |sl s r p off len ex L cap h1 h2 h3 h4=>exact .sl s (r+k) p off len ex L cap (by simp[hU,show¬(r+k<k) by omega,h1]) h2 h3 h4
 |Bw s r p off ex a=>exact .Bw s (r+k) p off ex a
 |nX n s r p off L h1 h2=>exact .nX n s (r+k) p off L (by simp[hU,show¬(r+k<k) by omega,h1]) h2
 |mp r L h1 h2=>exact .mp (r+k) L (by simp[hU,show¬(r+k<k) by omega,h1]) h2
 |Fi f s r p L h1 h2=>exact .Fi f s (r+k) p L (by simp[hU,show¬(r+k<k) by omega,h1]) h2
 |om s l b es clock h1 h2 h3 h4=>exact .om s l b es clock h1 h2 h3 h4
 |qj s ex a cap h1 h2=>
  simp only[Am.shift,bB]
  cases s.pure<;>exact .qj s ex a cap h1 h2
 | cI s l ex b o cap f h1 hb h2 h3 h4 h5 ih =>
  simp only[Am.shift]
  cases hp:s.pure with
  |true=>exact .cI s l ex b o cap f h1 hb h2 (λi d hd=>(h3 i d hd).ofRaw (ky h1 hp d (bN hd))) h4 h5
  | false =>
   simp only[aaM]
   obtain⟨g1,g2⟩:=Ee (k:=k) h1
   have hl:=vl k l
   have:LR (hU k kz ρ') w T (.cI s (bB k l) ex) (.slice (some ⟨b,o,none⟩) (bB k l).length cap):=by
    refine .cI s _ ex b o cap f g1 hb (λi d hd=>?_) (λi d hd=>?_) (by omega) (by rw[hl];exact h5)
    ·rw[g2,abu]at hd
     cases hx:(aA l)[i]? with
     |none=>simp[hx]at hd
     |some x=>exact h2 i x hx
    ·rw[g2,abu]at hd
     cases hx:(aA l)[i]? with
     |none=>simp[hx]at hd
     |some x=>
      simp[hx]at hd
      subst hd
      exact ih i x hx
   rwa [hl]at this
 | cd s d b o f h1 hb h2 h3 ih =>
  obtain⟨g1,g2⟩:=HO (k:=k) h1
  simp only[Am.shift]
  refine .cd s _ b o f g1 hb (λi x hx=>?_) (λi x hx=>?_)
  ·rw[g2,abu]at hx
   cases hy:d.flat[i]? with
   |none=>simp[hy]at hx
   |some y=>exact h2 i y hy
  ·rw[g2,abu]at hx
   cases hy:d.flat[i]? with
   |none=>simp[hy]at hx
   |some y=>
    simp[hy]at hx
    subst hx
    exact ih i y hy
theorem bd.shift{ρ':Pl}{l:List D}{cs:List Value}(k:Nat)(kz:Pl)(h:bd (LR ρ' w T) l cs):bd (LR (hU k kz ρ') w T) (l.map (Am.shift k)) cs:=by
 refine⟨by simp[h.len],λi x y hx hy=>?_⟩
 rw[abu]at hx
 cases hz:l[i]? with
 |none=>simp[hz]at hx
 |some z=>
  simp[hz]at hx
  subst hx
  exact(h.at_ i z y hz hy).shift k kz
theorem sj.shift{ρ':Pl}{d:D}{v:Value}(k:Nat)(kz:Pl)(h:sj ρ' w T d v):sj (hU k kz ρ') w T (Am.shift k d) v:=by
 cases d with
 |agg s l=>
  obtain⟨cs,rfl,h1,h2⟩:=h
  obtain⟨g1,g2⟩:=HO (k:=k) h1
  have h3:bd (LR ρ' w T) (D.agg s l).flat cs.toList:=by simpa[D.flat]using h2
  have h4:=h3.shift k kz
  rw[<-g2]at h4
  have ha:=(pI h1).2
  exact sj.O9 g1 ha h4
 |cA l=>cases h
 | _=>exact sj.bH (LR.shift k kz h)
theorem VR.shift{ρ':Pl}{d:D}{v:Value}(k:Nat)(kz:Pl)(h:VR ρ' w T d v):VR (hU k kz ρ') w T (Am.shift k d) v:=by
 cases d with
 | cA l =>
  obtain⟨vs,rfl,h1⟩:=h
  refine⟨vs,rfl,by rw[vl];exact h1.len,λi x y hx hy=>?_⟩
  rw[AN]at hx
  cases hz:l[i]? with
  |none=>simp[hz]at hx
  |some z=>
   simp[hz]at hx
   subst hx
   exact(h1.at_ i z y hz hy).shift k kz
 |agg s l=>exact VR.zz (sj.shift (d:= .agg s l) k kz h)
 | _=>exact VR.bH (LR.shift k kz h)
theorem op_frzb(hs:eQ n ρ T env rows a w)(hG:tZ C ρ w T){o:Oper}{k:D->Rows->Prop}{t e:TypeId}{x:Operand}{x':X}{s:Sh}(ho:o.op= .convert t t x)(ht:P.underlying t=some (.slice e))(he8:P.underlying e=some (.int .u8))(h1:cX x=some x')
  (h:dW C env rows (.Sb s x') k):bO P n o ρ T env rows a w k:=by
 obtain⟨d,he,hk⟩:=au h
 have hv:=bJ h1 he hs hG
 split at hk
 ·rename_i t' r off len ex
  obtain⟨rfl,h0,hk⟩:=hk
  obtain⟨row,hl,hk⟩:=au hk
  obtain⟨hle,hk⟩:=hk
  have mN:LR ρ w T (.sl t' r [] off len ex) _:=hv
  generalize hx:a.eval x=v at mN
  cases mN with
  |Bw=>omega
  | sl _ _ _ _ _ _ L cap hL g1 g2 g3 =>
   have hr:=hs.bE.row r row L hl hL
   obtain⟨cur,tt,⟨fr,c1,c0⟩,c2,c3,c4⟩:=hr.cells (LR.Hu g3)
   let w':World:=w.freeze ⟨L.b,cur.size,none⟩ 1
   have hw':∀b,b≠L.b->w'.heap[b]?=w.heap[b]?:=by
    intro b hb
    show(w.freeze ⟨L.b,cur.size,none⟩ 1).heap[b]?=_
    simp only[World.freeze,Nat.succ_ne_zero,abW,adW]
    rw[aaA (λe=>hb e.symm)]
   have qo:tC w w' L.b:=by
    refine⟨cur,tt,fr,(if fr.1==fr.2 then(cur.size,cur.size+1)else(min fr.1 cur.size,max fr.2 (cur.size+1))),c1,?_,?_⟩
    ·show(w.freeze ⟨L.b,cur.size,none⟩ 1).heap[L.b]?=_
     simp only[World.freeze,Nat.succ_ne_zero,abW,adW,c1]
     simp
    ·split
     ·exact .inr (aaz _)
     ·rename_i hne
      rcases c0 with c0|c0
      ·rw[c0]at hne;simp at hne
      ·exact .inr (by simp;omega)
   have hsz:w'.heap.size=w.heap.size:=by
    show(w.freeze ⟨L.b,cur.size,none⟩ 1).heap.size=_
    simp[World.freeze]
   obtain⟨g4,g5⟩:=hs.mark (w':=w') hl hL hsz hw' qo rfl rfl rfl
   refine qp (v:= .slice (some ⟨L.b,L.off []+off*t'.size,none⟩) len cap) hk g4 g5 (VR.bH (.sl _ _ _ _ _ _ L cap hL g1 g2 g3)) (λ_=>⟨λb hb=>?_,λ_ h=> .inl h⟩) ?_
   ·by_cases e:b=L.b
    ·exact .inr ⟨e▸qo,r,row,L,hl,hL,e.symm⟩
    ·exact .inl (hw' b e)
   ·have hshape:w.shape? L.b=some (tt,cur.size):=by simp[World.shape?,c1]
    simp only[execOp,ho,hx,Sem.run_bind,convert,run_underlying ht,run_underlying he8,Result.andThen_ok,ab3,markStringish]
    simp[shape,freeze,Sem.run,Sem.bind,hshape]
    rfl
 ·exact hk.elim
end Go.Am
namespace Go.Am
variable {C:bf} {P:Program} {n:Nat} {ρ:Pl} {T:Nat->Prop} {env:Env} {rows:Rows} {a:Act} {w:World}
def BN(s:Sh):Prop:=(∃c,s= .leaf c)\/(s.isAgg=true/\od s=true)
theorem ud{t:TypeId}{s:Sh}(h:tY P t s=true):BN s:=by
 unfold tY at h
 split at h
 ·exact .inl ⟨.str,by simpa using h⟩
 ·simp only[aan]at h
  exact .inr ⟨h.1.1.1,h.1.1.2⟩
 ·cases h
theorem Ls:∀{s:Sh} {i:Nat} {e:Sh},od s=true->s.sub i=some e->∃k,e= .leaf k
 | .nil,i,e,_,h=>by simp[Sh.sub]at h
 | .cons (.leaf k) b,0,e,_,h=>by simp[Sh.sub]at h;exact⟨k,h.symm⟩
 | .cons (.leaf k) b,i+1,e,hl,h=>Ls (s:=b) (by simpa[od]using hl) (by simpa[Sh.sub]using h)
 | .cons .ref b,_,_,hl,_| .cons .nil b,_,_,hl,_| .cons (.cons _ _) b,_,_,hl,_| .cons (.ar _ _) b,_,_,hl,_=>by simp[od]at hl
 | .leaf _,_,_,hl,_| .ref,_,_,hl,_| .ar _ _,_,_,hl,_=>by simp[od]at hl
def Pn(l:List D):Prop:=∀x∈l,∃v k,x= .raw v/\oD v k=true
theorem sK{s:Sh}{l:List D}(h:od s=true)(ha:s.isAgg=true)(hs:aL s (.agg s l)):Pn l:=by
 obtain⟨l',e,hlen,fJ⟩:=hs.jN ha
 cases e
 intro x hx
 obtain⟨i,hi,rfl⟩:=aa3.1 hx
 obtain⟨e,he⟩:=mL (s:=s) (i:=i) (by omega)
 obtain⟨k,rfl⟩:=Ls h he
 obtain⟨v,hv,hk⟩:=nB (fJ i _ _ he (aap hi))
 exact⟨v,k,hv,hk⟩
theorem ue:∀{l:List D},Pn l->aA l=l
 |[],_=>rfl
 |x::l,h=>by
  obtain⟨v,k,rfl,_⟩:=h x (by simp)
  simp[aA,D.flat,ue (l:=l) λy hy=>h y (by simp[hy])]
theorem yI:∀{l:List D} {cs:List Value},Pn l->bd (LR ρ w T) l cs->cs=l.map Bz
 |[],cs,_,h=>aaF (by simpa using h.len.symm)
 |x::l,[],_,h=>by simpa using h.len
 |x::l,c::cs,h,hc=>by
  obtain⟨v,k,rfl,_⟩:=h x (by simp)
  have h1:=VR.ofRaw (VR.bH hc.head)
  have h2:=yI (l:=l) (λy hy=>h y (by simp[hy])) hc.tail
  simp[Bz,h1,h2]
theorem U6:∀{l:List D},Pn l->bd (LR ρ w T) l (l.map Bz)
 |[],_=> .nil
 |x::l,h=>by
  obtain⟨v,k,rfl,hk⟩:=h x (by simp)
  exact .cons (.raw v (Hs hk)) (U6 (l:=l) λy hy=>h y (by simp[hy]))
theorem xh{s t:Sh}{l:List D}(h:Pn l):kv (.agg t l)= .agg (l.map Bz).toArray:=by simp[kv,ue h]
theorem aad{s:Sh}{d:D}{v:Value}(h:BN s)(hd:aL s d)(hv:VR ρ w T d v):v=kv d:=by
 rcases h with⟨_,rfl⟩|⟨ha,hl⟩
 ·obtain⟨x,rfl,_⟩:=nB hd
  exact VR.ofRaw hv
 ·obtain⟨l,rfl,_,_⟩:=hd.jN ha
  obtain⟨cs,rfl,_,hc⟩:=hv
  have hr:=sK hl ha hd
  rw[ue hr]at hc
  rw[xh (s:=s) hr,<-yI hr hc]
theorem Po{s:Sh}{d:D}(h:BN s)(hd:aL s d):VR ρ w T d (kv d):=by
 rcases h with⟨_,rfl⟩|⟨ha,hl⟩
 ·obtain⟨x,rfl,hk⟩:=nB hd
  exact VR.raw (Hs hk)
 ·obtain⟨l,rfl,_,_⟩:=hd.jN ha
  have hr:=sK hl ha hd
  rw[xh (s:=s) hr]
  exact⟨_,rfl,hd,by rw[ue hr];simpa using U6 hr⟩
theorem HP{x y:Value}{b:Bool}(h:jF (.raw x) (.raw y)=some b):b=true↔x=y:=by
 cases x<;>cases y<;>simp only[jF]at h<;>try cases h
 ·simp
 ·split at h
  ·rename_i hk;cases h;simp[hk]
  ·cases h
 ·simp
  rename_i p q
  constructor
  ·intro h
   obtain⟨⟨p⟩⟩:=p
   obtain⟨⟨q⟩⟩:=q
   simp[ByteArray.toList_eq]at h
   simpa using h
  ·rintro rfl;rfl
theorem U7:∀{l l':List D} {b:Bool},Pn l->Pn l'->yz l l'=some b->(b=true↔l.map Bz=l'.map Bz)
 |[],[],b,_,_,h=>by simp[yz]at h;simp[<-h]
 |[],_::_,b,_,_,h=>by simp[yz]at h
 | _::_,[],b,_,_,h=>by simp[yz]at h
 | x :: l, y :: l', b, h1, h2, h => by
  obtain⟨u,_,rfl,_⟩:=h1 x (by simp)
  obtain⟨v,_,rfl,_⟩:=h2 y (by simp)
  simp only[yz,y6]at h
  split at h
  ·rename_i t ht
   split at h
   ·rename_i q hq
    cases h
    have e1:=HP ht
    have e2:=U7 (l:=l) (l':=l') (λy hy=>h1 y (by simp[hy])) (λy hy=>h2 y (by simp[hy])) hq
    simp only[aan,abq,Bz,abC,e1,e2]
   ·cases h
  ·cases h
theorem HQ{x y:Value}{k:Sc}(hx:oD x k=true)(hy:oD y k=true):∃b,jF (.raw x) (.raw y)=some b:=by
 cases k<;>cases x<;>simp[oD]at hx<;>cases y<;>simp[oD]at hy
 ·subst hx;subst hy;exact⟨_,by simp only[jF,abX];rfl⟩
 ·exact⟨_,rfl⟩
 ·exact⟨_,rfl⟩
theorem U8:∀{s:Sh} {l l':List D},od s=true->l.length=s.count->l'.length=s.count->(∀i e d,s.sub i=some e->l[i]?=some d->aL e d)->(∀i e d,s.sub i=some e->l'[i]?=some d->aL e d)->∃b,yz l l'=some b
 | .nil,l,l',_,h1,h2,_,_=>by
  have e1:l=[]:=aaF (by simpa[Sh.count]using h1)
  have e2:l'=[]:=aaF (by simpa[Sh.count]using h2)
  exact⟨true,by rw[e1,e2];rfl⟩
 | .cons (.leaf k) b, l, l', hl, h1, h2, h3, h4 => by
  cases l with
  |nil=>simp[Sh.count]at h1
  | cons x l =>
   cases l' with
   |nil=>simp[Sh.count]at h2
   | cons y l' =>
    obtain⟨u,rfl,hu⟩:=nB (h3 0 (.leaf k) x rfl rfl)
    obtain⟨v,rfl,hv⟩:=nB (h4 0 (.leaf k) y rfl rfl)
    obtain⟨t,ht⟩:=HQ hu hv
    obtain⟨q,hq⟩:=U8 (s:=b) (l:=l) (l':=l') (by simpa[od]using hl) (by simpa[Sh.count]using h1) (by simpa[Sh.count]using h2)
     (λi e d he hd=>h3 (i+1) e d (by simpa[Sh.sub]using he) (by simpa using hd)) (λi e d he hd=>h4 (i+1) e d (by simpa[Sh.sub]using he) (by simpa using hd))
    exact⟨t&&q,by simp[yz,y6,ht,hq]⟩
 | .cons .ref b,_,_,hl,_,_,_,_| .cons .nil b,_,_,hl,_,_,_,_| .cons (.cons _ _) b,_,_,hl,_,_,_,_| .cons (.ar _ _) b,_,_,hl,_,_,_,_=>by simp[od]at hl
 | .leaf _,_,_,hl,_,_,_,_| .ref,_,_,hl,_,_,_,_| .ar _ _,_,_,hl,_,_,_,_=>by simp[od]at hl
theorem U9{s:Sh}{x y:D}(h:BN s)(hx:aL s x)(hy:aL s y):∃b,y6 x y=some b/\(b=true↔kv x=kv y):=by
 rcases h with⟨_,rfl⟩|⟨ha,hl⟩
 ·obtain⟨u,rfl,hu⟩:=nB hx
  obtain⟨v,rfl,hv⟩:=nB hy
  obtain⟨b,hb⟩:=HQ hu hv
  exact⟨b,by simpa[y6]using hb,by simpa[kv]using HP hb⟩
 ·obtain⟨l,rfl,h1,h2⟩:=hx.jN ha
  obtain⟨l',rfl,h3,h4⟩:=hy.jN ha
  obtain⟨b,hb⟩:=U8 hl h1 h3 h2 h4
  have r1:=sK hl ha hx
  have r2:=sK hl ha hy
  refine⟨b,by simpa[y6]using hb,?_⟩
  rw[U7 r1 r2 hb,xh (s:=s) r1,xh (s:=s) r2]
  simp
theorem HR{ks vs:Sh}{k:D}(h:BN ks)(hk:aL ks k):∀{l:List D} {o:Option Value},(∀d∈l,aL (qK ks vs) d)->wX k l=some o->
  (∀v,firstM l (kv k) v↔o=some v)
 |[],o,_,hm=>by simp[wX]at hm;subst hm;simp[firstM]
 | d :: l, o, hl, hm => by
  obtain⟨l0,rfl,hlen,fJ⟩:=(hl d (by simp)).jN rfl
  simp only[wX]at hm
  split at hm
  ·rename_i k' v' he
   have Lm:aL ks k':=by
    unfold Fj at he
    split at he
    ·rename_i heq;cases heq;cases he;exact fJ 0 ks _ rfl rfl
    ·cases he
   obtain⟨b,hb,aae⟩:=U9 h hk Lm
   rw[hb]at hm
   intro v
   simp only[firstM,he]
   cases b with
   |true=>
    cases hm
    have e:kv k'=kv k:=(aae.1 rfl).symm
    simp[e]
   |false=>
    have e:¬kv k'=kv k:=λq=>by have:=aae.2 q.symm;cases this
    have ih:=HR h hk (l:=l) (o:=o) (λd hd=>hl d (by simp[hd])) hm v
    simp[e,ih]
  ·cases hm
theorem HT{ks:Sh}{k:D}(hs:ks= .leaf .str)(hk:aL ks k):MapKept.IsKey .string (kv k):=by
 subst hs
 obtain⟨v,rfl,hv⟩:=nB hk
 cases v<;>simp[oD]at hv
 simp[kv,MapKept.IsKey]
def Keys(ks:Sh)(es:List MapEntry):Prop:=∀e∈es,∃kd,aL ks kd/\e.key=kv kd
theorem xj{t:TypeId}{ks:Sh}{k:D}(hok:D5 P 40 t ks=true)(h:BN ks)(hk:aL ks k)(w:World):∀(es:List MapEntry) (i:Nat),Keys ks es->
  ((Instr.findAsking t (kv k) es i).run P w= .ok none w/\∀e∈es,e.key≠kv k)\/∃j e,(Instr.findAsking t (kv k) es i).run P w= .ok (some (i+j,e.val)) w/\es[j]?=some e/\e.key=kv k
 |[],i,_=> .inl ⟨by simp[Instr.findAsking],by simp⟩
 | e :: es, i, hes => by
  obtain⟨kd,Gn,he⟩:=hes e (by simp)
  obtain⟨b,hb,aae⟩:=U9 h hk Gn
  have hq:=yH (P:=P) (ρ:=fE) (w:=w) (T:=λ_=>True) 40 9960 hok hk Gn (Po h hk) (Po h Gn) hb
  have hq':(Op.equal t (kv k) e.key).run P w= .ok b w:=by rw[he];exact hq
  cases b with
  |true=>exact .inr ⟨0,e,by simp[Instr.findAsking,Sem.run_bind,hq',Result.andThen],rfl,by rw[he];exact(aae.1 rfl).symm⟩
  | false =>
   have hne:e.key≠kv k:=λq=>by have:=aae.2 (by rw[<-q,he]);cases this
   rcases xj hok h hk w es (i+1) (λx hx=>hes x (by simp[hx]))with⟨h1,h2⟩|⟨j,e',h1,h2,h3⟩
   ·refine .inl ⟨by simp[Instr.findAsking,Sem.run_bind,hq',Result.andThen,h1],λx hx=>?_⟩
    rcases aaW.1 hx with rfl|hx
    ·exact hne
    ·exact h2 x hx
   ·exact .inr ⟨j+1,e',by simp[Instr.findAsking,Sem.run_bind,hq',Result.andThen,h1];omega,by simpa using h2,h3⟩
theorem Lt{t:TypeId}{ks:Sh}{k:D}(hok:tY P t ks=true)(hk:aL ks k)(w:World)(es:List MapEntry)(hes:Keys ks es):
  ((Instr.findKey t (kv k) es).run P w= .ok none w/\∀e∈es,e.key≠kv k)\/∃j e,(Instr.findKey t (kv k) es).run P w= .ok (some (j,e.val)) w/\es[j]?=some e/\e.key=kv k:=by
 have h:=ud hok
 unfold tY at hok
 split at hok
 ·rename_i hu
  have hs:ks= .leaf .str:=by simpa using hok
  rcases MapKept.findNow_spec (HT hs hk) es 0 (λx hx=>by obtain⟨kd,h1,h2⟩:=hes x hx;rw[h2];exact HT hs h1)with⟨h1,h2⟩|⟨j,e,h1,h2,h3⟩
  ·exact .inl ⟨MapKept.run_findKey hu h1,h2⟩
  ·exact .inr ⟨j,e,by simpa using MapKept.run_findKey (w:=w) hu h1,h2,h3⟩
 ·rename_i fs hu
  simp only[aan]at hok
  cases es with
  |nil=>exact .inl ⟨by simp[Instr.findKey,run_underlying hu,Result.andThen,Instr.findNow],by simp⟩
  | cons e es =>
   have hn:Instr.findNow (.struct fs) (kv k) (e::es) 0=none:=by simp[Instr.findNow,Instr.sameNow]
   have:=xj hok.1.2 h hk w (e::es) 0 hes
   simp only[abE]at this
   have e1:(Instr.findKey t (kv k) (e::es)).run P w=(Instr.findAsking t (kv k) (e::es) 0).run P w:=by
    simp[Instr.findKey,run_underlying hu,Result.andThen,hn]
   rw[e1]
   exact this
 ·cases hok
theorem HU{t:TypeId}(h:D6 P t=true)(em:Bool)(m:Nat)(v:Value)(w:World):(Instr.checkKey em (m+1) t v).run P w= .ok () w:=by
 unfold D6 at h
 split at h
 all_goals first
  |(rename_i hu;unfold Instr.checkKey;simp only[Sem.run_bind,run_underlying hu,Result.andThen_ok];cases v<;>rfl)
  |cases h
theorem vn{t:TypeId}{ks:Sh}{k:D}(hok:tY P t ks=true)(hk:aL ks k)(em:Bool)(w:World):(Instr.checkKey em 10000 t (kv k)).run P w= .ok () w:=by
 unfold tY at hok
 split at hok
 ·rename_i hu
  exact MapKept.run_checkKey hu (HT (by simpa using hok) hk) em 9999
 ·rename_i fs hu
  simp only[aan]at hok
  obtain⟨⟨⟨ha,hl⟩,he⟩,hp⟩:=hok
  obtain⟨l,rfl,hlen,fJ⟩:=hk.jN ha
  have hr:=sK hl ha hk
  have Zl:=Po (ρ:=fE) (w:=w) (T:=λ_=>True) (.inr ⟨ha,hl⟩) hk
  rw[xh (s:=ks) hr]at Zl⊢
  obtain⟨cs,hcs,_,bQ⟩:=Zl
  cases hcs
  have he':(!P.stoodInHeld t&&ks.isAgg&&fs.toList.length==ks.count&&Sf P (D5 P 39) ks 0 fs.toList)=true:=by
   have:=he
   unfold D5 at this
   rw[hu]at this
   exact this
  simp only[aan,acs]at he'
  obtain⟨⟨_,hc⟩,hf⟩:=he'
  rw[show(10000:Nat)=9999+1 from rfl,Instr.checkKey]
  simp only[Sem.run_bind,run_underlying hu,Result.andThen_ok]
  rw[<-Array.forIn_toList]
  have aaf:∀f∈fs.toList,∃v,f.name≠ "_" /\(part f.type (l.map Bz).toArray f.offset).run P w= .ok v w/\D6 P f.type=true:=by
   have key:∀(gs:List Field) (i:Nat),i+gs.length=ks.count->Sf P (D5 P 39) ks i gs=true->(gs.all λf=>D6 P f.type)=true->
     ∀f∈gs,∃v,f.name≠ "_" /\(part f.type (l.map Bz).toArray f.offset).run P w= .ok v w/\D6 P f.type=true:=by
    intro gs
    induction gs with
    |nil=>intro i _ _ _ f hf;simp at hf
    | cons f gs ih =>
     intro i hi hf hp
     simp only[Sf,aan]at hf
     obtain⟨⟨⟨f1,f2⟩,f3⟩,f4⟩:=hf
     simp only[aaP]at hi
     simp only[List.all_cons,aan]at hp
     split at f3
     ·rename_i e hse
      simp only[aan,acs]at f3
      obtain⟨⟨f5,f6⟩,f7⟩:=f3
      obtain⟨va,r1,r2,r3⟩:=HM (P:=P) hk bQ hse (aap (by omega)) f5 f6
      have f1':f.name≠ "_" :=by simpa using f1
      have f2':f.offset=ks.lH i:=by simpa using f2
      intro g hg
      rcases aaW.1 hg with rfl|hg
      ·exact⟨va,f1',by rw[f2'];exact r1,hp.1⟩
      ·exact ih (i+1) (by omega) f4 hp.2 g hg
     ·cases f3
   exact key fs.toList 0 (by omega) hf hp
  generalize fs.toList=L at aaf
  induction L with
  |nil=>simp
  |cons f L ih=>
   obtain⟨v,h1,h2,h3⟩:=aaf f (by simp)
   have h4:=HU h3 em 9998 v w
   simp only[List.forIn_cons,Sem.run_bind,h1,ne_eq,aek,abX,h2,Result.andThen_ok,h4,Sem.run_pure]
   exact ih (λg hg=>aaf g (by simp[hg]))
 ·cases hok
theorem BO{v:Value}{k:Sc}(h:oD v k=true)(m:Nat):Instr.sameBits m v v=true:=by
 cases k<;>cases v<;>simp[oD]at h<;>simp[Instr.sameBits,MapKept.bytes_beq]
theorem Sy{t:TypeId}{ks:Sh}{k:D}(hok:tY P t ks=true)(hk:aL ks k)(w:World):(Instr.keyThatStays (kv k) (kv k)).run P w= .ok (kv k) w:=by
 have hb : Instr.sameBits 10000 (kv k) (kv k) = true := by
  rcases ud hok with⟨_,rfl⟩|⟨ha,hl⟩
  ·obtain⟨v,rfl,hv⟩:=nB hk
   exact BO hv _
  ·obtain⟨l,rfl,hlen,fJ⟩:=hk.jN ha
   have hr:=sK hl ha hk
   rw[xh (s:=ks) hr]
   show(_&&_)=true
   simp only[ab3,abA,aa7]
   intro p hp
   have:∀(l:List D),Pn l->∀p∈(l.map Bz).zip (l.map Bz),Instr.sameBits 9999 p.1 p.2=true:=by
    intro l
    induction l with
    |nil=>intro _ p hp;simp at hp
    | cons x l ih =>
     intro hr p hp
     simp only[abq,List.zip_cons_cons,aaW]at hp
     rcases hp with rfl|hp
     ·obtain⟨v,k,rfl,hk⟩:=hr x (by simp)
      exact BO hk _
     ·exact ih (λy hy=>hr y (by simp[hy])) p hp
   exact this l hr p (by simpa using hp)
 simp[Instr.keyThatStays,hb]
theorem qN.push{s:Sh}{l:List D}{es:Array MapEntry}(h:qN s l es){ks:Sh}{kd d:D}{val:Value}{born:Nat}(hs:s.sub 0=some ks)(hk:aL ks kd)(hd:Fj d=some (kd,val))(hn:∀e∈es.toList,e.key≠kv kd):
  qN s (d::l) (es.push ⟨kv kd,val,born⟩):=by
 refine⟨h.pure,λe he=>?_,?_,λk v=>?_⟩
 ·simp only[ael,aaQ,abf]at he
  rcases he with he|rfl
  ·exact h.key e he
  ·exact⟨kd,ks,hs,hk,rfl⟩
 ·simp only[ael]
  refine List.pairwise_append.2 ⟨h.kx,by simp,λa ha b hb=>?_⟩
  simp only[abf]at hb
  subst hb
  exact hn a ha
 ·simp only[firstM,hd,ael,aaQ,abf]
  constructor
  ·rintro⟨e,he|rfl,h1,h2⟩
   ·exact .inr ⟨λq=>hn e he (by rw[h1,q]),(h.at_ k v).1 ⟨e,he,h1,h2⟩⟩
   ·exact .inl ⟨h1,h2⟩
  ·rintro(⟨h1,h2⟩|⟨h1,h2⟩)
   ·exact⟨_,.inr rfl,h1,h2⟩
   ·obtain⟨e,he,h3⟩:=(h.at_ k v).2 h2
    exact⟨e,.inl he,h3⟩
theorem qN.modify{s:Sh}{l:List D}{es:Array MapEntry}(h:qN s l es){kd d:D}{val:Value}{j:Nat}{e0:MapEntry}(hd:Fj d=some (kd,val))(hj:es[j]?=some e0)(h0:e0.key=kv kd):
  qN s (d::l) (es.modify j λe=>{e with key:=kv kd,val:=val}):=by
 have lK:∀i:Nat,(es.modify j λe=>{e with key:=kv kd,val:=val})[i]?=if j=i then some {e0 with key:=kv kd,val:=val}else es[i]?:=by
  intro i
  rw[adW]
  split
  ·rename_i e;subst e;simp[hj]
  ·rfl
 have Xd:∀e:MapEntry,e∈(es.modify j λe=>{e with key:=kv kd,val:=val}).toList↔∃i:Nat,(es.modify j λe=>{e with key:=kv kd,val:=val})[i]?=some e:=by
  intro e
  rw[List.mem_iff_getElem?]
  simp only[adm]
 have Va:∀e:MapEntry,e∈es.toList↔∃i:Nat,es[i]?=some e:=by
  intro e
  rw[List.mem_iff_getElem?]
  simp
 have hone:∀(i:Nat) (e:MapEntry),es[i]?=some e->e.key=kv kd->i=j:=by
  intro i e hi he
  have hp:=List.pairwise_iff_getElem.1 h.kx
  obtain⟨l1,rfl⟩:=aaX.1 hi
  obtain⟨l2,rfl⟩:=aaX.1 hj
  rcases adO i j with h1|h1|h1
  ·exact absurd (show(es.toList[i]'(by simpa using l1)).key=(es.toList[j]'(by simpa using l2)).key from he.trans h0.symm) (hp i j (by simpa using l1) (by simpa using l2) h1)
  ·exact h1
  ·exact absurd (show(es.toList[j]'(by simpa using l2)).key=(es.toList[i]'(by simpa using l1)).key from h0.trans he.symm) (hp j i (by simpa using l2) (by simpa using l1) h1)
 refine⟨h.pure,λe he=>?_,?_,λk v=>?_⟩
 ·obtain⟨i,hi⟩:=(Xd e).1 he
  rw[lK]at hi
  split at hi
  ·cases hi
   obtain⟨kd',ks,g1,g2,g3⟩:=h.key e0 ((Va _).2 ⟨j,hj⟩)
   exact⟨kd',ks,g1,g2,by rw[<-g3,h0]⟩
  ·exact h.key e ((Va _).2 ⟨i,hi⟩)
 ·have hkeys:(es.modify j λe=>{e with key:=kv kd,val:=val}).toList.map (·.key)=es.toList.map (·.key):=by
   apply aco
   intro i
   simp only[abu,adm,lK]
   split
   ·rename_i e;subst e;simp[hj,h0]
   ·rfl
  have:=h.kx
  rw[<-List.pairwise_map (f:=λe:MapEntry=>e.key) (R:=λa b=>a≠b)]at this⊢
  rw[hkeys]
  exact this
 ·simp only[firstM,hd]
  constructor
  ·rintro⟨e,he,h1,h2⟩
   obtain⟨i,hi⟩:=(Xd e).1 he
   rw[lK]at hi
   split at hi
   ·cases hi;exact .inl ⟨h1,h2⟩
   ·rename_i hne
    exact .inr ⟨λq=>hne (hone i e hi (by rw[h1,q])).symm,(h.at_ k v).1 ⟨e,(Va _).2 ⟨i,hi⟩,h1,h2⟩⟩
  ·rintro(⟨h1,h2⟩|⟨h1,h2⟩)
   ·exact⟨_,(Xd _).2 ⟨j,by rw[lK,aaI rfl]⟩,h1,h2⟩
   ·obtain⟨e,he,h3,h4⟩:=(h.at_ k v).2 h2
    obtain⟨i,hi⟩:=(Va e).1 he
    refine⟨e,(Xd _).2 ⟨i,?_⟩,h3,h4⟩
    rw[lK,aaA]
    ·exact hi
    ·intro q
     subst q
     rw[hj]at hi
     cases hi
     exact h1 (by rw[<-h3,h0])
theorem HV{s:Sh}(h:Fk s=true):BN s:=by
 unfold Fk at h
 split at h
 ·exact .inl ⟨_,rfl⟩
 ·simp only[aan]at h
  exact .inr h
theorem dV_kv{s:Sh}{e:D}(h:BN s)(he:aL s e):dV s (kv e)=e:=by
 rcases h with⟨_,rfl⟩|⟨ha,hl⟩
 ·obtain⟨u,rfl,_⟩:=nB he
  rfl
 ·obtain⟨l,rfl,_,_⟩:=he.jN ha
  have hr:=sK hl ha he
  have e1:(l.map Bz).map D.raw=l:=by
   rw[List.map_map]
   refine(acC λx hx=>?_).trans (List.map_id l)
   obtain⟨v,_,rfl,_⟩:=hr x hx
   rfl
  rw[xh (s:=s) hr]
  cases s<;>simp[Sh.isAgg,od]at ha hl<;>simp[dV,Value.cells]<;>simpa using e1
theorem sj.ofVR{s:Sh}{d:D}{v:Value}(hd:aL s d)(h:VR ρ w T d v):sj ρ w T d v:=by
 cases d with
 |cA l=>cases hd<;>simp_all[D.eZ]
 |agg=>exact h
 | _=>exact h
theorem zero_kv{t:TypeId}{vs:Sh}{z:D}(hk:BN vs)(hs:sh P t=some vs)(hz:zero P t=some z):aL vs z/\∀w,(zeroValue t).run P w= .ok (kv z) w:=by
 obtain⟨h1,v0,h2,h3,h4⟩:=lJ hs hz
 refine⟨h1,?_⟩
 have hv : v0 = kv z := by
  have hb : (match (generalizing := false) v0 with | .agg _ => z.isAgg | .tuple _ => false | _ => !z.isAgg) = true := by
   unfold zero at hz
   split at hz
   ·split at hz
    ·rename_i i hi
     split at hz
     ·rename_i v hv
      obtain⟨HF,hdz⟩:=HE hz
      have hb:=(acY.1 HF).2
      rw[hdz]at hb
      have e0:v0=v:=by
       have:=h2 default
       simp[zeroValue,typeInfo,hi,hv]at this
       exact this.symm
      subst e0
      exact hb
     ·cases hz
    ·cases hz
   ·cases hz
  have h5:=h4 fE default (λ_=>True)
  rcases hk with⟨c,rfl⟩|⟨ha,hl⟩
  ·obtain⟨zx,rfl,hk⟩:=nB h1
   have h6:=yI (l:=[D.raw zx]) (λx hx=>by simp at hx;exact⟨zx,c,hx,hk⟩) (by simpa[D.flat]using h5)
   cases v0<;>simp_all[D.isAgg,Value.cells,Bz,kv]
  ·obtain⟨l,rfl,_,_⟩:=h1.jN ha
   have hr:=sK hl ha h1
   have h6:=yI hr (by simpa[D.flat,ue hr]using h5)
   rw[xh (s:=vs) hr,<-h6]
   cases v0<;>first|(simp[Value.cells];done)|(simp[D.isAgg]at hb)
 rw[<-hv]
 exact h2
theorem HX{ks vs:Sh}:∀{l:List D} {k v:Value},(∀d∈l,aL (qK ks vs) d)->firstM l k v->∃e,aL vs e/\v=kv e
 |[],_,_,_,h=>h.elim
 | d :: l, k, v, hl, h => by
  obtain⟨l0,rfl,hlen,fJ⟩:=(hl d (by simp)).jN rfl
  simp only[firstM]at h
  split at h
  ·rename_i k' v' he
   rcases h with⟨_,rfl⟩|⟨_,h⟩
   ·unfold Fj at he
    split at he
    ·rename_i heq
     cases heq
     cases he
     exact⟨_,fJ 1 vs _ rfl rfl,rfl⟩
    ·cases he
   ·exact HX (λd hd=>hl d (by simp[hd])) h
  ·exact h.elim
theorem AO:∀{s:Sh},od s=true->s.pure=true
 | .nil,_=>rfl
 | .cons (.leaf _) b,h=>by simp[Sh.pure,AO (s:=b) (by simpa[od]using h)]
 | .cons .ref b,h| .cons .nil b,h| .cons (.cons _ _) b,h| .cons (.ar _ _) b,h=>by simp[od]at h
 | .leaf _,h| .ref,h| .ar _ _,h=>by simp[od]at h
theorem aag{t:TypeId}{ks vs:Sh}(hok:tY P t ks=true)(hv:Fk vs=true):(qK ks vs).pure=true:=by
 have h1:ks.pure=true:=by
  rcases ud hok with⟨_,rfl⟩|⟨_,h⟩
  ·rfl
  ·exact AO h
 have h2:vs.pure=true:=by
  rcases HV hv with⟨_,rfl⟩|⟨_,h⟩
  ·rfl
  ·exact AO h
 simp[Sh.pure,h1,h2]
theorem AP{t:TypeId}{ks vs:Sh}(h:O3 P t=some (ks,vs)):∃kt et,P.underlying t=some (.map kt et)/\sh P kt=some ks/\sh P et=some vs/\tY P kt ks=true/\Fk vs=true:=by
 unfold O3 mapT at h
 obtain⟨⟨kt,et⟩,h1,h⟩:=aH h
 split at h1
 ·rename_i hu
  cases h1
  obtain⟨ks',h2,h⟩:=aH h
  obtain⟨vs',h3,h⟩:=aH h
  obtain⟨h4,h⟩:=cK h
  cases h
  simp only[aan]at h4
  exact⟨_,_,hu,h2,h3,h4.1,h4.2⟩
 ·cases h1
section ops
variable (hs:eQ n ρ T env rows a w) (hG:tZ C ρ w T) {o:Oper} {k:D->Rows->Prop}
include hs hG
omit hG in
theorem op_mkm{t kt:TypeId}{ks vs:Sh}(ho:o.op= .makeMap t none)(hok:tY P kt ks=true)(hvs:Fk vs=true)(h:dW C env rows (.mkm ks vs) k):bO P n o ρ T env rows a w k:=by
 obtain⟨g1,g2⟩:=hs.pushMap (w':={w with heap:=w.heap.push (.map #[] 0)}) (qK ks vs) (aag hok hvs) rfl rfl rfl rfl
 refine qp (v:= .map (some w.heap.size)) h g1 g2 (VR.bH (.mp rows.length ⟨w.heap.size,qK ks vs,0,true⟩ (by simp[uX]) rfl)) (λ_=>⟨λb hb=> .inl (ua hb),λ_ h=> .inl h⟩) ?_
 simp only[execOp,ho]
 rfl
theorem op_mset{t kt et:TypeId}{ks vs:Sh}{m x v:Operand}{m' x' v':X}(ho:o.op= .mapUpdate t m x v)(hu:P.underlying t=some (.map kt et))(hok:tY P kt ks=true)(hvs:Fk vs=true)
  (h1:cX m=some m')(h2:cX x=some x')(h3:cX v=some v')(h:dW C env rows (.qI ks vs m' x' v') k):bO P n o ρ T env rows a w k:=by
 obtain⟨dm,he1,hk⟩:=au h
 have hvm:=bJ h1 he1 hs hG
 split at hk
 ·rename_i r
  obtain⟨kd,w9,hk⟩:=au hk
  obtain⟨dv,he3,hk⟩:=au hk
  have hvk:=bJ h2 w9 hs hG
  have hvv:=bJ h3 he3 hs hG
  obtain⟨hf,hfv,hk⟩:=hk
  obtain⟨row,hl,hk⟩:=au hk
  obtain⟨hsh,hk⟩:=hk
  have Xe:=(hvk.cells hf).1
  have hVs:=(hvv.cells hfv).1
  have ek:=aad (ud hok) Xe hvk
  have ev':=aad (HV hvs) hVs hvv
  have Vb:LR ρ w T (.mp r) _:=hvm
  generalize hm:a.eval m=vm at Vb
  cases Vb with
  | mp _ L hL hmp =>
   have hrow:=hs.bE.row r row L hl hL
   obtain⟨es,clock,hb,hR⟩:=hrow.qO hmp
   have aah:Keys ks es.toList:=λe he=>by
    obtain⟨kd',ks',g1,g2,g3⟩:=hR.key e he
    rw[hsh]at g1
    cases g1
    exact⟨kd',g2,g3⟩
   have gP:∀d∈D.agg (qK ks vs) [kd,dv]::row.els,aL row.sh d:=by
    intro d hd
    rcases aaW.1 hd with rfl|hd
    ·rw[hsh]
     refine .agg _ _ rfl rfl λi e d hi hd=>?_
     match i,hi,hd with
     |0,hi,hd=>simp[Sh.sub]at hi hd;subst hi;subst hd;exact Xe
     |1,hi,hd=>simp[Sh.sub]at hi hd;subst hi;subst hd;exact hVs
     |i+2,hi,hd=>simp[Sh.sub]at hi
    ·exact hrow.els d hd
   have hlt:L.b<w.heap.size:=hrow.lt
   have fin:∀es' clock',qN row.sh (D.agg (qK ks vs) [kd,dv]::row.els) es'->(Instr.mapUpdate t (.map (some L.b)) (kv kd) (kv dv)).run P w= .ok () {w with heap:=w.heap.setIfInBounds L.b (.map es' clock')}->bO P n o ρ T env rows a w k:=by
    intro es' clock' UX hrun
    obtain⟨u1,u2⟩:=hs.ZR (w':={w with heap:=w.heap.setIfInBounds L.b (.map es' clock')}) hl hL _ es' clock' hmp gP UX (by simp[hlt]) (λb hb=>by simp[abT hb]) (by simp) rfl rfl rfl
    refine⟨_,_,ρ,T,undef,_,hk,u1,u2,?_,.inr ⟨?_,rfl⟩,λhq=>by rw[ho]at hq;cases hq⟩
    ·exact⟨#[],rfl,.nil⟩
    ·simp[execOp,ho,hm,ek,ev',hrun]
   rcases Lt hok Xe w es.toList aah with⟨q1,q2⟩|⟨j,e,q1,q2,q3⟩
   ·refine fin _ (clock+1) (hR.push (born:=clock) (by rw[hsh];rfl) Xe rfl q2) ?_
    simp[Instr.mapUpdate,run_underlying hu,MapKept.run_getObj_map hb,vn hok Xe,q1,MapKept.run_setObj_map _ hb,Result.andThen]
   ·have q2':es[j]?=some e:=by simpa using q2
    refine fin _ clock (hR.modify (d:= .agg (qK ks vs) [kd,dv]) rfl q2' q3) ?_
    simp[Instr.mapUpdate,run_underlying hu,MapKept.run_getObj_map hb,vn hok Xe,q1,q2',q3,Sy hok Xe,MapKept.run_setObj_map _ hb,Result.andThen]
 ·exact hk.elim
theorem op_mget{t kt et:TypeId}{ks vs:Sh}{ok:Bool}{z:D}{m x:Operand}{m' x':X}(ho:o.op= .lookup t m x ok)(hu:P.underlying t=some (.map kt et))(hok:tY P kt ks=true)(hse:sh P et=some vs)(hz:zero P et=some z)(hzf:z.fits vs=true)(hvs:Fk vs=true)
  (h1:cX m=some m')(h2:cX x=some x')(h:dW C env rows (.Ku ks vs ok z m' x') k):bO P n o ρ T env rows a w k:=by
 obtain⟨dm,he1,hk⟩:=au h
 obtain⟨kd,w9,hk⟩:=au hk
 obtain⟨hf,hk⟩:=hk
 obtain⟨els,gP,hk⟩:=au hk
 obtain⟨r,hr,hk⟩:=au hk
 have hvm:=bJ h1 he1 hs hG
 have hvk:=bJ h2 w9 hs hG
 have Xe:=(hvk.cells hf).1
 have ek:=aad (ud hok) Xe hvk
 have bQ : ∃ b es clock, a.eval m = .map (some b) /\ w.heap[b]? = some (.map es clock) /\ qN (qK ks vs) els es /\ ∀ d ∈ els, aL (qK ks vs) d := by
  unfold D4 at gP
  split at gP
  ·rename_i r' RP
   split at gP
   ·rename_i row hl
    have Vb:LR ρ w T (.mp r') _:=hvm
    generalize hm:a.eval m=vm at Vb
    cases Vb with
    | mp _ L hL hmp =>
     have hrow:=hs.bE.row r' row L hl hL
     obtain⟨es,clock,hb,hR⟩:=hrow.qO hmp
     cases hq:(row.sh==qK ks vs)with
     |false=>simp[hq]at gP
     |true=>
      have hsh:row.sh=qK ks vs:=by simpa using hq
      simp[hq]at gP
      subst gP
      exact⟨L.b,es,clock,rfl,hb,by rw[<-hsh];exact hR,λd hd=>by rw[<-hsh];exact hrow.els d hd⟩
   ·cases gP
  ·rename_i s' l' RP
   have Vb:LR ρ w T (.om s' l') _:=hvm
   generalize hm:a.eval m=vm at Vb
   cases Vb with
   | om _ _ b es clock g1 g2 g3 g4 =>
    cases hq:(s'==qK ks vs)with
    |false=>simp[hq]at gP
    |true=>
     have hsh:s'=qK ks vs:=by simpa using hq
     simp[hq]at gP
     subst gP
     exact⟨b,es,clock,rfl,g3,by rw[<-hsh];exact g4,λd hd=>by rw[<-hsh];exact g1 d hd⟩
  ·cases gP
 obtain⟨b,es,clock,hm,hb,hR,hE⟩:=bQ
 have hspec:=HR (ud hok) Xe hE hr
 have aah:Keys ks es.toList:=λe he=>by
  obtain⟨kd',ks',g1,g2,g3⟩:=hR.key e he
  cases g1
  exact⟨kd',g2,g3⟩
 have hKv:=HV hvs
 obtain⟨Sz,z2⟩:=zero_kv hKv hse hz
 rcases Lt hok Xe w es.toList aah with⟨q1,q2⟩|⟨j,e,q1,q2,q3⟩
 ·have hnone:r=none:=by
   cases r with
   |none=>rfl
   |some v=>
    obtain⟨e,he,h3,_⟩:=(hR.at_ _ _).2 ((hspec v).2 rfl)
    exact absurd h3 (q2 e he)
  subst hnone
  have hrun:(Instr.lookup t (.map (some b)) (kv kd) ok).run P w= .ok (if ok then .tuple #[kv z,.bool false]else kv z) w:=by
   simp[Instr.lookup,run_underlying hu,MapKept.run_getObj_map hb,vn hok Xe,q1,z2,Result.andThen]
  have hvz:VR ρ w T z (kv z):=Po hKv Sz
  cases ok with
  |false=>
   refine .here hs hk (v:=kv z) hvz ?_
   simp[execOp,ho,hm,ek,hrun]
  |true=>
   refine .here hs hk (v:= .tuple #[kv z,.bool false]) ⟨_,rfl,.cons (sj.ofVR Sz hvz) (.cons (sj.bH (.raw _ rfl)) .nil)⟩ ?_
   simp[execOp,ho,hm,ek,hrun]
 ·have hsome:r=some e.val:=(hspec e.val).1 ((hR.at_ _ _).1 ⟨e,bN q2,q3,rfl⟩)
  subst hsome
  obtain⟨d,hd1,tD⟩:=HX hE ((hR.at_ _ _).1 ⟨e,bN q2,q3,rfl⟩)
  have hvd:VR ρ w T (dV vs e.val) e.val:=by rw[tD,dV_kv hKv hd1];exact Po hKv hd1
  have M4:aL vs (dV vs e.val):=by rw[tD,dV_kv hKv hd1];exact hd1
  have hrun:(Instr.lookup t (.map (some b)) (kv kd) ok).run P w= .ok (if ok then .tuple #[e.val,.bool true]else e.val) w:=by
   simp[Instr.lookup,run_underlying hu,MapKept.run_getObj_map hb,vn hok Xe,q1,Result.andThen]
  cases ok with
  |false=>
   refine .here hs hk (v:=e.val) hvd ?_
   simp[execOp,ho,hm,ek,hrun]
  |true=>
   refine .here hs hk (v:= .tuple #[e.val,.bool true]) ⟨_,rfl,.cons (sj.ofVR M4 hvd) (.cons (sj.bH (.raw _ rfl)) .nil)⟩ ?_
   simp[execOp,ho,hm,ek,hrun]
end ops
end Go.Am
namespace Go.Am
variable {C:bf} {P:Program} {n:Nat} {ρ:Pl} {T:Nat->Prop} {env:Env} {rows:Rows} {a:Act} {w:World}
theorem kU{α β:Type}{f:α->Option β}:∀{l:List α} {l':List β},dU f l=some l'->l'.length=l.length/\∀(i:Nat) (x:α) (y:β),l[i]?=some x->l'[i]?=some y->f x=some y
 |[],l',h=>by simp[dU]at h;subst h;simp
 | x :: l, l', h => by
  simp only[dU]at h
  split at h
  ·rename_i y hy
   split at h
   ·rename_i ys hys
    cases h
    obtain⟨h1,h2⟩:=kU hys
    refine⟨by simp[h1],λi a b ha hb=>?_⟩
    cases i with
    |zero=>simp at ha hb;subst ha;subst hb;exact hy
    |succ i=>exact h2 i a b (by simpa using ha) (by simpa using hb)
   ·cases h
  ·cases h
theorem vo{f:D->Option D}{R:D->Value->Prop}:∀{l l':List D} {cs:List Value},dU f l=some l'->bd (LR ρ w T) (aA l) cs->
  (∀d∈l,∃s,aL s d)->(∀d∈l,∀d' s cs,f d=some d'->aL s d->bd (LR ρ w T) d.flat cs->aL s d'/\bd R d'.flat cs)->bd R (aA l') cs
 |[],l',cs,h,hc,_,_=>by
  simp[dU]at h;subst h
  have:cs=[]:=aaF (by simpa[aA]using hc.len.symm)
  subst this
  exact .nil
 | x :: l, l', cs, h, hc, hs, hf => by
  simp only[dU]at h
  split at h
  ·rename_i y hy
   split at h
   ·rename_i ys hys
    cases h
    simp only[aA]at hc⊢
    obtain⟨s,hsx⟩:=hs x (by simp)
    have h1:=hc.take x.flat.length
    have h2:=hc.drop x.flat.length
    rw[aa0]at h1
    rw[abe]at h2
    obtain⟨g1,g2⟩:=hf x (by simp) y s _ hy hsx h1
    have g3:=vo hys h2 (λd hd=>hs d (by simp[hd])) (λd hd=>hf d (by simp[hd]))
    have:=g2.append g3
    rwa [aa5]at this
   ·cases h
  ·cases h
theorem jY.aai(h:jY ρ rows w T){s:Sh}{r:Nat}{p:List Nat}{v:Value}{row:Row}{d:D}(hv:LR ρ w T (.ptr s r p) v)(hl:live rows r=some row)(hg:dC row.els p=some d):
  ∃b o cs,v= .pointer (some ⟨b,o,none⟩)/\aL s d/\bd (LR ρ w T) d.flat cs/\At w b o cs/\So ρ T rows b:=by
 cases hv with
 |ptr _ _ _ L hL hp=>
  obtain⟨b,o,cs,h1,h2,h3,h4⟩:=h.M2 (.ptr s r p L hL hp) hl hg
  cases h1
  exact⟨L.b,L.off p,cs,rfl,h2,h3,h4,.inr ⟨r,row,L,hl,hL,rfl⟩⟩
theorem AQ (hr : jY ρ rows w T) : ∀ (k : Nat) (d d' : D) (s : Sh) (cs : List Value), view rows k d = some d' -> aL s d -> bd (LR ρ w T) d.flat cs ->
  aL s d'/\bd (LR fE w (So ρ T rows)) d'.flat cs
 |0,d,d',s,cs,h,_,_=>by simp[view]at h
 | k + 1, d, d', s, cs, h, hsh, hc => by
  have ih:=λd d' s cs=>AQ hr k d d' s cs
  cases d with
  |raw v=>
   simp[view]at h
   subst h
   exact⟨hsh,hc.ofRaw (by simp[D.flat])⟩
  |nX=>simp[view]at h
  |Fi=>simp[view]at h
  | ptr t r p =>
   have vT:(D.ptr t r p).eZ=true:=rfl
   rw[cz vT]at hc
   have xn:=hc.len
   match cs,xn with
   | [v], _ =>
    have hv:=hc.head
    have BP:s= .ref:=by
     cases hsh with
     |ref=>rfl
    subst BP
    simp only[view]at h
    split at h
    ·rename_i row hl
     split at h
     ·rename_i d0 hg
      obtain⟨b,o',cs',hx,m1,m2,m3⟩:=hr.aai hv hl hg
      cases hp:t.pure with
      |true=>
       simp[hp]at h
       subst h
       refine⟨.ref _ rfl,?_⟩
       rw[cz rfl,hx]
       exact bd.single (LR.AH m1 m3.2 (m2.ofRaw (qy m1 hp)) m3.1)
      | false =>
       simp only[hp,aaM]at h
       split at h
       ·rename_i d1 hd1
        cases h
        obtain⟨q1,q2⟩:=ih d0 d1 t cs' hd1 m1 m2
        refine⟨.ref _ rfl,?_⟩
        rw[cz rfl,hx]
        exact bd.single (LR.AH q1 m3.2 q2 m3.1)
       ·cases h
     ·cases h
    ·cases h
  | cd d0 =>
   have vT:(D.cd d0).eZ=true:=rfl
   rw[cz vT]at hc
   have xn:=hc.len
   match cs,xn with
   | [v], _ =>
    have hv:=hc.head
    simp only[view]at h
    cases hh:aR d0 with
    |true=>simp[hh]at h
    |false=>
     simp[hh]at h
     subst h
     refine⟨hsh,?_⟩
     rw[cz vT]
     exact bd.single ((hv.closed hh).mono (λ_ _ e=>e) (λ_ _=>rfl) (λ_ hb=> .inl hb))
  |cA=>simp[view]at h
  | mp r =>
   have vT:(D.mp r).eZ=true:=rfl
   rw[cz vT]at hc
   have xn:=hc.len
   match cs,xn with
   | [v], _ =>
    have hv:=hc.head
    have BP:s= .ref:=by
     cases hsh with
     |ref=>rfl
    subst BP
    simp only[view]at h
    split at h
    ·rename_i row hl
     cases h
     refine⟨.ref _ rfl,?_⟩
     rw[cz rfl]
     cases hv with
     |mp _ L hL hm=>
      have hrow:=hr.row r row L hl hL
      obtain⟨es,clock,h1,h2⟩:=hrow.qO hm
      exact bd.single (.om _ _ _ es clock hrow.els (.inr ⟨r,row,L,hl,hL,rfl⟩) h1 h2)
    ·cases h
  | om t l =>
   have vT:(D.om t l).eZ=true:=rfl
   rw[cz vT]at hc
   have xn:=hc.len
   match cs,xn with
   | [v], _ =>
    have hv:=hc.head
    have BP:s= .ref:=by
     cases hsh with
     |ref=>rfl
    subst BP
    simp only[view]at h
    cases h
    refine⟨.ref _ rfl,?_⟩
    rw[cz rfl]
    cases hv with
    |om _ _ b es clock h1 hb h2 h3=>exact bd.single (.om _ _ _ es clock h1 (.inl hb) h2 h3)
  | agg t l =>
   obtain⟨rfl,ha⟩:=pI hsh
   simp only[view]at h
   cases hp:s.pure with
   |true=>
    simp[hp]at h
    subst h
    exact⟨hsh,hc.ofRaw (qy hsh hp)⟩
   | false =>
    simp only[hp,aaM]at h
    split at h
    ·rename_i l' nV
     cases h
     obtain⟨l2,e2,hlen,fJ⟩:=hsh.jN ha
     cases e2
     obtain⟨g1,g2⟩:=kU nV
     have hex:∀d∈l,∃e,aL e d:=by
      intro d hd
      obtain⟨i,hi,rfl⟩:=aa3.1 hd
      obtain⟨e,he⟩:=mL (s:=s) (i:=i) (by omega)
      exact⟨e,fJ i e _ he (aap hi)⟩
     simp only[D.flat]at hc
     have hc2:=vo (R:=LR fE w (So ρ T rows)) nV hc hex (λd _ d' s cs h1 h2 h3=>ih d d' s cs h1 h2 h3)
     refine⟨.agg s l' ha (by omega) (λi e d' hi j9=>?_),by simpa[D.flat]using hc2⟩
     have HY:i<l.length:=by have:=dA j9;omega
     have hd:=aap HY
     have hv:=g2 i _ d' hd j9
     have n9:=fJ i e _ hi hd
     obtain⟨q1,q2,q3⟩:=hsh.part ha hi
     --its own cells
     have aaj:∃c,bd (LR ρ w T) (l[i]).flat c:=by
      rw[fW hd]at hc
      have:=(hc.drop (aA (l.take i)).length).take (l[i]).flat.length
      rw[abe,aa0]at this
      exact⟨_,this⟩
     obtain⟨c,Zm⟩:=aaj
     exact(ih _ _ e c hv n9 Zm).1
    ·cases h
  | cI t l ex =>
   have vT:(D.cI t l ex).eZ=true:=rfl
   rw[cz vT]at hc
   have xn:=hc.len
   match cs,xn with
   | [v], _ =>
    have hv:=hc.head
    have BP:s= .ref:=by
     cases hsh with
     |ref=>rfl
    subst BP
    have key:∀l',(∀d∈l',aL t d)->l'.length=l.length->(∀c,bd (LR ρ w T) (aA l) c->bd (LR fE w (So ρ T rows)) (aA l') c)->d'= .cI t l' ex->aL .ref d'/\bd (LR fE w (So ρ T rows)) d'.flat [v]:=by
     intro l' h1 h2 h3 h4
     subst h4
     refine⟨.ref _ rfl,?_⟩
     rw[cz rfl]
     refine bd.single ?_
     cases hv with
     |qj _ _ ad cap c1 c2=>
      have:l'=[]:=aaF (by simpa using h2)
      subst this
      exact .qj _ _ _ _ c1 c2
     |cI _ _ _ b o' cap f c1 hb c2 c3 c4 c5=>
      obtain⟨q1,q2⟩:=BG (d:=default) c2 c3
      rw[<-h2]
      exact LR.Pa h1 (.inl hb) (h3 _ q1) q2 (by omega) (by rw[h2];exact c5)
    have gP:∀d∈l,aL t d:=by
     cases hv with
     |qj=>simp
     |cI _ _ _ _ _ _ _ c1=>exact c1
    simp only[view]at h
    cases hp:t.pure with
    |true=>
     simp[hp]at h
     exact key l gP rfl (λc hc=>hc.ofRaw (ky gP hp)) h.symm
    | false =>
     simp only[hp,aaM]at h
     split at h
     ·rename_i l' nV
      cases h
      obtain⟨g1,g2⟩:=kU nV
      refine key l' (λd' j9=>?_) g1 (λc hc=>vo (R:=LR fE w (So ρ T rows)) nV hc (λd hd=>⟨t,gP d hd⟩) (λd _ d' s cs h1 h2 h3=>ih d d' s cs h1 h2 h3)) rfl
      obtain⟨i,hi,rfl⟩:=aa3.1 j9
      have HY:i<l.length:=by omega
      have hd:=aap HY
      have hv2:=g2 i _ _ hd (aap hi)
      have aaj:∃c,bd (LR ρ w T) (l[i]).flat c:=by
       cases hv with
       |qj=>simp at HY
       |cI _ _ _ b o' cap f c1 hb c2 c3 c4 c5=>
        obtain⟨q1,q2⟩:=BG (d:=default) c2 c3
        rw[fW hd]at q1
        have:=(q1.drop (aA (l.take i)).length).take (l[i]).flat.length
        rw[abe,aa0]at this
        exact⟨_,this⟩
      obtain⟨c,Zm⟩:=aaj
      exact(ih _ _ t c hv2 (gP _ (abz HY)) Zm).1
     ·cases h
  | sl t r p off len ex =>
   have vT:(D.sl t r p off len ex).eZ=true:=rfl
   rw[cz vT]at hc
   have xn:=hc.len
   match cs,xn with
   | [v], _ =>
    have hv:=hc.head
    have BP:s= .ref:=by
     cases hsh with
     |ref=>rfl
    subst BP
    simp only[view]at h
    split at h
    ·rename_i l hl
     cases HD:(l.length==len)with
     |false=>rw[HD]at h;simp at h
     | true =>
      rw[HD]at h
      simp only[aa8,aaM]at h
      have hlen:l.length=len:=by simpa using HD
      obtain⟨ad,cap,c,hH⟩:=hr.holds (s:=t) hv hl rfl hlen (by simp[fa])
      have hexc:ex=true->cap=len:=by
       intro hx
       have mN:=hv
       rw[hH.hv]at mN
       cases mN with
       |sl _ _ _ _ _ _ _ _ _ _ c2 _=>exact c2 hx
       |Bw=>rfl
      have key:∀l',(∀d∈l',aL t d)->l'.length=l.length->bd (LR fE w (So ρ T rows)) (aA l') c->d'= .cI t l' ex->aL .ref d'/\bd (LR fE w (So ρ T rows)) d'.flat [v]:=by
       intro l' h1 h2 h3 h4
       subst h4
       refine⟨.ref _ rfl,?_⟩
       rw[cz rfl,hH.hv]
       refine bd.single ?_
       by_cases hz:len=0
       ·have:l'=[]:=aaF (by omega)
        subst this
        rw[hz]
        exact .qj _ _ _ _ (λhx=>by rw[hexc hx,hz]) hH.nil
       ·obtain⟨b,o',Zh,hB⟩:=hH.adr hz
        have Ko:At w b o' c:=by
         intro j x hx
         obtain⟨b2,o2',e1,e2⟩:=hH.at_ j x hx
         rw[Zh]at e1
         cases e1
         exact e2
        rw[Zh]
        have e:len=l'.length:=by omega
        have hcap:=hH.hcap
        rw[e]
        exact LR.Pa h1 hB h3 Ko (by omega) (λhx=>by rw[hexc hx,e])
      cases hp:t.pure with
      |true=>
       simp[hp]at h
       exact key l hH.els rfl (hH.hcs.ofRaw (ky hH.els hp)) h.symm
      | false =>
       simp only[hp,aaM]at h
       split at h
       ·rename_i l' nV
        cases h
        obtain⟨g1,g2⟩:=kU nV
        refine key l' (λd' j9=>?_) g1 (vo (R:=LR fE w (So ρ T rows)) nV hH.hcs (λd hd=>⟨t,hH.els d hd⟩) (λd _ d' s cs h1 h2 h3=>ih d d' s cs h1 h2 h3)) rfl
        obtain⟨i,hi,rfl⟩:=aa3.1 j9
        have HY:i<l.length:=by omega
        have hd:=aap HY
        have hv2:=g2 i _ _ hd (aap hi)
        have aaj:∃c,bd (LR ρ w T) (l[i]).flat c:=by
         have q1:=hH.hcs
         rw[fW hd]at q1
         have:=(q1.drop (aA (l.take i)).length).take (l[i]).flat.length
         rw[abe,aa0]at this
         exact⟨_,this⟩
        obtain⟨cc,Zm⟩:=aaj
        exact(ih _ _ t cc hv2 (hH.els _ (abz HY)) Zm).1
       ·cases h
    ·cases h
theorem Na(hr:jY ρ rows w T){k:Nat}{d d':D}{v:Value}(h:view rows k d=some d')(hv:VR ρ w T d v):VR fE w (So ρ T rows) d' v:=by
 cases d with
 |agg s l=>
  obtain⟨cs,rfl,h1,h2⟩:=hv
  obtain⟨g1,g2⟩:=AQ hr k _ d' s cs.toList h h1 (by simpa[D.flat]using h2)
  exact VR.zz (sj.O9 g1 (pI h1).2 g2)
 |cA l=>cases k<;>simp[view]at h
 | _=>
  have hl:=LR.leaf hv
  obtain⟨g1,g2⟩:=AQ hr k _ d' .ref [v] h (.ref _ hl) (by rw[cz hl];exact bd.single hv)
  have nV:=g1.qM rfl
  rw[cz nV]at g2
  exact VR.bH g2.head
structure Ef (K:D->Rows->Prop) (ρ:Pl) (T:Nat->Prop) (rows:Rows) (w:World) (e:Ending) (w':World):Prop where
 ex:∃v d aa ρ' T',e= .returned v/\K d aa/\jY ρ' aa w' T'/\(∀r,aa.length<=r->ρ' r=none)/\(∀b,T' b->b<w'.heap.size)/\Step ρ T rows w ρ' T' aa w'/\VR ρ' w' T' d v
def aN(G:Nat->Option D)(P:Program)(f:FuncId)(A:lI):Prop:=
 ∀ds rows K,A ds rows K->∀(ρ:Pl) (w:World) (T:Nat->Prop) (args:Array Value),jY ρ rows w T->(∀r,rows.length<=r->ρ r=none)->(∀b,T b->b<w.heap.size)->
  bd (VR ρ w T) ds args.toList->(∀g d,G g=some d->LR fE w T (.cd d) (.pointer (some ⟨g,0,none⟩)))->Calls P f args w (Ef K ρ T rows w)
def Fn.run(F:Fn):lI:=λds rows K=>bn (F ds rows) λr=>K r.1 r.2
structure BackQ (K:D->Rows->Prop) (ρ:Pl) (T:Nat->Prop) (rows:Rows) (w:World) (e:Ending) (w':World):Prop where
 ex:∃v d aa ρ' T',e= .returned v/\K d aa/\jY ρ' aa w' T'/\(∀r,aa.length<=r->ρ' r=none)/\(∀b,T' b->b<w'.heap.size)/\Step ρ T rows w ρ' T' aa w'/\VR ρ' w' T' d v/\QH ρ rows w w'/\∀b,T' b->T b\/w.heap.size<=b
def HZ(G:Nat->Option D)(P:Program)(f:FuncId)(A:lI):Prop:=
 ∀ds rows K,A ds rows K->∀(ρ:Pl) (w:World) (T:Nat->Prop) (args:Array Value),jY ρ rows w T->(∀r,rows.length<=r->ρ r=none)->(∀b,T b->b<w.heap.size)->
  bd (VR ρ w T) ds args.toList->(∀g d,G g=some d->LR fE w T (.cd d) (.pointer (some ⟨g,0,none⟩)))->Calls P f args w (BackQ K ρ T rows w)
def aJ(C:bf)(P:Program):Prop:=(∀f F,C.fn f=some F->aN C.aX P f (Fn.run F))/\(∀f A,C.fy f=some A->aN C.aX P f A)/\(∀f q,C.UQ f=some q->HZ C.aX P f (MX q))
theorem aJ.quiet{C:bf}{P:Program}(h:aJ C P):aJ C.quiet P:=⟨h.1,(λf A hA=>by cases hA),h.2.2⟩
end Go.Am
namespace Go.Am
variable {C:bf} {P:Program} {n:Nat} {ρ:Pl} {T:Nat->Prop} {env:Env} {rows:Rows} {a:Act} {w:World}
theorem tF(k:Nat):∀(l:Rows),(ab k l).length=l.length
 |[]=>rfl
 |some ⟨s,els⟩::l=>by simp[ab,tF k l]
 |none::l=>by simp[ab,tF k l]
theorem AR(k:Nat):∀(l:Rows) (r:Nat) (row:Row),live (ab k l) r=some row->∃row',live l r=some row'/\row=⟨row'.sh,bif row'.sh.pure then row'.els else bB k row'.els⟩
 |[],r,row,h=>by simp[ab,live]at h
 |some ⟨s,els⟩::l,0,row,h=>by
  simp[ab,live]at h
  exact⟨⟨s,els⟩,by simp[live],h.symm⟩
 |some ⟨s,els⟩::l,r+1,row,h=>by
  have:=AR k l r row (by simpa[ab,live]using h)
  simpa[live]using this
 |none::l,0,row,h=>by simp[ab,live]at h
 |none::l,r+1,row,h=>by
  have:=AR k l r row (by simpa[ab,live]using h)
  simpa[live]using this
theorem Lu(hs:eQ n ρ T env rows a w){ρ':Pl}{T0 T' Zg:Nat->Prop}{aa:Rows}{w':World}(hst:Step fE T0 [] w ρ' T' aa w')(mF:∀r,aa.length<=r->ρ' r=none)
  (hdist:∀r r' row row' L L',live aa r=some row->live aa r'=some row'->ρ' r=some L->ρ' r'=some L'->r≠r'->L.b≠L'.b)
  (t1:∀b,T b->Zg b)(t2:∀b,Zg b->T b\/w.heap.size<=b)(t3:∀b,Zg b->b<w'.heap.size)
  (jr:∀r row L,live aa r=some row->ρ' r=some L->nu (hU rows.length ρ ρ') ⟨row.sh,bif row.sh.pure then row.els else bB rows.length row.els⟩ L w' Zg):
  eQ n (hU rows.length ρ ρ') Zg env (rows++ab rows.length aa) a w'/\Step ρ T rows w (hU rows.length ρ ρ') Zg (rows++ab rows.length aa) w':=by
 have hkeep:∀b,b<w.heap.size->w'.heap[b]?=w.heap[b]?:=λb hb=>hst.keep b hb (by intro r row L hl;simp[live]at hl)
 have hTw:∀b,T b->w'.heap[b]?=w.heap[b]?:=λb hb=>hkeep b (hs.wC b hb)
 have tV:∀r L,ρ r=some L->hU rows.length ρ ρ' r=some L:=by
  intro r L hL
  have:r<rows.length:=by
   rcases aaZ r rows.length with h|h
   ·exact h
   ·rw[hs.wD r h]at hL;cases hL
  simp[hU,this,hL]
 have hnb:∀r row L,live aa r=some row->ρ' r=some L->w.heap.size<=L.b:=by
  intro r row L h1 h2
  rcases hst.fresh r row L h1 h2 with⟨r0,qP,L0,h3,_⟩|h3
  ·simp[live]at h3
  ·exact h3
 have AG:∀r row L,live (rows++ab rows.length aa) r=some row->hU rows.length ρ ρ' r=some L->
   (r<rows.length/\live rows r=some row/\ρ r=some L)\/(rows.length<=r/\∃row',live aa (r-rows.length)=some row'/\ρ' (r-rows.length)=some L/\row=⟨row'.sh,bif row'.sh.pure then row'.els else bB rows.length row'.els⟩):=by
  intro r row L h1 h2
  by_cases hr:r<rows.length
  ·left
   refine⟨hr,?_,by simpa[hU,hr]using h2⟩
   unfold live at h1⊢
   rwa [aaN hr]at h1
  ·right
   have h1':live (ab rows.length aa) (r-rows.length)=some row:=by
    unfold live at h1⊢
    rwa [aaO (by omega)]at h1
   obtain⟨row',h3,h4⟩:=AR _ _ _ _ h1'
   exact⟨by omega,row',h3,by simpa[hU,hr]using h2,h4⟩
 refine⟨⟨⟨?_,?_⟩,hs.env.mono tV hTw t1,hs.size,t3,?_,hs.defers⟩,⟨tV,t1,λb hb=>(t2 b hb).imp_right .inl,hst.size,λb hb _=>hkeep b hb,?_,hst.os,hst.tape,hst.output,by simp,λr hr=>by simp[hU,hr]⟩⟩
 ·intro r row L h1 h2
  rcases AG r row L h1 h2 with⟨h3,h4,h5⟩|⟨h3,row',h4,h5,rfl⟩
  ·have hr:=hs.bE.row r row L h4 h5
   refine hr.mono tV hTw t1 (hkeep _ hr.lt) (λh=>?_)
   rcases t2 _ h with h|h
   ·exact hr.nZ h
   ·have:=hr.lt;omega
  ·exact jr _ row' L h4 h5
 ·intro r r' row row' L L' h1 h2 h3 h4 hne
  rcases AG r row L h1 h3 with⟨g1,g2,g3⟩|⟨g1,q1,g2,g3,_⟩
  ·rcases AG r' row' L' h2 h4 with⟨k1,k2,k3⟩|⟨k1,q2,k2,k3,_⟩
   ·exact hs.bE.kx r r' row row' L L' g2 k2 g3 k3 hne
   ·have:=(hs.bE.row r row L g2 g3).lt
    have:=hnb _ _ _ k2 k3
    omega
  ·rcases AG r' row' L' h2 h4 with⟨k1,k2,k3⟩|⟨k1,q2,k2,k3,_⟩
   ·have:=(hs.bE.row r' row' L' k2 k3).lt
    have:=hnb _ _ _ g2 g3
    omega
   ·exact hdist _ _ q1 q2 L L' g2 k2 g3 k3 (by omega)
 ·intro r hr
  rw[aao,tF]at hr
  simp only[hU,show¬r<rows.length by omega,abW]
  exact mF _ (by omega)
 ·intro r row L h1 h2
  rcases AG r row L h1 h2 with⟨h3,h4,h5⟩|⟨h3,row',h4,h5,rfl⟩
  ·exact .inl ⟨r,row,L,h4,h5,rfl⟩
  ·exact .inr (hnb _ _ _ h4 h5)
theorem qS:∀{l:Rows} {r:Nat} {row:Row},be l=true->live l r=some row->row.sh.pure=true
 |[],r,row,_,h=>by simp[live]at h
 |some ⟨s,els⟩::l,0,row,hn,h=>by
  simp[live]at h
  subst h
  simp[be]at hn
  exact hn.1
 |some ⟨s,els⟩::l,r+1,row,hn,h=>by
  simp[be]at hn
  exact qS (r:=r) hn.2 (by simpa[live]using h)
 |none::l,0,row,hn,h=>by simp[live]at h
 |none::l,r+1,row,hn,h=>qS (l:=l) (r:=r) (by simpa[be]using hn) (by simpa[live]using h)
def aak(C:bf)(n:Nat)(ρ:Pl)(T:Nat->Prop)(env:Env)(rows:Rows)(a:Act)(w:World)(o:Oper)(k:D->Rows->Prop)(next:Act->World->Prop):Prop:=
 ∀d aa ρ' T' v w',k d aa->eQ n ρ' T' env aa a w'->Step ρ T rows w ρ' T' aa w'->VR ρ' w' T' d v->((∀f,C.fy f=none)->gG o.op=true->QH ρ rows w w'/\∀b,T' b->T b\/w.heap.size<=b)->next (a.put o.dst v) w'
theorem bO.wp{o:Oper}{k:D->Rows->Prop}{next:Act->World->Prop}{Q:Exit->Act->World->Prop}(h:bO P n o ρ T env rows a w k)(hc:aak C n ρ T env rows a w o k next):o.wp P a w next Q:=by
 obtain⟨d,aa,ρ',T',v,w',h1,h2,h3,h4,h5,h6⟩:=h
 unfold Oper.wp
 rcases h5 with h5|⟨h5,rfl⟩
 ·rw[h5];exact hc d aa ρ' T' v w' h1 h2 h3 h4 (λ_=>h6)
 ·rw[h5];exact hc d aa ρ' T' undef w' h1 h2 h3 h4 (λ_=>h6)
theorem Xf(hr:jY ρ rows w T){k:Nat}:∀{ds ds':List D} {vs:List Value},dU (view rows k) ds=some ds'->bd (VR ρ w T) ds vs->bd (VR fE w (So ρ T rows)) ds' vs:=by
 intro ds ds' vs h hv
 obtain⟨g1,g2⟩:=kU h
 refine⟨by rw[g1,hv.len],λi x y hx hy=>?_⟩
 have hi:i<ds.length:=by have:=dA hx;omega
 have hd:=aap hi
 exact Na hr (g2 i _ x hd hx) (hv.at_ i _ y hd hy)
theorem H0(hs:eQ n ρ T env rows a w)(Pp:∀g d,C.aX g=some d->LR fE w T (.cd d) (.pointer (some ⟨g,0,none⟩)))(hC:aJ C P){o:Oper}{k:D->Rows->Prop}{next:Act->World->Prop}{Q:Exit->Act->World->Prop}
  {f:FuncId}{ds:List D}{vs:Array Value}(hvl:bd (VR ρ w T) ds vs.toList)(hrun:(execOp a.eval o).run P w= .ok (.enter f vs) w)(k2:BA C rows f ds k)(hk:aak C n ρ T env rows a w o k next):o.wp P a w next Q:=by
 unfold Oper.wp
 rw[hrun,Oper.upon_enter]
 unfold BA at k2
 cases hA:C.fn f with
 | none =>
  rw[hA]at k2
  obtain⟨A,Zn,k3⟩:=au k2
  have hold:∀{ρ' T' aa w'},Step ρ T rows w ρ' T' aa w'->∀b,T b->w'.heap[b]?=w.heap[b]?:=λhst b hb=>
   hst.keep b (hs.wC b hb) (λr row L g1 g2 e=>(hs.bE.row r row L g1 g2).nZ (e▸hb))
  unfold bf.O1 at Zn
  cases hr:C.fy f with
  |some A'=>
   rw[hr]at Zn
   cases Zn
   refine(hC.2.1 f A hr ds rows k k3 ρ w T vs hs.bE hs.wD hs.wC hvl Pp).mono ?_
   rintro e w' ⟨v,d,aa,ρ',T',rfl,Gn,hrows,mF,y7,hst,Zl⟩
   exact hk d aa ρ' T' v w' Gn ⟨hrows,hs.env.mono hst.pl (hold hst) hst.tt,hs.size,y7,mF,hs.defers⟩ hst Zl (λhn=>by rw[hn]at hr;cases hr)
  | none =>
   rw[hr]at Zn
   cases hq:C.UQ f with
   |none=>rw[hq]at Zn;cases Zn
   |some q=>
    rw[hq]at Zn
    cases Zn
    refine(hC.2.2 f q hq ds rows k k3 ρ w T vs hs.bE hs.wD hs.wC hvl Pp).mono ?_
    rintro e w' ⟨v,d,aa,ρ',T',rfl,Gn,hrows,mF,y7,hst,Zl,hqh,htn⟩
    exact hk d aa ρ' T' v w' Gn ⟨hrows,hs.env.mono hst.pl (hold hst) hst.tt,hs.size,y7,mF,hs.defers⟩ hst Zl (λ_ _=>⟨hqh,htn⟩)
 |some A=>
 rw[hA]at k2
 simp only at k2
 have hM:=hC.1 f A hA
 cases hh:aW ds with
 | true =>
  obtain⟨ds',hview,hA'⟩:=au (k2.1 hh)
  have hkeep:∀{ρ' T' aa w'} {T0:Nat->Prop},Step fE T0 [] w ρ' T' aa w'->∀b,b<w.heap.size->w'.heap[b]?=w.heap[b]?:=λhst b hb=>hst.keep b hb (by intro r row L hl;simp[live]at hl)
  have hargs:=Xf hs.bE hview hvl
  refine(hM ds' [] (λd aa=>(cj d&&be aa)=true/\k (shift rows.length d) (rows++ab rows.length aa)) hA' fE w (So ρ T rows) _ ⟨by intro r row L hl;simp[live]at hl,by intro r r' row row' L L' hl;simp[live]at hl⟩ (λ_ _=>rfl) ?_ hargs ?_).mono ?_
  ·rintro b (h|⟨r,row,L,g1,g2,rfl⟩)
   ·exact hs.wC b h
   ·exact(hs.bE.row r row L g1 g2).lt
  ·intro g d hd
   exact(Pp g d hd).mono (λ_ _ h=>h) (λ_ _=>rfl) (λb hb=> .inl hb)
  ·rintro e w' ⟨v,d,aa,ρ',T',rfl,⟨hno,Gn⟩,hrows,mF,y7,hst,Zl⟩
   simp only[aan]at hno
   have jr:∀r row L,live aa r=some row->ρ' r=some L->nu (hU rows.length ρ ρ') ⟨row.sh,bif row.sh.pure then row.els else bB rows.length row.els⟩ L w' T:=by
    intro r row L g1 g2
    have hr:=hrows.row r row L g1 g2
    have hp:=qS hno.2 g1
    rw[hp]
    refine⟨hr.sh,λhT=>?_,hr.els,λhm=>?_,hr.qO⟩
    rotate_left
    ·obtain⟨cur,t,q1,q2,q3,q4⟩:=hr.cells hm
     exact⟨cur,t,q1,q2,q3,q4.ofRaw (ky hr.els hp)⟩
    rcases hst.fresh r row L g1 g2 with⟨r0,qP,L0,h3,_⟩|h3
    ·simp[live]at h3
    ·have:=hs.wC _ hT;omega
   obtain⟨g1,g2⟩:=Lu hs hst mF hrows.kx (λ_ h=>h) (λ_ h=> .inl h) (λb hb=>abR (hs.wC b hb) hst.size) jr
   refine hk _ _ _ _ v w' Gn g1 g2 ?_ (λ_ _=>⟨λb hb=> .inl (hkeep hst b hb),λ_ h=> .inl h⟩)
   exact((Zl.cj (T':=T) (w':=w') hno.1).shift rows.length ρ)
 | false =>
  have hA':=k2.2 hh
  have hkeep:∀{ρ' T' aa w'} {T0:Nat->Prop},Step fE T0 [] w ρ' T' aa w'->∀b,b<w.heap.size->w'.heap[b]?=w.heap[b]?:=λhst b hb=>hst.keep b hb (by intro r row L hl;simp[live]at hl)
  have hargs:bd (VR fE w T) ds vs.toList:=⟨hvl.len,λi x y hx hy=>(hvl.at_ i x y hx hy).closed (fw hh x (bN hx))⟩
  refine(hM ds [] (λd aa=>k (shift rows.length d) (rows++ab rows.length aa)) hA' fE w T _ ⟨by intro r row L hl;simp[live]at hl,by intro r r' row row' L L' hl;simp[live]at hl⟩ (λ_ _=>rfl) hs.wC hargs Pp).mono ?_
  rintro e w' ⟨v,d,aa,ρ',T',rfl,Gn,hrows,mF,y7,hst,Zl⟩
  have jr:∀r row L,live aa r=some row->ρ' r=some L->nu (hU rows.length ρ ρ') ⟨row.sh,bif row.sh.pure then row.els else bB rows.length row.els⟩ L w' T':=by
   intro r row L g1 g2
   have hr:=hrows.row r row L g1 g2
   cases hp:row.sh.pure with
   |true=>
    refine⟨hr.sh,hr.nZ,hr.els,λhm=>?_,hr.qO⟩
    obtain⟨cur,t,q1,q2,q3,q4⟩:=hr.cells hm
    exact⟨cur,t,q1,q2,q3,q4.ofRaw (ky hr.els hp)⟩
   | false =>
    simp only[aaM]
    obtain⟨z1,z2⟩:=Ee (k:=rows.length) hr.els
    refine⟨hr.sh,hr.nZ,z1,λhm=>?_,λhm=>?_⟩
    ·obtain⟨cur,t,q1,q2,q3,q4⟩:=hr.cells hm
     have q5:=q4.shift rows.length ρ
     have zl:(aA (bB rows.length row.els)).length=(aA row.els).length:=by rw[z2,aaE]
     exact⟨cur,t,q1,q2,by rw[zl];exact q3,by simp only[zl];rw[z2];exact q5⟩
    ·obtain⟨es,clock,h1,h2⟩:=hr.qO hm
     rw[h2.pure]at hp
     cases hp
  obtain⟨g1,g2⟩:=Lu hs hst mF hrows.kx hst.tt hst.tnew0 y7 jr
  exact hk _ _ _ _ v w' Gn g1 g2 (Zl.shift rows.length ρ) (λ_ _=>⟨λb hb=> .inl (hkeep hst b hb),hst.tnew0⟩)
theorem Eg{f:FuncId}{fn:Func}{o:Oper}{c:Call}(ho:o.op= .call c)(hf:P.funcs[f]?=some fn)(hb:fn.body.isSome=true)(hn:(fn.name != "runtime.NumGoroutine")=true)
  {caps:Array Value}(hc:(c.callee= .value (.func f)/\caps=#[])\/∃t,c.callee= .value (.tmp t)/\a.eval (.tmp t)= .func (.func f) #[] caps):(execOp a.eval o).run P w= .ok (.enter f (c.args.map a.eval++caps)) w:=by
 have SA:¬fn.name= "runtime.NumGoroutine" :=by simpa using hn
 cases hq:fn.body with
 |none=>simp[hq]at hb
 |some b=>
  rcases hc with⟨hc,rfl⟩|⟨t,hc,ht⟩
  ·simp[execOp,ho,resolve,hc,Act.eval,Deferred.ofValue,invoke,callFunc,hf,SA,hq]
  ·simp[execOp,ho,resolve,hc,ht,Deferred.ofValue,invoke,callFunc,hf,SA,hq]
theorem op_call(hs:eQ n ρ T env rows a w)(hG:tZ C ρ w T)(Pp:∀g d,C.aX g=some d->LR fE w T (.cd d) (.pointer (some ⟨g,0,none⟩)))(hC:aJ C P){o:Oper}{k:D->Rows->Prop}{next:Act->World->Prop}{Q:Exit->Act->World->Prop}
  {c:Call}{f:FuncId}{fn:Func}{l':List X}(ho:o.op= .call c)(hc:c.callee= .value (.func f))(hf:P.funcs[f]?=some fn)(hb:fn.body.isSome=true)(hn:(fn.name != "runtime.NumGoroutine")=true)
  (h1:ZG c.args.toList=some l')(h:dW C env rows (.call f l') k)(hk:aak C n ρ T env rows a w o k next):o.wp P a w next Q:=by
 obtain⟨ds,hds,k2⟩:=au h
 have hv:=uc hs hG h1 hds
 exact H0 hs Pp hC (by simpa using hv) (Eg ho hf hb hn (.inl ⟨hc,rfl⟩)) k2 hk
theorem H2{f:Nat}:∀{l:List Nat},MY f l=true->f∈l
 |[],h=>by cases h
 | x :: l, h => by
  unfold MY at h
  cases hb:(x==f)with
  |true=>
   have:x=f:=by simpa using hb
   subst this;exact adH ..
  |false=>rw[hb]at h;exact List.mem_cons_of_mem _ (H2 h)
theorem Lv{c:Call}{f:Nat}(h:f∈UR P c):∃fn,P.funcs[f]?=some fn/\fn.body.isSome=true/\(fn.name != "runtime.NumGoroutine")=true:=by
 unfold UR at h
 have h2:=(List.mem_filter.1 h).2
 split at h2
 ·rename_i fn hf
  simp only[aan]at h2
  exact⟨fn,hf,h2.1.2,h2.2⟩
 ·cases h2
theorem aal(hs:eQ n ρ T env rows a w)(hG:tZ C ρ w T)(Pp:∀g d,C.aX g=some d->LR fE w T (.cd d) (.pointer (some ⟨g,0,none⟩)))(hC:aJ C P){o:Oper}{k:D->Rows->Prop}{next:Act->World->Prop}{Q:Exit->Act->World->Prop}
  {c:Call}{t:Nat}{l':List X}(ho:o.op= .call c)(hc:c.callee= .value (.tmp t))(h1:ZG c.args.toList=some l')(h:dW C env rows (.qH (UR P c) (.tmp t) l') k)(hk:aak C n ρ T env rows a w o k next):o.wp P a w next Q:=by
 obtain⟨d,hd,h2⟩:=au h
 have hv0:=bJ (x:= .tmp t) rfl hd hs hG
 split at h2
 ·rename_i f c1 c2
  obtain⟨rfl,rfl,hf,h3⟩:=h2
  obtain⟨ds,hds,k2⟩:=au h3
  have hv:=uc hs hG h1 hds
  obtain⟨fn,g1,g2,g3⟩:=Lv (H2 hf)
  exact H0 hs Pp hC (by simpa using hv) (Eg ho g1 g2 g3 (.inr ⟨t,hc,hv0.ofRaw⟩)) k2 hk
 ·rename_i f s r p
  obtain⟨hf,h3⟩:=h2
  obtain⟨ds,hds,k2⟩:=au h3
  have hv:=uc hs hG h1 hds
  obtain⟨fn,g1,g2,g3⟩:=Lv (H2 hf)
  have mN:LR ρ w T (.Fi f s r p) _:=hv0
  generalize hx:a.eval (.tmp t)=v at mN
  cases mN with
  |Fi _ _ _ _ L hL hp=>exact H0 hs Pp hC (vs:=c.args.map a.eval++#[.pointer (some ⟨L.b,L.off p,none⟩)]) (by simpa using hv.append (.single (VR.bH (.ptr s r p L hL hp)))) (Eg ho g1 g2 g3 (.inr ⟨t,hc,hx⟩)) k2 hk
 ·exact h2.elim
theorem op_lena(hs:eQ n ρ T env rows a w){o:Oper}{k:D->Rows->Prop}{c:Call}{x:Operand}{t e:TypeId}{m:Nat}{ts:List TypeId}(ho:o.op= .call c)(hc:c.callee= .builtin .len)(ha:c.args.toList=[x])
  (hts:c.argTypes.toList=t::ts)(hu:P.underlying t=some (.array m e))(h:dW C env rows (.mv (.const (.int .i64 m))) k):bO P n o ρ T env rows a w k:=by
 have hk:k (.raw (.int .i64 m)) rows:=h
 have hargs:c.args=#[x]:=by apply acb;simpa using ha
 have Z1:c.argTypes[0]?=some t:=by
  have:c.argTypes.toList[0]?=some t:=by rw[hts];rfl
  simpa using this
 refine .here hs hk (VR.raw rfl) ?_
 rw[ik ho hc]
 simp[builtin,Builtin.len_,hargs,Z1,run_underlying hu,goInt]
theorem xp(hs:eQ n ρ T env rows a w)(Pp:∀g d,C.aX g=some d->LR fE w T (.cd d) (.pointer (some ⟨g,0,none⟩)))(hC:aJ C P){o:Oper}{ao:nY}{k:D->Rows->Prop}{next:Act->World->Prop}{Q:Exit->Act->World->Prop}
  (hc:cOp P o.op=some ao)(h:dW C env rows ao k)(hk:aak C n ρ T env rows a w o k next):o.wp P a w next Q:=by
 unfold cOp at hc
 split at hc
 case h_2=>cases hc;exact h.elim
 rename_i a0 hc0
 cases hc
 replace hc:=hc0
 clear hc0
 have hG:tZ C ρ w T:=λg d hd=>(Pp g d hd).mono (by intro r L h;cases h) (λ_ _=>rfl) (λ_ h=>h)
 cases hop:o.op with
 |move x=>
  rw[hop]at hc
  obtain⟨x',h1,h2⟩:=aH hc
  cases h2
  exact(op_mv hs hG (.inl hop) h1 h).wp hk
 |assign x=>
  rw[hop]at hc
  obtain⟨x',h1,h2⟩:=aH hc
  cases h2
  exact(op_mv hs hG (.inr hop) h1 h).wp hk
 |pick x y z=>
  rw[hop]at hc
  obtain⟨x',h1,hc⟩:=aH hc
  obtain⟨y',h2,hc⟩:=aH hc
  obtain⟨z',h3,hc⟩:=aH hc
  cases hc
  exact(op_pick hs hG hop h1 h2 h3 h).wp hk
 |alloc t=>
  rw[hop]at hc
  obtain⟨s,h1,hc⟩:=aH hc
  obtain⟨z,h2,hc⟩:=aH hc
  obtain⟨_,hc⟩:=cK hc
  cases hc
  exact(Z5 hs hop h1 h2 h).wp hk
 |box t x=>
  rw[hop]at hc
  obtain⟨s,h1,hc⟩:=aH hc
  obtain⟨x',h2,hc⟩:=aH hc
  cases hc
  exact(op_box hs hG hop h2 h).wp hk
 | build t parts =>
  rw[hop]at hc
  obtain⟨s,h1,hc⟩:=aH hc
  obtain⟨z,h2,hc⟩:=aH hc
  obtain⟨ps,h3,hc⟩:=aH hc
  split at hc
  ·rename_i fs hu
   obtain⟨h4,hc⟩:=cK hc
   cases hc
   simp only[aan,acs]at h4
   obtain⟨⟨⟨⟨_,h5⟩,h6⟩,h7⟩,h8⟩:=h4
   exact(W7 hs hG hop h1 h2 hu h3 h5 h6 h7 h8 h).wp hk
  ·rename_i m e hu
   obtain⟨se,h4,hc⟩:=aH hc
   obtain⟨h5,hc⟩:=cK hc
   cases hc
   simp only[aan,acs]at h5
   exact(W8 hs hG hop h1 h2 hu h3 h5.1.2 h4 h5.2 h).wp hk
  ·cases hc
 | buildSlice t m parts =>
  rw[hop]at hc
  obtain⟨e,h1,hc⟩:=aH hc
  obtain⟨s,h2,hc⟩:=aH hc
  obtain⟨z,h3,hc⟩:=aH hc
  obtain⟨ps,h4,hc⟩:=aH hc
  obtain⟨h5,hc⟩:=cK hc
  cases hc
  simp only[aan]at h5
  have hu:P.underlying t=some (.slice e):=by
   unfold zy at h1
   split at h1
   ·cases h1;assumption
   ·cases h1
  exact(W9 hs hG hop hu h2 h3 h4 (by simpa using h5.1.2) (abx h5.2) h).wp hk
 |load t x=>
  rw[hop]at hc
  obtain⟨s,h1,hc⟩:=aH hc
  obtain⟨x',h2,hc⟩:=aH hc
  obtain⟨h3,hc⟩:=cK hc
  cases hc
  exact(op_load hs hG hop h1 h3 h2 h).wp hk
 |store t x y=>
  rw[hop]at hc
  obtain⟨s,h1,hc⟩:=aH hc
  obtain⟨x',h2,hc⟩:=aH hc
  obtain⟨y',h3,hc⟩:=aH hc
  cases hc
  exact(Z6 hs hG hop h1 h2 h3 h).wp hk
 |nilCheck x=>
  rw[hop]at hc
  obtain⟨x',h2,hc⟩:=aH hc
  cases hc
  exact(op_nilc hs hG hop h2 h).wp hk
 | binOp op t x y u =>
  rw[hop]at hc
  obtain⟨x',h1,hc⟩:=aH hc
  obtain⟨y',h2,hc⟩:=aH hc
  split at hc
  ·cases hc;exact(ZS hs hG hop h1 h2 h).wp hk
  ·cases hc;exact(ZS hs hG hop h1 h2 h).wp hk
  ·rename_i hu
   split at hc
   ·cases hc;exact(ZT hs hG (neg:=false) hop rfl hu h1 h2 h).wp hk
   ·cases hc;exact(ZT hs hG (neg:=true) hop rfl hu h1 h2 h).wp hk
   ·cases hc
  ·obtain⟨s,h3,hc⟩:=aH hc
   obtain⟨h4,hc⟩:=cK hc
   simp only[aan,acL]at h4
   split at hc
   ·cases hc;exact(M8 hs hG (neg:=false) hop rfl h3 h4.1 h4.2 h1 h2 h).wp hk
   ·cases hc;exact(M8 hs hG (neg:=true) hop rfl h3 h4.1 h4.2 h1 h2 h).wp hk
   ·cases hc
  ·obtain⟨s,h3,hc⟩:=aH hc
   obtain⟨h4,hc⟩:=cK hc
   simp only[aan,acL]at h4
   split at hc
   ·cases hc;exact(M8 hs hG (neg:=false) hop rfl h3 h4.1 h4.2 h1 h2 h).wp hk
   ·cases hc;exact(M8 hs hG (neg:=true) hop rfl h3 h4.1 h4.2 h1 h2 h).wp hk
   ·cases hc
  ·rename_i hu
   split at hc
   ·cases hc;exact(Pm hs hG (neg:=false) hop rfl hu h1 h2 h).wp hk
   ·cases hc;exact(Pm hs hG (neg:=true) hop rfl hu h1 h2 h).wp hk
   ·cases hc
  ·rename_i hu
   split at hc
   ·cases hc;exact(U5 hs hG (neg:=false) hop rfl hu h1 h2 h).wp hk
   ·cases hc;exact(U5 hs hG (neg:=true) hop rfl hu h1 h2 h).wp hk
   ·cases hc
  ·cases hc
 | sliceToArrayPointer t x =>
  rw[hop]at hc
  simp only[cOp0]at hc
  split at hc
  ·rename_i m e hu
   obtain⟨s,h1,hc⟩:=aH hc
   obtain⟨x',h2,hc⟩:=aH hc
   cases hc
   exact(op_s2a hs hG hop hu h2 h).wp hk
  ·cases hc
 |unOp op t x=>
  rw[hop]at hc
  obtain⟨x',h2,hc⟩:=aH hc
  cases hc
  exact(op_un hs hG hop h2 h).wp hk
 | convert s t x =>
  rw[hop]at hc
  obtain⟨x',h1,hc⟩:=aH hc
  split at hc
  ·rename_i xg hu2;cases hc;exact(op_conv hs hG hop xg hu2 h1 h).wp hk
  ·rename_i xg hu2;cases hc;exact(ZU hs hG hop xg hu2 h1 h).wp hk
  ·rename_i xg hu2
   split at hc
   ·rename_i hu3;cases hc;exact(op_s2b hs hG hop xg hu2 hu3 h1 h).wp hk
   ·cases hc
  ·rename_i xg hu2
   split at hc
   ·rename_i hu3;cases hc;exact(op_b2s hs hG hop xg hu3 hu2 h1 h).wp hk
   ·cases hc
  ·rename_i xg hu2
   obtain⟨hst,hc⟩:=cK hc
   obtain⟨s',h2,hc⟩:=aH hc
   obtain⟨hs8,hc⟩:=cK hc
   have du:s=t:=by simpa using hst
   split at hc
   ·rename_i hu3
    cases hc
    rw[du]at hop
    exact(op_frzb hs hG hop hu2 hu3 h1 h).wp hk
   ·cases hc
  ·cases hc
 | makeSlice t l c =>
  rw[hop]at hc
  obtain⟨e,h1,hc⟩:=aH hc
  obtain⟨s,h2,hc⟩:=aH hc
  obtain⟨z,h3,hc⟩:=aH hc
  obtain⟨l',h4,hc⟩:=aH hc
  obtain⟨c',h5,hc⟩:=aH hc
  obtain⟨h6,hc⟩:=cK hc
  cases hc
  have hu:P.underlying t=some (.slice e):=by
   unfold zy at h1
   split at h1
   ·cases h1;assumption
   ·cases h1
  exact(op_mks hs hG hop hu h2 h3 h4 h5 h).wp hk
 | makeFunc fn first cap =>
  rw[hop]at hc
  cases fn with
  | func f =>
   obtain⟨h1,hc⟩:=cK hc
   split at hc
   ·rename_i x hx
    obtain⟨x',h2,hc⟩:=aH hc
    cases hc
    exact(op_mkf hs hG hop h1 hx h2 h).wp hk
   ·cases hc
  | _=>cases hc
 | makeMap t r =>
  rw[hop]at hc
  cases r with
  |none=>
   obtain⟨⟨ks,vs⟩,h1,hc⟩:=aH hc
   cases hc
   obtain⟨kt,et,hu,h2,h3,h4,h5⟩:=AP h1
   exact(op_mkm hs hop h4 h5 h).wp hk
  |some _=>cases hc
 |mapUpdate t m x v=>
  rw[hop]at hc
  obtain⟨⟨ks,vs⟩,h1,hc⟩:=aH hc
  obtain⟨m',h6,hc⟩:=aH hc
  obtain⟨x',h7,hc⟩:=aH hc
  obtain⟨v',h8,hc⟩:=aH hc
  cases hc
  obtain⟨kt,et,hu,h2,h3,h4,h5⟩:=AP h1
  exact(op_mset hs hG hop hu h4 h5 h6 h7 h8 h).wp hk
 | lookup t m x ok =>
  rw[hop]at hc
  obtain⟨⟨kt0,et0⟩,h0,hc⟩:=aH hc
  obtain⟨⟨ks,vs⟩,h1,hc⟩:=aH hc
  obtain⟨z,h5',hc⟩:=aH hc
  obtain⟨m',h6,hc⟩:=aH hc
  obtain⟨x',h7,hc⟩:=aH hc
  obtain⟨hz,hc⟩:=cK hc
  cases hc
  obtain⟨kt,et,hu,h2,h3,h4,h5⟩:=AP h1
  have e0:et0=et:=by
   unfold mapT at h0
   rw[hu]at h0
   cases h0
   rfl
  subst e0
  exact(op_mget hs hG hop hu h4 h3 h5' hz h5 h6 h7 h).wp hk
 | fieldAddr t x i =>
  rw[hop]at hc
  obtain⟨s,h1,hc⟩:=aH hc
  obtain⟨x',h2,hc⟩:=aH hc
  split at hc
  ·rename_i fs hu
   split at hc
   ·rename_i f e hf he
    obtain⟨h3,hc⟩:=cK hc
    cases hc
    simp only[aan,acs]at h3
    obtain⟨⟨h4,h5⟩,h6⟩:=h3
    split at h5
    ·rename_i inf hi
     exact(ZV hs hG hop hu hf he h4 hi (by simpa using h5) (by simpa using h6) h2 h).wp hk
    ·cases h5
   ·cases hc
  ·cases hc
 | field t x i =>
  rw[hop]at hc
  obtain⟨s,h1,hc⟩:=aH hc
  obtain⟨x',h2,hc⟩:=aH hc
  split at hc
  ·rename_i fs hu
   split at hc
   ·rename_i f e hf he
    obtain⟨h3,hc⟩:=cK hc
    cases hc
    simp only[aan,acs]at h3
    exact(ZW hs hG hop hu hf he h3.1.1 h3.1.2 h3.2 h2 h).wp hk
   ·cases hc
  ·cases hc
 | indexAddr t x i =>
  rw[hop]at hc
  obtain⟨x',h1,hc⟩:=aH hc
  obtain⟨i',h2,hc⟩:=aH hc
  split at hc
  ·rename_i m e hu
   obtain⟨s,h3,hc⟩:=aH hc
   cases hc
   exact(W2 hs hG hop hu h3 h1 h2 h).wp hk
  ·rename_i e hu
   obtain⟨s,h3,hc⟩:=aH hc
   cases hc
   exact(W3 hs hG hop hu h3 h1 h2 h).wp hk
  ·cases hc
 | index t x i =>
  rw[hop]at hc
  obtain⟨x',h1,hc⟩:=aH hc
  obtain⟨i',h2,hc⟩:=aH hc
  split at hc
  ·rename_i m e hu
   obtain⟨s,h3,hc⟩:=aH hc
   obtain⟨h4,hc⟩:=cK hc
   cases hc
   exact(ZY hs hG hop hu h3 h4 h1 h2 h).wp hk
  ·rename_i hu
   cases hc
   exact(W4 hs hG hop hu h1 h2 h).wp hk
  ·cases hc
 | slice t x lo hi mx =>
  rw[hop]at hc
  obtain⟨x',h1,hc⟩:=aH hc
  obtain⟨lo',h2,hc⟩:=aH hc
  obtain⟨hi',h3,hc⟩:=aH hc
  obtain⟨mx',h4,hc⟩:=aH hc
  have hmn:(mx'.isNone||hi'.isSome)=true->(mx.isSome=true->hi.isSome=true):=by
   intro hq hm
   cases mx with
   |none=>simp at hm
   | some m =>
    cases hi with
    |some _=>rfl
    |none=>
     simp[O2]at h3
     subst h3
     simp only[O2]at h4
     split at h4
     ·cases h4;simp at hq
     ·cases h4
  split at hc
  ·rename_i m e hu
   obtain⟨s,h5,hc⟩:=aH hc
   obtain⟨h6,hc⟩:=cK hc
   cases hc
   exact(W6 hs hG hop hu h5 h1 h2 h3 h4 (hmn h6) h).wp hk
  ·rename_i e hu
   obtain⟨s,h5,hc⟩:=aH hc
   obtain⟨h6,hc⟩:=cK hc
   cases hc
   exact(Z2 hs hG hop hu h5 h1 h2 h3 h4 (hmn h6) h).wp hk
  ·rename_i hu
   obtain⟨h6,hc⟩:=cK hc
   cases hc
   have:mx=none:=by
    cases mx with
    |none=>rfl
    |some m=>
     simp only[O2]at h4
     split at h4
     ·cases h4;simp at h6
     ·cases h4
   subst this
   exact(Xc hs hG hop hu h1 h2 h3 h).wp hk
  ·cases hc
 |extract x i=>
  rw[hop]at hc
  obtain⟨x',h2,hc⟩:=aH hc
  cases hc
  exact(op_ext hs hG hop h2 h).wp hk
 | call c =>
  rw[hop]at hc
  have eX:ZI P c=some ao:=hc
  unfold ZI at eX
  split at eX
  ·rename_i f sx
   obtain⟨fn,h1,eX⟩:=aH eX
   cases RO:fn.body.isSome with
   |true=>
    rw[RO]at eX
    obtain⟨h2,eX⟩:=cK eX
    obtain⟨l,h3,eX⟩:=aH eX
    cases eX
    exact op_call hs hG Pp hC hop sx h1 RO h2 h3 h hk
   | false =>
    rw[RO]at eX
    simp only[aaM]at eX
    cases hix:(fn.name==BD&&fn.origin== "")with
    | true =>
     rw[hix]at eX
     simp only[aan,acs]at hix
     simp only[aaU]at eX
     split at eX
     ·rename_i x y hx
      obtain⟨x',h3,eX⟩:=aH eX
      obtain⟨y',h4,eX⟩:=aH eX
      cases eX
      exact(op_idxb hs hG hop sx h1 RO hix.1 hix.2 hx h3 h4 h).wp hk
     ·cases eX
    | false =>
     rw[hix]at eX
     obtain⟨h2,eX⟩:=cK eX
     simp only[aan,acs]at h2
     split at eX
     ·rename_i x t hx ht
      split at eX
      ·rename_i e hu
       obtain⟨h3,eX⟩:=cK eX
       obtain⟨x',h4,eX⟩:=aH eX
       cases eX
       exact(op_mnz hs hG hop sx h1 RO h2.1 h2.2 hx ht hu (by simpa using h3) h4 h).wp hk
      ·cases eX
     ·cases eX
  ·rename_i t sx
   obtain⟨l,h1,eX⟩:=aH eX
   cases eX
   exact aal hs hG Pp hC hop sx h1 h hk
  ·rename_i sx
   split at eX
   ·rename_i x t ts hx ht
    obtain⟨x',h1,eX⟩:=aH eX
    split at eX
    ·rename_i e hu;cases eX;exact(op_len hs hG hop sx hx ht hu h1 h).wp hk
    ·rename_i hu;cases eX;exact(W5 hs hG hop sx hx ht hu h1 h).wp hk
    ·rename_i m e hu;cases eX;exact(op_lena hs hop sx hx ht hu h).wp hk
    ·cases eX
   ·cases eX
  ·rename_i sx
   split at eX
   ·rename_i x y t u hx ht
    obtain⟨x',h1,eX⟩:=aH eX
    obtain⟨y',h2,eX⟩:=aH eX
    obtain⟨e,h3,eX⟩:=aH eX
    obtain⟨s,h4,eX⟩:=aH eX
    obtain⟨z,h5,eX⟩:=aH eX
    obtain⟨h6,eX⟩:=cK eX
    simp only[aan]at h6
    have hu:P.underlying t=some (.slice e):=by
     unfold zy at h3
     split at h3
     ·cases h3;assumption
     ·cases h3
    split at eX
    ·rename_i e' xg
     obtain⟨_,eX⟩:=cK eX
     cases eX
     exact(Lp hs hG hop sx hx ht hu (.inl ⟨e',xg⟩) h4 h5 h1 h2 h).wp hk
    ·rename_i xg
     obtain⟨_,eX⟩:=cK eX
     cases eX
     exact(Lp hs hG hop sx hx ht hu (.inr xg) h4 h5 h1 h2 h).wp hk
    ·rename_i kd xg
     cases eX
     exact(Sv hs hG hop sx hx ht hu xg h4 h5 (by simpa using h6.1) h1 h2 h).wp hk
    ·cases eX
   ·cases eX
  ·rename_i sx
   split at eX
   ·rename_i x y t u hx ht
    obtain⟨x',h1,eX⟩:=aH eX
    obtain⟨y',h2,eX⟩:=aH eX
    obtain⟨e,h3,eX⟩:=aH eX
    obtain⟨s,h4,eX⟩:=aH eX
    obtain⟨h6,eX⟩:=cK eX
    have hu:P.underlying t=some (.slice e):=by
     unfold zy at h3
     split at h3
     ·cases h3;assumption
     ·cases h3
    split at eX
    ·obtain⟨_,eX⟩:=cK eX
     cases eX
     exact(UZ hs hG hop sx hx ht hu h4 h1 h2 h).wp hk
    ·obtain⟨_,eX⟩:=cK eX
     cases eX
     exact(UZ hs hG hop sx hx ht hu h4 h1 h2 h).wp hk
    ·cases eX
   ·cases eX
  ·rename_i sx
   split at eX
   ·rename_i x t hx ht
    obtain⟨x',h1,eX⟩:=aH eX
    obtain⟨e,h3,eX⟩:=aH eX
    obtain⟨s,h4,eX⟩:=aH eX
    obtain⟨z,h5,eX⟩:=aH eX
    obtain⟨h6,eX⟩:=cK eX
    have hu:P.underlying t=some (.slice e):=by
     unfold zy at h3
     split at h3
     ·cases h3;assumption
     ·cases h3
    simp only[aan]at h6
    cases eX
    exact(op_clr hs hG hop sx hx ht hu h4 h5 h1 h).wp hk
   ·cases eX
  ·rename_i sx
   obtain⟨l,h1,eX⟩:=aH eX
   cases eX
   exact(Lr hs hG (mx:=false) hop sx h1 h).wp hk
  ·rename_i sx
   obtain⟨l,h1,eX⟩:=aH eX
   cases eX
   exact(Lr hs hG (mx:=true) hop sx h1 h).wp hk
  ·cases eX
 | _=>rw[hop]at hc;cases hc
end Go.Am
namespace Go.Am
variable {C:bf} {P:Program} {n:Nat} {ρ:Pl} {T:Nat->Prop} {env:Env} {rows:Rows} {a:Act} {w:World}
def eJ(C:bf)(w:World)(T:Nat->Prop):Prop:=∀g d,C.aX g=some d->LR fE w T (.cd d) (.pointer (some ⟨g,0,none⟩))
theorem Step.stable(hr:jY ρ rows w T)(ht:∀b,T b->b<w.heap.size){ρ':Pl}{T':Nat->Prop}{aa:Rows}{w':World}(h:Step ρ T rows w ρ' T' aa w'):∀b,T b->w'.heap[b]?=w.heap[b]?:=by
 intro b hb
 refine h.keep b (ht b hb) ?_
 rintro r row L h1 h2 rfl
 exact(hr.row r row L h1 h2).nZ hb
theorem eJ.step(hg:eJ C w T)(hs:eQ n ρ T env rows a w){ρ':Pl}{T':Nat->Prop}{aa:Rows}{w':World}(h:Step ρ T rows w ρ' T' aa w'):eJ C w' T':=
 λg d hd=>(hg g d hd).mono (λ_ _ h=>h) (h.stable hs.bE hs.wC) h.tt
theorem Eh{all:List Oper}{o:Oper}{l:List Oper}{al:List aY}(h:wZ P n all (o::l)=some al):
  ∃ao g r,Si n o.dst=true/\cOp P o.op=some ao/\mD all o.guard=some g/\wZ P n all l=some r/\al=⟨o.dst,ao,g⟩::r:=by
 simp only[wZ]at h
 obtain⟨h0,h⟩:=cK h
 obtain⟨ao,h1,h⟩:=aH h
 obtain⟨g,h2,h⟩:=aH h
 obtain⟨r,h3,h⟩:=aH h
 cases h
 exact⟨ao,g,r,h0,h1,h2,h3,rfl⟩
theorem yJ{dst:Option Nat}(h:Si n dst=true):∀t,dst=some t->t<n:=by
 intro t ht
 subst ht
 simp only[Si]at h
 exact ad0.mp h
theorem Xg (hC : aJ C P) (ops : Array Oper) {Q' : Exit -> Act -> World -> Prop} : ∀ (l : List Oper) (i : Nat), ops.toList.drop i = l -> ∀ (al : List aY), wZ P n ops.toList l = some al ->
  ∀(env:Env) (rows:Rows) (ρ:Pl) (T:Nat->Prop) (a:Act) (w:World) (K:Env->Rows->Prop),ec C al env rows K->eQ n ρ T env rows a w->eJ C w T->
  (∀env' aa ρ' T' a' w',K env' aa->eQ n ρ' T' env' aa a' w'->Step ρ T rows w ρ' T' aa w'->Q' .normal a' w')->wpOps P ops Q' (List.range' i l.length) a w:=by
 intro l
 induction l with
 |nil=>
  intro i _ al hc env rows ρ T a w K h hs hg hK
  simp[wZ]at hc
  subst hc
  exact hK env rows ρ T a w h hs (Step.refl _ _ _ _)
 | cons o l ih =>
  intro i hi al hc env rows ρ T a w K h hs hg hK
  obtain⟨ao,g,r,h0,h1,h2,h3,rfl⟩:=Eh hc
  have ho:ops[i]?=some o:=by
   have:=abB (λq=>q[0]?) hi
   simpa using this
  have Lw:ops.toList.drop (i+1)=l:=by
   have:=abB List.tail hi
   simpa using this
  have hd:=yJ h0
  simp only[aaP,aet,wpOps,ho]
  have go:∀(h:dW C env rows ao (λd rows=>ec C r (put o.dst d env) rows K)),o.wp P a w (wpOps P ops Q' (List.range' (i+1) l.length)) Q':=by
   intro h
   refine xp hs hg hC h1 h ?_
   intro d aa ρ' T' v w' hk gy hst hv _
   exact ih (i+1) Lw r h3 _ aa ρ' T' _ w' K hk (gy.put hv hd) (hg.step hs hst) (λnC nD RQ T2 a2 w2 M3 sy Nb=>hK nC nD RQ T2 a2 w2 M3 sy (hst.trans Nb))
  have skip:∀(h:ec C r (put o.dst (.cA []) env) rows K),wpOps P ops Q' (List.range' (i+1) l.length) (a.put o.dst undef) w:=by
   intro h
   have hv:VR ρ w T (.cA []) undef:=⟨#[],rfl,.nil⟩
   exact ih (i+1) Lw r h3 _ rows ρ T _ w K h (hs.put hv hd) hg hK
  cases hgd:o.guard with
  |none=>
   rw[hgd]at h2
   simp[mD]at h2
   subst h2
   have hw:Region.wanted o (yielded ops a.tmps)=true:=by simp[Region.wanted,hgd]
   rw[aaI hw]
   exact .inl (go h)
  | some jw =>
   obtain⟨j,want⟩:=jw
   rw[hgd]at h2
   simp only[mD]at h2
   split at h2
   ·rename_i oj hj
    split at h2
    ·rename_i t ht
     cases h2
     have oe:ops[j]?=some oj:=by simpa using hj
     obtain⟨d,Hz,h⟩:=au h
     have hv:=hs.env t d Hz
     split at h
     ·rename_i b
      have hb:=VR.ofRaw hv
      have xq:a.tmps[t]?=some (.bool b):=by
       unfold Array.getD at hb
       split at hb
       ·rename_i hlt
        rw[abw hlt]
        simpa using hb
       ·cases hb
      have hy:yielded ops a.tmps j=some b:=by simp[yielded,oe,ht,xq]
      have hw:Region.wanted o (yielded ops a.tmps)=(b==want):=by
       simp only[Region.wanted,hgd,hy]
       cases b<;>cases want<;>rfl
      rw[hw]
      by_cases Xh:b=want
      ·subst Xh
       rw[aaI (by simp)]
       exact .inl (go (h.1 rfl))
      ·rw[aaA (by simpa using Xh)]
       exact skip (h.2 (by cases b<;>cases want<;>simp_all))
     ·obtain⟨vs,hvs,bQ⟩:=hv
      have SB:vs=#[]:=by
       have:=bQ.len
       apply acb
       exact aaF (by simpa using this.symm)
      subst SB
      have hy:yielded ops a.tmps j=none:=by
       simp only[yielded,oe,abc,ht]
       unfold Array.getD at hvs
       split at hvs
       ·rename_i hlt
        rw[abw hlt]
        have:a.tmps[t]= .tuple #[]:=by simpa using hvs
        rw[this]
       ·rename_i hlt
        rw[acA (by omega)]
      have hw:Region.wanted o (yielded ops a.tmps)=false:=by
       simp only[Region.wanted,hgd,hy]
       rfl
      rw[aaA (by rw[hw];simp)]
      exact skip h
     ·exact h.elim
    ·cases h2
   ·cases h2
def SC:fI->Exit
 | .normal=> .normal
 | .exit i=> .exit i
 | .ret=> .ret
def Post(n:Nat)(ρ:Pl)(T:Nat->Prop)(rows:Rows)(w:World)(Q:fI->Env->Rows->Prop)(Q':Exit->Act->World->Prop):Prop:=
 ∀e env' aa ρ' T' a' w',Q e env' aa->eQ n ρ' T' env' aa a' w'->Step ρ T rows w ρ' T' aa w'->Q' (SC e) a' w'
end Go.Am
namespace Go.Am
variable {C:bf} {P:Program} {n:Nat} {ρ:Pl} {T:Nat->Prop} {env:Env} {rows:Rows} {a:Act} {w:World}
def Pq(rows:Rows)(f:(D->Rows->Prop)->Prop):Prop:=∀k,f k->∃d new,k d (rows++new)/\f (λd2 r2=>d2=d/\r2=rows++new)
theorem bA(rows:Rows)(d:D):Pq rows (λk=>k d rows):=λk h=>⟨d,[],by simpa using h,rfl,by simp⟩
theorem sL(rows new:Rows)(d:D):Pq rows (λk=>k d (rows++new)):=λk h=>⟨d,new,h,rfl,rfl⟩
theorem aP(rows:Rows):Pq rows (λ_=>False):=λ_ h=>h.elim
theorem bt{rows:Rows}{f:(D->Rows->Prop)->Prop}(p:Prop)(h:Pq rows f):Pq rows (λk=>p/\f k):=by
 intro k ⟨hp,hf⟩
 obtain⟨d,new,h1,h2⟩:=h k hf
 exact⟨d,new,h1,hp,h2⟩
theorem aV{α:Type}{rows:Rows}{x:Option α}{f:α->(D->Rows->Prop)->Prop}(h:∀a,Pq rows (f a)):Pq rows (λk=>bn x (λa=>f a k)):=by
 intro k hk
 cases x with
 |none=>exact hk.elim
 |some a=>exact h a k hk
theorem det_if{rows:Rows}{f g:(D->Rows->Prop)->Prop}(b:Bool)(hf:Pq rows f)(hg:Pq rows g):Pq rows (λk=>(b=true->f k)/\(b=false->g k)):=by
 intro k hk
 cases b with
 |true=>
  obtain⟨d,new,h1,h2⟩:=hf k (hk.1 rfl)
  refine⟨d,new,h1,λ_=>h2,λh=>?_⟩
  cases h
 |false=>
  obtain⟨d,new,h1,h2⟩:=hg k (hk.2 rfl)
  refine⟨d,new,h1,λh=>?_,λ_=>h2⟩
  cases h
theorem AS{rows:Rows}{f:Nat->Nat->Nat->(D->Rows->Prop)->Prop}(l h m:Int)(n:Nat)(hf:∀a b c,Pq rows (f a b c)):Pq rows (λk=>nt l h m n λa b c=>f a b c k):=
 bt _ (bt _ (bt _ (bt _ (hf _ _ _))))
theorem det_aBin(rows:Rows)(op:BinOp)(x y:Value):Pq rows (λk=>cF op x y λd=>k d rows):=by
 unfold cF
 intro k h
 split at h
 all_goals first
  |exact h.elim
  |exact bA rows _ k h
  |exact bt _ (bA rows _) k h
  |exact bt _ (bt _ (bA rows _)) k h
theorem det_aUn(rows:Rows)(op:UnOp)(x:Value):Pq rows (λk=>aUn op x λd=>k d rows):=by
 unfold aUn
 intro k h
 split at h
 all_goals first
  |exact h.elim
  |exact bA rows _ k h
theorem GV(hN:∀f,C.fy f=none)(o:nY)(hq:mE o=true):Pq rows (dW C env rows o):=by
 cases o with
 |mv x=>exact aV λd=>bA rows d
 | pick c x y =>
  refine aV λd=>?_
  cases d with
  |raw v=>
   cases v with
   |bool t=>exact aV λd=>bA rows d
   | _=>exact aP rows
  | _=>exact aP rows
 | bin op x y =>
  refine aV λd=>?_
  cases d with
  |raw v=>
   refine aV λd2=>?_
   cases d2 with
   |raw u=>exact det_aBin rows op v u
   | _=>exact aP rows
  | _=>exact aP rows
 | eqa s neg x y =>
  refine aV λd=>?_
  cases d with
  |agg s1 l=>
   refine aV λd2=>?_
   cases d2 with
   |agg s2 l'=>exact bt _ (bt _ (aV λb=>bA rows _))
   | _=>exact aP rows
  | _=>exact aP rows
 | beq neg x y =>
  refine aV λd=>?_
  cases d with
  | raw v =>
   cases v with
   | bool t =>
    refine aV λd2=>?_
    cases d2 with
    |raw u=>
     cases u with
     |bool t2=>exact bA rows _
     | _=>exact aP rows
    | _=>exact aP rows
   | _=>exact aP rows
  | _=>exact aP rows
 |un op x=>
  refine aV λd=>?_
  cases d with
  |raw v=>exact det_aUn rows op v
  | _=>exact aP rows
 | conv kd x =>
  refine aV λd=>?_
  cases d with
  |raw v=>
   cases v with
   |int k n=>exact bA rows _
   | _=>exact aP rows
  | _=>exact aP rows
 | Ld x =>
  refine aV λd=>?_
  cases d with
  |raw v=>
   cases v with
   |string b=>exact bA rows _
   | _=>exact aP rows
  | _=>exact aP rows
 |alloc s z=>exact sL rows _ _
 |mkm ks vs=>exact sL rows _ _
 |Ku ks vs ok z m x=>exact aV λd=>aV λd2=>bt _ (aV λl=>aV λo=>bA rows _)
 |box s x=>exact aV λd=>bt _ (sL rows _ _)
 |build s z ps=>exact aV λl=>bA rows _
 |iX s m z ps=>exact aV λl=>sL rows _ _
 |load s x=>
  refine aV λd=>?_
  cases d with
  |ptr s' r p=>exact bt _ (aV λrow=>aV λd=>bA rows d)
  |cd d=>exact bt _ (bA rows _)
  |nX m t r p off=>exact bt _ (aV λl=>bt _ (bA rows _))
  | _=>exact aP rows
 |pF x=>
  refine aV λd=>?_
  cases d with
  |ptr s' r p=>exact bA rows _
  |cd d=>exact bA rows _
  | _=>exact aP rows
 | eI s x i =>
  refine aV λd=>?_
  cases d with
  |ptr s' r p=>exact bt _ (aV λe=>bA rows _)
  |cd d=>
   cases d with
   |agg s' l=>exact bt _ (aV λe=>bA rows _)
   | _=>exact aP rows
  | _=>exact aP rows
 |field s x i=>
  refine aV λd=>?_
  cases d with
  |agg s' l=>exact bt _ (aV λe=>bA rows _)
  | _=>exact aP rows
 | wS m s x i =>
  refine aV λd=>aV λd2=>?_
  cases d2 with
  | raw v =>
   cases v with
   | int kd j =>
    cases d with
    |ptr s' r p=>exact bt _ (bt _ (bt _ (bA rows _)))
    |cd d=>
     cases d with
     |agg s' l=>exact bt _ (bt _ (bt _ (aV λd=>bA rows _)))
     | _=>exact aP rows
    | _=>exact aP rows
   | _=>exact aP rows
  | _=>exact aP rows
 | nk s x i =>
  refine aV λd=>aV λd2=>?_
  cases d2 with
  | raw v =>
   cases v with
   |int kd j=>
    cases d with
    |sl t r p off len ex=>exact bt _ (bt _ (bt _ (bA rows _)))
    |cI t l ex=>exact bt _ (bt _ (bt _ (aV λd=>bA rows _)))
    | _=>exact aP rows
   | _=>exact aP rows
  | _=>exact aP rows
 | index m s x i =>
  refine aV λd=>?_
  cases d with
  | agg t l =>
   refine aV λd2=>?_
   cases d2 with
   |raw v=>
    cases v with
    |int kd j=>exact bt _ (bt _ (bt _ (aV λd=>bA rows _)))
    | _=>exact aP rows
   | _=>exact aP rows
  | _=>exact aP rows
 | uZ x i =>
  refine aV λd=>?_
  cases d with
  | raw v =>
   cases v with
   | string b =>
    refine aV λd2=>?_
    cases d2 with
    |raw u=>
     cases u with
     |int kd j=>exact bt _ (aV λc=>bA rows _)
     | _=>exact aP rows
    | _=>exact aP rows
   | _=>exact aP rows
  | _=>exact aP rows
 | AD m s x lo hi mx =>
  refine aV λd=>aV λl=>aV λh=>aV λc=>AS _ _ _ _ λa b e=>?_
  cases d with
  |ptr t r p=>exact bt _ (bA rows _)
  |cd d=>
   cases d with
   |agg s' l=>exact bt _ (bA rows _)
   | _=>exact aP rows
  | _=>exact aP rows
 | slice s x lo hi mx =>
  refine aV λd=>aV λl=>aV λh=>aV λc=>aV λN=>AS _ _ _ _ λa b e=>?_
  cases d with
  | raw v =>
   cases v with
   | slice ad len cap =>
    cases ad with
    | none =>
     cases len with
     |zero=>cases cap with
      |zero=>exact bA rows _
      |succ _=>exact aP rows
     |succ _=>exact aP rows
    |some _=>exact aP rows
   | _=>exact aP rows
  |sl t r p off len ex=>exact bt _ (bA rows _)
  |cI t l ex=>exact bt _ (bA rows _)
  | _=>exact aP rows
 | D0 x lo hi =>
  refine aV λd=>?_
  cases d with
  |raw v=>
   cases v with
   |string b=>exact aV λl=>aV λh=>AS _ _ _ _ λa b e=>bA rows _
   | _=>exact aP rows
  | _=>exact aP rows
 | mks s b z l c =>
  refine aV λd=>?_
  cases d with
  | raw v =>
   cases v with
   | int kd j =>
    refine aV λd2=>?_
    cases d2 with
    |raw u=>
     cases u with
     |int kd j=>exact bt _ (bt _ (bt _ (bt _ (sL rows _ _))))
     | _=>exact aP rows
    | _=>exact aP rows
   | _=>exact aP rows
  | _=>exact aP rows
 |ext x i=>
  refine aV λd=>?_
  cases d with
  |cA l=>exact aV λd=>bA rows d
  | _=>exact aP rows
 |len x=>exact aV λd=>aV λm=>bA rows _
 | AE x =>
  refine aV λd=>?_
  cases d with
  |raw v=>
   cases v with
   |string b=>exact bA rows _
   | _=>exact aP rows
  | _=>exact aP rows
 |wU mx l=>exact aV λds=>aV λr=>bA rows _
 |WV x=>exact aV λd=>bt _ (aV λl=>aV λm=>bt _ (aV λbs=>bA rows _))
 | s2b x =>
  refine aV λd=>?_
  cases d with
  |raw v=>
   cases v with
   |string b=>exact bA rows _
   | _=>exact aP rows
  | _=>exact aP rows
 | call f args =>
  refine aV λds=>?_
  show Pq rows (BA C rows f ds)
  unfold BA
  cases C.fn f with
  |some F=>exact det_if _ (aV λds'=>aV λr=>bt _ (sL rows _ _)) (aV λr=>sL rows _ _)
  | none =>
   have e:C.O1 f=(C.UQ f).map MX:=by unfold bf.O1;rw[hN f]
   rw[e]
   cases C.UQ f with
   |none=>exact aP rows
   |some q=>
    show Pq rows (λk=>bn (q ds rows) λr=>k r.1 (rows++r.2))
    exact aV λr=>sL rows _ _
 |fail=>exact aP rows
 | Sb s x =>
  refine aV λd=>?_
  cases d with
  |sl t r p off len ex=>
   cases p with
   |nil=>exact bt _ (bt _ (aV λrow=>bt _ (bA rows _)))
   |cons _ _=>exact aP rows
  | _=>exact aP rows
 | wV neg x y =>
  refine aV λd=>aV λd2=>?_
  cases d2 with
  | raw v =>
   cases v with
   | pointer ad =>
    cases ad with
    | none =>
     cases d with
     | raw v =>
      cases v with
      |pointer ad=>
       cases ad with
       |none=>exact bA rows _
       |some _=>exact aP rows
      | _=>exact aP rows
     |ptr _ _ _=>exact bA rows _
     |cd _=>exact bA rows _
     | _=>exact aP rows
    |some _=>exact aP rows
   | _=>exact aP rows
  | _=>exact aP rows
 |s2a m s x=>
  refine aV λd=>?_
  cases d with
  |sl t r p off len ex=>exact bt _ (bt _ (bt _ (bA rows _)))
  |cI t l ex=>exact bt _ (bt _ (bt _ (bA rows _)))
  | _=>exact aP rows
 | _=>cases hq
theorem yK{env':Env}:∀{l:List X},(∀x∈l,ev C env x=ev C env' x)->OQ C env l=OQ C env' l
 |[],_=>rfl
 |x::l,h=>by simp only[OQ,h x (by simp),yK (l:=l) (λy hy=>h y (by simp[hy]))]
theorem mP{env':Env}{o:Option X}(h:∀x∈o.toList,ev C env x=ev C env' x):Km C env o=Km C env' o:=by
 cases o with
 |none=>rfl
 |some x=>simp only[Km,h x (by simp)]
theorem sM{env':Env}{sub:Nat->Option Sh}:∀{ps:List (Nat×X)} {z:List D},(∀x∈ps.map (·.2),ev C env x=ev C env' x)->oZ C env sub ps z=oZ C env' sub ps z
 |[],z,_=>rfl
 |(i,x)::ps,z,h=>by
  have hx:=h x (by simp)
  have ih:=λz=>sM (sub:=sub) (ps:=ps) (z:=z) (λy hy=>h y (List.mem_cons_of_mem _ hy))
  simp only[oZ,hx,ih]
theorem Ei{env':Env}{o:nY}(h:∀x∈o.xs,ev C env x=ev C env' x)(k:D->Rows->Prop):dW C env rows o k=dW C env' rows o k:=by
 cases o with
 |alloc s z=>rfl
 |mkm ks vs=>rfl
 |qI ks vs m x v=>simp only[dW,h m (by simp[nY.xs]),h x (by simp[nY.xs]),h v (by simp[nY.xs])]
 |Ku ks vs ok z m x=>simp only[dW,h m (by simp[nY.xs]),h x (by simp[nY.xs])]
 |pick c x y=>simp only[dW,h c (by simp[nY.xs]),h x (by simp[nY.xs]),h y (by simp[nY.xs])]
 |build s z ps=>simp only[dW,sM (ps:=ps) h]
 |iX s m z ps=>simp only[dW,sM (ps:=ps) h]
 |AD m s x lo hi mx=>
  simp only[dW,h x (by simp[nY.xs]),mP (o:=lo) (λy hy=>h y (by simp only[nY.xs,aaW,aaQ];exact .inr (.inl (.inl hy)))),mP (o:=hi) (λy hy=>h y (by simp only[nY.xs,aaW,aaQ];exact .inr (.inl (.inr hy)))),mP (o:=mx) (λy hy=>h y (by simp only[nY.xs,aaW,aaQ];exact .inr (.inr hy)))]
 |slice s x lo hi mx=>
  simp only[dW,h x (by simp[nY.xs]),mP (o:=lo) (λy hy=>h y (by simp only[nY.xs,aaW,aaQ];exact .inr (.inl (.inl hy)))),mP (o:=hi) (λy hy=>h y (by simp only[nY.xs,aaW,aaQ];exact .inr (.inl (.inr hy)))),mP (o:=mx) (λy hy=>h y (by simp only[nY.xs,aaW,aaQ];exact .inr (.inr hy)))]
 |D0 x lo hi=>
  simp only[dW,h x (by simp[nY.xs]),mP (o:=lo) (λy hy=>h y (by simp only[nY.xs,aaW,aaQ];exact .inr (.inl hy))),mP (o:=hi) (λy hy=>h y (by simp only[nY.xs,aaW,aaQ];exact .inr (.inr hy)))]
 |wU mx l=>simp only[dW,yK (l:=l) h]
 |call f l=>simp only[dW,yK (l:=l) h]
 |qH fs x l=>simp only[dW,h x (by simp[nY.xs]),yK (l:=l) (λy hy=>h y (by simp[nY.xs,hy]))]
 |fail=>rfl
 |s2a _ _ x|Sb _ x|mnz x|mkf _ x|clr _ _ x=>simp only[dW,h x (by simp[nY.xs])]
 |wV neg x y|O0 neg x y=>simp only[dW,h x (by simp[nY.xs]),h y (by simp[nY.xs])]
 |mv x|un op x|conv kd x|Ld x|box s x|load s x|pF x|eI s x i|field s x i|ext x i|len x|AE x|WV x|s2b x=>simp only[dW,h x (by simp[nY.xs])]
 |bin op x y|eqa s neg x y|beq neg x y|store s x y|wS m s x y|nk s x y|index m s x y|uZ x y|Sd x y|append s b x y|u5 s b z x y|copy s x y|mks s b z x y=>simp only[dW,h x (by simp[nY.xs]),h y (by simp[nY.xs])]
end Go.Am
namespace Go.Am
variable {C:bf} {P:Program} {n:Nat}
structure DOK0 (ops:List Oper) (al:List aY) (m:Nat):Prop where
 le:m<=ops.length
 back:∀i j,wP ops i j=true->j<i
 quiet:∀i,i<m->∃x o,al[i]?=some x/\ops[i]?=some o/\mE x.op=true/\gG o.op=true/\(∀j,j<m->j≠i->∀t,x.dst=some t->bF al j≠some t)/\(∀t,t∈o6 x->∀j,j<m->bF al j=some t->wP ops i j=true)
structure DOK (ops:List Oper) (al:List aY) (m:Nat):Prop extends DOK0 ops al m where
 tail:∀i,i<ops.length->m<=i->∀j,j<i->wP ops i j=true\/∃k,k<i/\j<k/\wP ops k j=true
structure DOK2 (ops:List Oper) (al:List aY) (m:Nat):Prop extends DOK0 ops al m where
 tail:∀i,i<ops.length->m<=i->∃x,al[i]?=some x/\∀j,j<i->Kv ops 2 i j=true\/(j<m/\∃y t,al[j]?=some y/\y.guard=none/\y.dst=some t/\x.dst≠some t/\t∉o6 x)
theorem Ej{ops:List Oper}{al:List aY}{m:Nat}(h1:Nat.ble m ops.length=true)(h2:((List.range ops.length).all (λi=>match ops[i]? with
  |some o=>o.after.toList.all λe=>!Region.binds .any e||Nat.blt e.on i
  |none=>true))=true)(h3:((List.range m).all (λi=>match al[i]?,ops[i]? with
  |some x,some o=>mE x.op&&gG o.op&&
   (List.range m).all (λj=>j==i||x.dst.isNone||bF al j !=x.dst)&&
   (o6 x).all λt=>(List.range m).all λj=>bF al j !=some t||wP ops i j
  | _,_=>false))=true):DOK0 ops al m:=by
 refine⟨abx h1,λi j hd=>?_,λi hi=>?_⟩
 ·unfold wP at hd
  split at hd
  ·rename_i o ho
   have hi:i<ops.length:=dA ho
   have:=aa7.1 h2 i (by simpa using hi)
   simp only[ho]at this
   obtain⟨e,he,hb⟩:=acv.1 hd
   simp only[aan,acs]at hb
   have:=aa7.1 this e he
   simp only[hb.1,aa8,acy]at this
   rw[<-hb.2]
   exact ad0.mp this
  ·cases hd
 ·have:=aa7.1 h3 i (by simpa using hi)
  split at this
  ·rename_i x o hx ho
   simp only[aan]at this
   obtain⟨⟨⟨q1,q2⟩,q3⟩,q4⟩:=this
   refine⟨x,o,hx,ho,q1,q2,λj hj hne t ht Vc=>?_,λt ht j hj Vc=>?_⟩
   ·have:=aa7.1 q3 j (by simpa using hj)
    simp[hne,ht,Vc]at this
   ·have:=aa7.1 (aa7.1 q4 t ht) j (by simpa using hj)
    simpa[Vc]using this
  ·cases this
theorem Pr{ops:List Oper}{al:List aY}{m:Nat}(h:dOK ops al m=true):DOK ops al m:=by
 simp only[dOK,aan]at h
 obtain⟨⟨⟨h1,h2⟩,h3⟩,h4⟩:=h
 refine⟨Ej h1 h2 h3,λi hi hm j hj=>?_⟩
 ·have:=aa7.1 h4 i (by simpa using hi)
  have hb:Nat.blt i m=false:=by
   cases hb:Nat.blt i m with
   |false=>rfl
   |true=>have:=ad0.mp hb;omega
  rw[hb,acy]at this
  have:=aa7.1 this j (by simpa using hj)
  rcases ad9.1 this with h|h
  ·exact .inl h
  ·obtain⟨k,hk,hb⟩:=acv.1 h
   simp only[aan]at hb
   exact .inr ⟨k,by simpa using hk,ad0.mp hb.1,hb.2⟩
theorem Xi{ops:List Oper}{al:List aY}{m:Nat}(h:WX ops al m=true):DOK2 ops al m:=by
 simp only[WX,aan]at h
 obtain⟨⟨⟨h1,h2⟩,h3⟩,h4⟩:=h
 refine⟨Ej h1 h2 h3,λi hi hm=>?_⟩
 have:=aa7.1 h4 i (by simpa using hi)
 have hb:Nat.blt i m=false:=by
  cases hb:Nat.blt i m with
  |false=>rfl
  |true=>have:=ad0.mp hb;omega
 rw[hb,acy]at this
 split at this
 ·rename_i x hx
  refine⟨x,hx,λj hj=>?_⟩
  have:=aa7.1 this j (by simpa using hj)
  rcases ad9.1 this with h|h
  ·exact .inl h
  ·right
   simp only[aan]at h
   obtain⟨q1,q2⟩:=h
   refine⟨ad0.mp q1,?_⟩
   split at q2
   ·rename_i y hy
    simp only[aan]at q2
    obtain⟨q2,q3⟩:=q2
    split at q3
    ·rename_i t ht
     simp only[aan]at q3
     exact⟨y,t,hy,by simpa using q2,ht,by simpa using q3.1,by simpa using q3.2⟩
    ·cases q3
   ·cases q2
 ·cases this
def Ex(C:bf)(env:Env)(rows:Rows)(x:aY)(d:D)(aa:Rows):Prop:=
 match x.guard with
 |none=>dW C env rows x.op λd2 r2=>d2=d/\r2=aa
 | some (s, want) => (∃ b, look env s = some (.raw (.bool b)) /\ (b = want -> dW C env rows x.op λd2 r2 => d2 = d /\ r2 = aa) /\ (b = !want -> d = .cA [] /\ aa = rows)) \/
   (look env s=some (.cA [])/\d= .cA []/\aa=rows)
theorem ex_of(hN:∀f,C.fy f=none){x:aY}{l:List aY}{env:Env}{rows:Rows}{K:Env->Rows->Prop}(h:ec C (x::l) env rows K)(hq:mE x.op=true):
  ∃d new,Ex C env rows x d (rows++new)/\ec C l (put x.dst d env) (rows++new) K:=by
 obtain⟨dst,o,g⟩:=x
 cases g with
 |none=>
  obtain⟨d,new,h1,h2⟩:=GV hN o hq _ h
  exact⟨d,new,h2,h1⟩
 | some sw =>
  obtain⟨s,want⟩:=sw
  obtain⟨v,hv,h⟩:=au h
  split at h
  ·rename_i b
   by_cases hb:b=want
   ·obtain⟨d,new,h1,h2⟩:=GV hN o hq _ (h.1 hb)
    refine⟨d,new,.inl ⟨b,hv,λ_=>h2,λh3=>?_⟩,h1⟩
    rw[hb]at h3
    cases want<;>cases h3
   ·have HF:b=!want:=by cases b<;>cases want<;>simp_all
    refine⟨.cA [],[],.inl ⟨b,hv,λh3=>absurd h3 hb,λ_=>⟨rfl,by simp⟩⟩,?_⟩
    simpa using h.2 HF
  ·exact⟨.cA [],[],.inr ⟨hv,rfl,by simp⟩,by simpa using h⟩
  ·exact h.elim
def nh(al:List aY)(Dd:Nat->D)(env:Env):Nat->Env
 |0=>env
 |i+1=>put (bF al i) (Dd i) (nh al Dd env i)
theorem H3(al:List aY)(env:Env){D1 D2:Nat->D}:∀(i:Nat),(∀j,j<i->D1 j=D2 j)->nh al D1 env i=nh al D2 env i
 |0,_=>rfl
 |i+1,h=>by simp only[nh,h i (by omega),H3 al env i (λj hj=>h j (by omega))]
theorem trace(hN:∀f,C.fy f=none){al:List aY}{env:Env}{rows:Rows}{K:Env->Rows->Prop}:∀(m:Nat),m<=al.length->(∀i,i<m->∃x,al[i]?=some x/\mE x.op=true)->ec C al env rows K->
  ∃(Dd:Nat->D) (R:Nat->Rows),R 0=rows/\(∀i,i<m->∃x new,al[i]?=some x/\R (i+1)=R i++new/\Ex C (nh al Dd env i) (R i) x (Dd i) (R (i+1)))/\ec C (al.drop m) (nh al Dd env m) (R m) K
 |0,_,_,h=>⟨λ_=>default,λ_=>rows,rfl,λi hi=>by omega,by simpa[nh]using h⟩
 | m + 1, hm, hq, h => by
  obtain⟨Dd,R,h1,h2,h3⟩:=trace hN m (by omega) (λi hi=>hq i (by omega)) h
  obtain⟨x,hx,hqx⟩:=hq m (by omega)
  have hdrop:al.drop m=x::al.drop (m+1):=by
   have hlt:m<al.length:=by omega
   rw[abD hlt]
   congr 1
   rw[aap hlt]at hx
   exact abg hx
  rw[hdrop]at h3
  obtain⟨d,new,g1,g2⟩:=ex_of hN h3 hqx
  have Xj:bF al m=x.dst:=by simp[bF,hx]
  let Dd':Nat->D:=λj=>if j=m then d else Dd j
  let R':Nat->Rows:=λj=>if j=m+1 then R m++new else R j
  have yL:∀i,i<=m->nh al Dd' env i=nh al Dd env i:=λi hi=>H3 al env i (λj hj=>by simp only[Dd'];rw[aaA (by omega)])
  have hR:∀i,i<=m->R' i=R i:=λi hi=>by simp only[R'];rw[aaA (by omega)]
  have hRm:R' (m+1)=R m++new:=by simp[R']
  have hDm:Dd' m=d:=by simp[Dd']
  refine⟨Dd',R',by rw[hR 0 (by omega)];exact h1,λi hi=>?_,?_⟩
  ·by_cases OR:i=m
   ·subst OR
    refine⟨x,new,hx,by rw[hRm,hR i (by omega)],?_⟩
    rw[yL i (by omega),hR i (by omega),hRm,hDm]
    exact g1
   ·obtain⟨x',new',q1,q2,q3⟩:=h2 i (by omega)
    refine⟨x',new',q1,by rw[hR (i+1) (by omega),hR i (by omega)];exact q2,?_⟩
    have:Dd' i=Dd i:=by simp only[Dd'];rw[aaA OR]
    rw[yL i (by omega),hR i (by omega),hR (i+1) (by omega),this]
    exact q3
  ·simp only[nh]
   rw[yL m (by omega),hRm,hDm,Xj]
   exact g2
theorem xu{al:List aY}{Dd:Nat->D}{env:Env}{t:Nat}:∀(i:Nat),(∀j,j<i->bF al j≠some t)->look (nh al Dd env i) t=look env t
 |0,_=>rfl
 | i + 1, h => by
  have h1:=h i (by omega)
  have ih:=xu (Dd:=Dd) (env:=env) i (λj hj=>h j (by omega))
  simp only[nh]
  cases hd:bF al i with
  |none=>exact ih
  | some s =>
   simp only[put,look]
   have:(s==t)=false:=by
    have:s≠t:=λe=>h1 (by rw[hd,e])
    simpa using this
   rw[this]
   exact ih
theorem xv{al:List aY}{Dd:Nat->D}{env:Env}{t k:Nat}(hk:bF al k=some t):∀(i:Nat),k<i->(∀j,j<i->j≠k->bF al j≠some t)->look (nh al Dd env i) t=some (Dd k)
 |0,h,_=>by omega
 | i + 1, h, hu => by
  by_cases hi:i=k
  ·subst hi
   simp[nh,hk,put,look]
  ·have ih:=xv (Dd:=Dd) (env:=env) hk i (by omega) (λj hj=>hu j (by omega))
   have h1:=hu i (by omega) hi
   simp only[nh]
   cases hd:bF al i with
   |none=>exact ih
   | some s =>
    simp only[put,look]
    have:(s==t)=false:=by
     have:s≠t:=λe=>h1 (by rw[hd,e])
     simpa using this
    rw[this]
    exact ih
def kq(ρ:Pl)(k:Nat):Pl:=λr=>if r<k then ρ r else none
theorem Ps{ρ:Pl}{k k':Nat}(h:k<=k'):∀r L,kq ρ k r=some L->kq ρ k' r=some L:=by
 intro r L hr
 unfold kq at hr⊢
 split at hr
 ·rw[aaI (by omega)];exact hr
 ·cases hr
theorem lL{ρ:Pl}{k:Nat}:∀r L,kq ρ k r=some L->ρ r=some L:=by
 intro r L hr
 unfold kq at hr
 split at hr
 ·exact hr
 ·cases hr
def small(env:Env):List Nat->Env
 |[]=>[]
 |t::l=>match look env t with
  |some d=>(t,d)::small env l
  |none=>small env l
theorem qT {env : Env} : ∀ {l : List Nat} {t : Nat}, t ∈ l -> look (small env l) t = look env t
 | s :: l, t, h => by
  simp only[small]
  by_cases hst:s=t
  ·subst hst
   cases hl:look env s with
   |some d=>simp[look]
   | none =>
    simp only
    by_cases hm:s∈l
    ·rw[qT hm];exact hl
    ·have:∀(l:List Nat),s∉l->look (small env l) s=none:=by
      intro l
      induction l with
      |nil=>intro _;rfl
      | cons q l ih =>
       intro hq
       simp only[aaW,not_or]at hq
       simp only[small]
       cases hlq:look env q with
       |none=>exact ih hq.2
       |some d=>
        simp only[look]
        have:(q==s)=false:=by simpa using λe=>hq.1 (Eq.symm e)
        rw[this]
        exact ih hq.2
     exact this l hm
  ·have ht:t∈l:=by
    rcases aaW.1 h with h|h
    ·exact absurd h.symm hst
    ·exact h
   cases hl:look env s with
   |none=>exact qT ht
   |some d=>
    simp only[look]
    have:(s==t)=false:=by simpa using hst
    rw[this]
    exact qT ht
theorem yM{env:Env}:∀{l:List Nat} {t:Nat} {d:D},look (small env l) t=some d->t∈l/\look env t=some d
 |[],t,d,h=>by simp[small,look]at h
 | s :: l, t, d, h => by
  simp only[small]at h
  cases hl:look env s with
  |none=>
   rw[hl]at h
   obtain⟨h1,h2⟩:=yM h
   exact⟨by simp[h1],h2⟩
  | some x =>
   rw[hl]at h
   simp only[look]at h
   cases hb:(s==t)with
   |true=>
    have:s=t:=by simpa using hb
    subst this
    rw[hb]at h
    simp at h
    exact⟨by simp,by rw[hl,h]⟩
   |false=>
    rw[hb]at h
    obtain⟨h1,h2⟩:=yM (by simpa using h)
    exact⟨by simp[h1],h2⟩
theorem vp:∀{l:List X} {t:Nat},.tmp t∈l->t∈w5 l
 | x :: l, t, h => by
  rcases aaW.1 h with h'|h'
  ·subst h';simp[w5]
  ·have ih:=vp h'
   cases x with
   |tmp s=>simp[w5,ih]
   |const _=>simpa[w5]using ih
   |aX _=>simpa[w5]using ih
theorem fK{R R' new:Rows}{r:Nat}(h:R'=R++new)(hr:r<R.length):live R' r=live R r:=by
 subst h
 unfold live
 rw[aaN hr]
end Go.Am
namespace Go.Am
variable {C:bf} {P:Program} {n:Nat}
theorem xy{all:List Oper}:∀{l:List Oper} {al:List aY},wZ P n all l=some al->al.length=l.length/\∀(i:Nat) (o:Oper) (x:aY),l[i]?=some o->al[i]?=some x->
  Si n o.dst=true/\cOp P o.op=some x.op/\mD all o.guard=some x.guard/\x.dst=o.dst
 |[],al,h=>by simp[wZ]at h;subst h;simp
 |o::l,al,h=>by
  obtain⟨ao,g,r,h0,h1,h2,h3,rfl⟩:=Eh h
  obtain⟨g1,g2⟩:=xy h3
  refine⟨by simp[g1],λi o' x hi hx=>?_⟩
  cases i with
  |zero=>simp at hi hx;subst hi;subst hx;exact⟨h0,h1,h2,rfl⟩
  |succ i=>exact g2 i o' x (by simpa using hi) (by simpa using hx)
theorem Step.to{ρ ρ' ZO:Pl}{T T' Zg:Nat->Prop}{rows aa Hw:Rows}{w w' w'':World}(h:Step ρ T rows w ρ' T' aa w')(h':Step ρ' T' aa w' ZO Zg Hw w''):Step ρ T rows w ZO Zg Hw w'':=h.trans h'
theorem ex_wp(hN:∀f,C.fy f=none)(hC:aJ C P){ops:Array Oper}{i:Nat}{o:Oper}{x:aY}(ho:ops[i]?=some o)(hop:cOp P o.op=some x.op)(hgd:mD ops.toList o.guard=some x.guard){env:Env}{rows aa:Rows}{d:D}{ρ:Pl}{T:Nat->Prop}{a:Act}{w:World}
  {Q':Exit->Act->World->Prop}{next:Act->World->Prop}(hs:eQ n ρ T env rows a w)(hg:eJ C w T)(hq:gG o.op=true)(hx:Ex C env rows x d aa)
  (hn:∀ρ' T' v w',eQ n ρ' T' env aa a w'->Step ρ T rows w ρ' T' aa w'->VR ρ' w' T' d v->(QH ρ rows w w'/\∀b,T' b->T b\/w.heap.size<=b)->next (a.put o.dst v) w'):wpOp P ops Q' i next a w:=by
 have go:∀(h:dW C env rows x.op λd2 r2=>d2=d/\r2=aa),o.wp P a w next Q':=by
  intro h
  refine xp hs hg hC hop h ?_
  rintro d2 r2 ρ' T' v w' ⟨rfl,rfl⟩ gy hst hv hk
  exact hn ρ' T' v w' gy hst hv (hk hN hq)
 have skip:d= .cA []->aa=rows->next (a.put o.dst undef) w:=by
  rintro rfl rfl
  exact hn ρ T undef w hs (Step.refl _ _ _ _) ⟨#[],rfl,.nil⟩ ⟨λ_ _=> .inl rfl,λ_ h=> .inl h⟩
 unfold wpOp
 simp only[ho]
 cases SD:o.guard with
 |none=>
  rw[SD]at hgd
  simp[mD]at hgd
  have hw:Region.wanted o (yielded ops a.tmps)=true:=by simp[Region.wanted,SD]
  rw[aaI hw]
  refine .inl (go ?_)
  unfold Ex at hx
  rw[<-hgd]at hx
  exact hx
 | some jw =>
  obtain⟨j,want⟩:=jw
  rw[SD]at hgd
  simp only[mD]at hgd
  split at hgd
  ·rename_i oj hj
   split at hgd
   ·rename_i t ht
    have hgx:x.guard=some (t,want):=by simpa using hgd.symm
    have oe:ops[j]?=some oj:=by simpa using hj
    unfold Ex at hx
    rw[hgx]at hx
    rcases hx with⟨b,Hz,sn,BQ⟩|⟨Hz,sn,BQ⟩
    ·have hb:=VR.ofRaw (hs.env t _ Hz)
     have xq:a.tmps[t]?=some (.bool b):=by
      unfold Array.getD at hb
      split at hb
      ·rename_i hlt
       rw[abw hlt]
       simpa using hb
      ·cases hb
     have hy:yielded ops a.tmps j=some b:=by simp[yielded,oe,ht,xq]
     have hw:Region.wanted o (yielded ops a.tmps)=(b==want):=by
      simp only[Region.wanted,SD,hy]
      cases b<;>cases want<;>rfl
     rw[hw]
     by_cases Xh:b=want
     ·rw[aaI (by simp[Xh])]
      exact .inl (go (sn Xh))
     ·rw[aaA (by simpa using Xh)]
      have HF:b=!want:=by cases b<;>cases want<;>simp_all
      exact skip (BQ HF).1 (BQ HF).2
    ·obtain⟨vs,hvs,bQ⟩:=hs.env t _ Hz
     have SB:vs=#[]:=by
      have:=bQ.len
      apply acb
      exact aaF (by simpa using this.symm)
     subst SB
     have hy:yielded ops a.tmps j=none:=by
      simp only[yielded,oe,abc,ht]
      unfold Array.getD at hvs
      split at hvs
      ·rename_i hlt
       rw[abw hlt]
       have:a.tmps[t]= .tuple #[]:=by simpa using hvs
       rw[this]
      ·rename_i hlt
       rw[acA (by omega)]
     have hw:Region.wanted o (yielded ops a.tmps)=false:=by
      simp only[Region.wanted,SD,hy]
      rfl
     rw[aaA (by rw[hw];simp)]
     exact skip sn BQ
   ·cases hgd
  ·cases hgd
theorem BR(hC:aJ C P){ops:Array Oper}{i:Nat}{o:Oper}{x:aY}(ho:ops[i]?=some o)(hd:Si n o.dst=true)(hop:cOp P o.op=some x.op)(hgd:mD ops.toList o.guard=some x.guard)(Xj:x.dst=o.dst){env:Env}{rows:Rows}{ρ:Pl}{T:Nat->Prop}{a:Act}{w:World}
  {Q':Exit->Act->World->Prop}{next:Act->World->Prop}{l:List aY}{K:Env->Rows->Prop}(hs:eQ n ρ T env rows a w)(hg:eJ C w T)(h:ec C (x::l) env rows K)
  (hn:∀env' aa ρ' T' a' w',ec C l env' aa K->eQ n ρ' T' env' aa a' w'->Step ρ T rows w ρ' T' aa w'->next a' w'):wpOp P ops Q' i next a w:=by
 have j9:=yJ hd
 have go:∀(h:dW C env rows x.op λd rows=>ec C l (put o.dst d env) rows K),o.wp P a w next Q':=by
  intro h
  refine xp hs hg hC hop h ?_
  intro d aa ρ' T' v w' hk gy hst hv _
  exact hn _ aa ρ' T' _ w' hk (gy.put hv j9) hst
 have skip:∀(h:ec C l (put o.dst (.cA []) env) rows K),next (a.put o.dst undef) w:=by
  intro h
  exact hn _ rows ρ T _ w h (hs.put ⟨#[],rfl,.nil⟩ j9) (Step.refl _ _ _ _)
 unfold wpOp
 simp only[ho]
 obtain⟨dst,xo,g⟩:=x
 simp only at hop hgd Xj
 subst Xj
 cases SD:o.guard with
 |none=>
  rw[SD]at hgd
  simp[mD]at hgd
  subst hgd
  have hw:Region.wanted o (yielded ops a.tmps)=true:=by simp[Region.wanted,SD]
  rw[aaI hw]
  exact .inl (go h)
 | some jw =>
  obtain⟨j,want⟩:=jw
  rw[SD]at hgd
  simp only[mD]at hgd
  split at hgd
  ·rename_i oj hj
   split at hgd
   ·rename_i t ht
    cases hgd
    have oe:ops[j]?=some oj:=by simpa using hj
    obtain⟨d,Hz,h⟩:=au h
    have hv:=hs.env t d Hz
    split at h
    ·rename_i b
     have hb:=VR.ofRaw hv
     have xq:a.tmps[t]?=some (.bool b):=by
      unfold Array.getD at hb
      split at hb
      ·rename_i hlt
       rw[abw hlt]
       simpa using hb
      ·cases hb
     have hy:yielded ops a.tmps j=some b:=by simp[yielded,oe,ht,xq]
     have hw:Region.wanted o (yielded ops a.tmps)=(b==want):=by
      simp only[Region.wanted,SD,hy]
      cases b<;>cases want<;>rfl
     rw[hw]
     by_cases Xh:b=want
     ·rw[aaI (by simp[Xh])]
      exact .inl (go (h.1 Xh))
     ·rw[aaA (by simpa using Xh)]
      exact skip (h.2 (by cases b<;>cases want<;>simp_all))
    ·obtain⟨vs,hvs,bQ⟩:=hv
     have SB:vs=#[]:=by
      have:=bQ.len
      apply acb
      exact aaF (by simpa using this.symm)
     subst SB
     have hy:yielded ops a.tmps j=none:=by
      simp only[yielded,oe,abc,ht]
      unfold Array.getD at hvs
      split at hvs
      ·rename_i hlt
       rw[abw hlt]
       have:a.tmps[t]= .tuple #[]:=by simpa using hvs
       rw[this]
      ·rename_i hlt
       rw[acA (by omega)]
     have hw:Region.wanted o (yielded ops a.tmps)=false:=by
      simp only[Region.wanted,SD,hy]
      rfl
     rw[aaA (by rw[hw];simp)]
     exact skip h
    ·exact h.elim
   ·cases hgd
  ·cases hgd
def done(L:Array Bool)(j:Nat):Prop:=L.getD j false=true
theorem dep_spec{ops:Array Oper}{i j:Nat}{o:Oper}(ho:ops[i]?=some o)(h:wP ops.toList i j=true):∃e∈o.after,Region.binds .any e=true/\e.on=j:=by
 unfold wP at h
 have:ops.toList[i]?=some o:=by simpa using ho
 rw[this]at h
 obtain⟨e,he,hb⟩:=acv.1 h
 simp only[aan,acs]at hb
 exact⟨e,by simpa using he,hb⟩
theorem jH{ops:Array Oper}{L:Array Bool}{i:Nat}(h:i∈Region.ready .any ops L):(∃o,ops[i]?=some o)/\L.getD i true=false/\∀j,wP ops.toList i j=true->done L j:=by
 obtain⟨h1,o,ho,h3⟩:=mem_ready.1 h
 refine⟨⟨o,ho⟩,h1,λj hj=>?_⟩
 obtain⟨e,he,hb,rfl⟩:=dep_spec ho hj
 exact h3 e he hb
theorem xz{ops:Array Oper}{L:Array Bool}{i:Nat}(hi:i<ops.size)(h1:L.getD i true=false)(h:∀j,wP ops.toList i j=true->done L j):i∈Region.ready .any ops L:=by
 refine mem_ready.2 ⟨h1,ops[i],abw hi,λe he hb=>?_⟩
 refine h e.on ?_
 unfold wP
 have:ops.toList[i]?=some ops[i]:=by simp[hi]
 rw[this]
 exact acv.2 ⟨e,by simpa using he,by simp[hb]⟩
def j2(L:Array Bool)(k:Nat):Nat:=((List.range k).filter λj=>!L.getD j false).length
theorem kY{L:Array Bool}{i k:Nat}(hi:i<k)(hL:i<L.size)(h:L.getD i true=false):j2 (L.setIfInBounds i true) k<j2 L k:=by
 unfold j2
 have hf:L.getD i false=false:=by
  simp only[Array.getD,hL,dif_pos]at h⊢
  exact h
 have key : ∀ (l : List Nat), i ∈ l -> ((l.filter λj => !(L.setIfInBounds i true).getD j false).length < (l.filter λj => !L.getD j false).length) \/ ¬ l.Nodup := by
  intro l
  induction l with
  |nil=>intro h;cases h
  | cons x l ih =>
   intro hm
   by_cases hx:x=i
   ·subst hx
    by_cases wE:x∈l
    ·right;simp[wE]
    ·left
     have h1:(L.setIfInBounds x true).getD x false=true:=by simp[Array.getD,hL]
     have h2:∀j∈l,(!(L.setIfInBounds x true).getD j false)=!L.getD j false:=by
      intro j hj
      have:x≠j:=λe=>wE (e▸hj)
      rw[getD_set_ne false this]
     rw[ac9,ac9]
     simp only[h1,hf,aa8,aba,abX,adg,abW]
     rw[List.filter_congr h2]
     simp
   ·have wE:i∈l:=by
     rcases aaW.1 hm with h|h
     ·exact absurd h.symm hx
     ·exact h
    rcases ih wE with h|h
    ·left
     have h1:(L.setIfInBounds i true).getD x false=L.getD x false:=getD_set_ne false (λe=>hx e.symm)
     rw[ac9,ac9,h1]
     cases hc:(!L.getD x false)
     ·simpa only[adg,abW]using h
     ·simp only[abX,aaP];omega
    ·right;intro hn;exact h (List.nodup_cons.1 hn).2
 rcases key (List.range k) (by simpa using hi)with h|h
 ·exact h
 ·exact absurd List.nodup_range h
theorem sN{L:Array Bool}{i:Nat}(h:L.getD i true=false):¬done L i/\i<L.size:=by
 unfold done
 by_cases hh:i<L.size
 ·refine⟨?_,hh⟩
  simp only[Array.getD,hh,dif_pos]at h⊢
  rw[h];simp
 ·simp[Array.getD,hh]at h
theorem nE{L:Array Bool}{i:Nat}(h:¬done L i)(hi:i<L.size):L.getD i true=false:=by
 unfold done at h
 simp only[Array.getD,hi,dif_pos]at h⊢
 simpa using h
theorem bP{L:Array Bool}{i j:Nat}(hi:i<L.size):done (L.setIfInBounds i true) j↔done L j\/j=i:=by
 unfold done
 by_cases h:i=j
 ·subst h
  simp[Array.getD,hi]
 ·rw[getD_set_ne false h]
  constructor
  ·exact .inl
  ·rintro(h2|h2)
   ·exact h2
   ·exact absurd h2.symm h
theorem H4{ops:Array Oper}{al:List aY}{m i:Nat}{L:Array Bool}(hd:DOK ops.toList al m)(jZ:∀i,done L i->∀j,wP ops.toList i j=true->done L j)(hi:i<ops.size)(hm:m<=i)(hr:∀j,wP ops.toList i j=true->done L j):
  ∀j,j<i->done L j:=by
 have key:∀(k j:Nat),i-j<=k->j<i->done L j:=by
  intro k
  induction k with
  |zero=>intro j h1 h2;omega
  |succ k ih=>
   intro j h1 h2
   rcases hd.tail i (by simpa using hi) hm j h2 with h|⟨q,Vd,RR,hq3⟩
   ·exact hr j h
   ·exact jZ q (ih q (by omega) Vd) j hq3
 exact λj hj=>key i j (by omega) hj
structure Ky (C:bf) (n:Nat) (al:List aY) (m:Nat) (env:Env) (Dd:Nat->D) (R:Nat->Rows) (kz:Pl) (T0:Nat->Prop) (w0:World) (L:Array Bool) (ρ:Pl) (T:Nat->Prop) (a:Act) (w:World):Prop where
 size:a.tmps.size=n
 defers:a.defers=[]
 wC:∀b,T b->b<w.heap.size
 aX:eJ C w T
 wD:∀r,(R m).length<=r->ρ r=none
 rows:∀j,j<=m->jY (kq ρ (R j).length) (R j) w T
 hole:∀j,j<m->¬done L j->∀r,(R j).length<=r->r<(R (j+1)).length->ρ r=none
 base:∀t d,look env t=some d->(∀j,j<m->done L j->bF al j≠some t)->VR (kq ρ (R 0).length) w T d (a.tmps.getD t undef)
 out:∀j,j<m->done L j->∀t,bF al j=some t->VR (kq ρ (R (j+1)).length) w T (Dd j) (a.tmps.getD t undef)
 step:Step kz T0 (R 0) w0 ρ T (R m) w
theorem Fv{a:Act}{dst:Option Nat}{v:Value}{t:Nat}(h:dst≠some t):(a.put dst v).tmps.getD t undef=a.tmps.getD t undef:=by
 cases dst with
 |none=>rfl
 |some d=>
  have hne:d≠t:=λe=>h (by rw[e])
  simp only[Act.put,aee]
  rw[Array.getElem?_setIfInBounds_ne hne]
theorem Pt{a:Act}{v:Value}{t:Nat}(h:t<a.tmps.size):(a.put (some t) v).tmps.getD t undef=v:=by
 simp[Act.put,Array.getD,h]
theorem Lx{R:Nat->Rows}{m:Nat}(hR:∀i,i<m->∃new,R (i+1)=R i++new):∀(k i:Nat),i+k<=m->∃new,R (i+k)=R i++new
 |0,i,_=>⟨[],by simp⟩
 |k+1,i,h=>by
  obtain⟨new,h1⟩:=Lx hR k i (by omega)
  obtain⟨new2,h2⟩:=hR (i+k) (by omega)
  exact⟨new++new2,by rw[<-ab2,h2,h1,aaC]⟩
theorem Xk{R:Nat->Rows}{m i j:Nat}(hR:∀i,i<m->∃new,R (i+1)=R i++new)(W0:i<=j)(hj:j<=m):∃new,R j=R i++new:=by
 obtain⟨new,h⟩:=Lx hR (j-i) i (by omega)
 exact⟨new,by rwa [show i+(j-i)=j by omega]at h⟩
end Go.Am

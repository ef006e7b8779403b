import Derived.Test.YtcmafnfakehjgaaGreatDoorKi2
import Derived.MapKept
import Derived.LoopN
import Derived.Orders
set_option linter.unusedSimpArgs false
set_option linter.unusedVariables false
namespace Go.Am
variable {C:aU} {P:Program} {n:Nat} {ρ:Pl} {T:Nat->Prop} {env:Env} {rows:Rows} {a:Act} {w:World}
def fB:Pl:=λ_=>none
theorem qK{s:Sh}{d:D}(h:aL s d)(hp:s.pure=true):∀x∈d.flat,∃v,x= .raw v:=by
 induction h with
 |leaf k v hv=>intro x hx;simp[D.flat]at hx;exact⟨v,hx⟩
 |ref d hd=>simp[Sh.pure]at hp
 | agg s l ha hl fK ih =>
  intro x hx
  simp only[D.flat]at hx
  have key:∀(s:Sh) (l:List D),s.isAgg=true->s.pure=true->l.length=s.count->(∀i e d,s.sub i=some e->l[i]?=some d->e.pure=true->∀x∈d.flat,∃v,x= .raw v)->∀x∈ak l,∃v,x= .raw v:=by
   intro s
   induction s with
   |leaf _=>intro l h;simp[Sh.isAgg]at h
   |ref=>intro l h;simp[Sh.isAgg]at h
   |nil=>intro l _ _ hl _ x hx;simp[Sh.count]at hl;subst hl;simp[ak]at hx
   | cons a b _ ihb =>
    intro l ha hp hl h x hx
    cases l with
    |nil=>simp[ak]at hx
    |cons d l=>
     simp only[Sh.pure,aan]at hp
     simp only[ak,aaQ]at hx
     rcases hx with hx|hx
     ·exact h 0 a d rfl rfl hp.1 x hx
     ·exact ihb l (by simpa[Sh.isAgg]using ha) hp.2 (by simpa[Sh.count]using hl) (λi e d' h1 h2=>h (i+1) e d' (by simpa[Sh.sub]using h1) (by simpa using h2)) x hx
   | ar m e _ =>
    intro l _ hp hl h x hx
    simp[Sh.count]at hl
    clear ih
    have:∀(l:List D) (k:Nat),(∀(i:Nat) (d:D),l[i]?=some d->∀x∈d.flat,∃v,x=D.raw v)->∀x∈ak l,∃v,x=D.raw v:=by
     intro l
     induction l with
     |nil=>intro _ _ x hx;simp[ak]at hx
     |cons d l ih=>
      intro k h x hx
      simp only[ak,aaQ]at hx
      rcases hx with hx|hx
      ·exact h 0 d rfl x hx
      ·exact ih k (λi d' lz=>h (i+1) d' (by simpa using lz)) x hx
    exact this l 0 (λi d hd=>h i e d (by simp[Sh.sub];have:=dj hd;omega) hd (by simpa[Sh.pure]using hp)) x hx
  exact key s l ha hp hl (λi e d h1 h2 h3=>ih i e d h1 h2 h3) x hx
theorem lB{s:Sh}{l:List D}(h:∀d∈l,aL s d)(hp:s.pure=true):∀x∈ak l,∃v,x= .raw v:=by
 induction l with
 |nil=>intro x hx;simp[ak]at hx
 |cons d l ih=>
  intro x hx
  simp only[ak,aaQ]at hx
  rcases hx with hx|hx
  ·exact qK (h d (by simp)) hp x hx
  ·exact ih (λe he=>h e (by simp[he])) x hx
theorem LR.ofRaw{ρ':Pl}{w':World}{T':Nat->Prop}{d:D}{v:Value}(h:LR ρ w T d v)(hr:∃x,d= .raw x):LR ρ' w' T' d v:=by
 obtain⟨x,rfl⟩:=hr
 cases h
 rename_i h
 exact .raw _ h
theorem aW.ofRaw{ρ':Pl}{w':World}{T':Nat->Prop}{l:List D}{cs:List Value}(h:aW (LR ρ w T) l cs)(hr:∀x∈l,∃v,x= .raw v):aW (LR ρ' w' T') l cs:=
 ⟨h.len,λi x y hx hy=>(h.at_ i x y hx hy).ofRaw (hr x (bQ hx))⟩
theorem fu:∀{l:List D},aX l=false->∀d∈l,bb d=false
 |[],_,d,hd=>by simp at hd
 |x::l,h,d,hd=>by
  simp[aX]at h
  rcases aaI.1 hd with rfl|hd
  ·exact h.1
  ·exact fu h.2 d hd
theorem pA{s:Sh}{d:D}(h:aL s d)(hr:bb d=false):∀x∈d.flat,bb x=false:=by
 induction h with
 |leaf k v hv=>intro x hx;simp[D.flat]at hx;subst hx;rfl
 |ref d hd=>rw[cn hd];intro x hx;simp at hx;subst hx;exact hr
 | agg s l ha hl fK ih =>
  simp only[bb]at hr
  cases hp:s.pure with
  |true=>
   intro x hx
   obtain⟨v,rfl⟩:=qK (aL.agg s l ha hl fK) hp x hx
   rfl
  | false =>
   simp[hp]at hr
   intro x hx
   simp only[D.flat]at hx
   have hm:=fu hr
   have:∀(l:List D),(∀d∈l,∀x∈d.flat,bb x=false)->∀x∈ak l,bb x=false:=by
    intro l
    induction l with
    |nil=>intro _ x hx;simp[ak]at hx
    |cons d l ih=>
     intro h x hx
     simp only[ak,aaQ]at hx
     rcases hx with hx|hx
     ·exact h d (by simp) x hx
     ·exact ih (λe he=>h e (by simp[he])) x hx
   refine this l (λd hd=>?_) x hx
   obtain⟨i,hi,rfl⟩:=aa0.1 hd
   obtain⟨e,he⟩:=mV (s:=s) (i:=i) (by omega)
   exact ih i e _ he (aao hi) (hm _ hd)
theorem Nb{s:Sh}{l:List D}(h:∀d∈l,aL s d)(hr:aX l=false):∀x∈ak l,bb x=false:=by
 induction l with
 |nil=>intro x hx;simp[ak]at hx
 |cons d l ih=>
  simp[aX]at hr
  intro x hx
  simp only[ak,aaQ]at hx
  rcases hx with hx|hx
  ·exact pA (h d (by simp)) hr.1 x hx
  ·exact ih (λe he=>h e (by simp[he])) hr.2 x hx
theorem LR.closed{d:D}{v:Value}(h:LR ρ w T d v)(hr:bb d=false):LR fB w T d v:=by
 induction h with
 |raw v hv=>exact .raw v hv
 |ptr=>simp[bb]at hr
 |sl=>simp[bb]at hr
 |Bm=>simp[bb]at hr
 |nX=>simp[bb]at hr
 |mp=>simp[bb]at hr
 |Fx=>simp[bb]at hr
 |om s l b es clock h1 h2 h3 h4=>exact .om s l b es clock h1 h2 h3 h4
 |qC s ex a cap h1 h2=>exact .qC s ex a cap h1 h2
 | dh s l ex b o cap f h1 hb h2 h3 h4 h5 ih =>
  refine .dh s l ex b o cap f h1 hb h2 (λi d hd=>?_) h4 h5
  simp only[bb]at hr
  cases hp:s.pure with
  |true=>exact(h3 i d hd).ofRaw (lB h1 hp d (bQ hd))
  |false=>
   simp[hp]at hr
   exact ih i d hd (Nb h1 hr d (bQ hd))
 |cb s d b o f h1 hb h2 h3 ih=>
  simp only[bb]at hr
  exact .cb s d b o f h1 hb h2 (λi x hx=>ih i x hx (pA h1 hr x (bQ hx)))
theorem sJ.closed{d:D}{v:Value}(h:sJ ρ w T d v)(hr:bb d=false):sJ fB w T d v:=by
 cases d with
 |agg s l=>
  obtain⟨cs,rfl,h1,h2⟩:=h
  have:=pA h1 hr
  simp only[D.flat]at this
  exact⟨cs,rfl,h1,h2.len,λi x y hx hy=>(h2.at_ i x y hx hy).closed (this x (bQ hx))⟩
 | _=>exact LR.closed h hr
theorem VR.closed{d:D}{v:Value}(h:VR ρ w T d v)(hr:bb d=false):VR fB w T d v:=by
 cases d with
 |cd l=>
  obtain⟨vs,rfl,h1⟩:=h
  simp only[bb]at hr
  exact⟨vs,rfl,h1.len,λi x y hx hy=>(h1.at_ i x y hx hy).closed (fu hr x (bQ hx))⟩
 |agg s l=>exact sJ.closed (d:= .agg s l) h hr
 | _=>exact LR.closed h hr
theorem AJ:∀{l:List D},lc l=true->∀d∈l,cv d=true
 |[],_,d,hd=>by simp at hd
 |x::l,h,d,hd=>by
  simp[lc]at h
  rcases aaI.1 hd with rfl|hd
  ·exact h.1
  ·exact AJ h.2 d hd
theorem LR.cv{T':Nat->Prop}{w':World}{d:D}{v:Value}(h:LR ρ w T d v)(hr:cv d=true):LR ρ w' T' d v:=by
 cases h with
 |raw v hv=>exact .raw v hv
 |ptr s r p L h1 h2=>exact .ptr s r p L h1 h2
 |sl s r p off len ex L cap h1 h2 h3 h4=>exact .sl s r p off len ex L cap h1 h2 h3 h4
 |Bm s r p off ex a=>exact .Bm s r p off ex a
 |nX n s r p off L h1 h2=>exact .nX n s r p off L h1 h2
 |mp r L h1 h2=>exact .mp r L h1 h2
 |Fx f s r p L h1 h2=>exact .Fx f s r p L h1 h2
 |om=>simp[Am.cv]at hr
 |qC=>simp[Am.cv]at hr
 |dh=>simp[Am.cv]at hr
 |cb=>simp[Am.cv]at hr
theorem SA{s:Sh}{d:D}(h:aL s d)(hr:cv d=true):∀x∈d.flat,cv x=true:=by
 induction h with
 |leaf k v hv=>intro x hx;simp[D.flat]at hx;subst hx;rfl
 |ref d hd=>rw[cn hd];intro x hx;simp at hx;subst hx;exact hr
 | agg s l ha hl fK ih =>
  simp only[cv]at hr
  cases hp:s.pure with
  |true=>
   intro x hx
   obtain⟨v,rfl⟩:=qK (aL.agg s l ha hl fK) hp x hx
   rfl
  | false =>
   simp[hp]at hr
   intro x hx
   simp only[D.flat]at hx
   have hm:=AJ hr
   have:∀(l:List D),(∀d∈l,∀x∈d.flat,cv x=true)->∀x∈ak l,cv x=true:=by
    intro l
    induction l with
    |nil=>intro _ x hx;simp[ak]at hx
    |cons d l ih=>
     intro h x hx
     simp only[ak,aaQ]at hx
     rcases hx with hx|hx
     ·exact h d (by simp) x hx
     ·exact ih (λe he=>h e (by simp[he])) x hx
   refine this l (λd hd=>?_) x hx
   obtain⟨i,hi,rfl⟩:=aa0.1 hd
   obtain⟨e,he⟩:=mV (s:=s) (i:=i) (by omega)
   exact ih i e _ he (aao hi) (hm _ hd)
theorem sJ.cv{T':Nat->Prop}{w':World}{d:D}{v:Value}(h:sJ ρ w T d v)(hr:cv d=true):sJ ρ w' T' d v:=by
 cases d with
 |agg s l=>
  obtain⟨cs,rfl,h1,h2⟩:=h
  have:=SA h1 hr
  simp only[D.flat]at this
  exact⟨cs,rfl,h1,h2.len,λi x y hx hy=>(h2.at_ i x y hx hy).cv (this x (bQ hx))⟩
 | _=>exact LR.cv h hr
theorem VR.cv{T':Nat->Prop}{w':World}{d:D}{v:Value}(h:VR ρ w T d v)(hr:cv d=true):VR ρ w' T' d v:=by
 cases d with
 |cd l=>
  obtain⟨vs,rfl,h1⟩:=h
  simp only[Am.cv]at hr
  exact⟨vs,rfl,h1.len,λi x y hx hy=>(h1.at_ i x y hx hy).cv (AJ hr x (bQ hx))⟩
 |agg s l=>exact sJ.cv (d:= .agg s l) h hr
 | _=>exact LR.cv h hr
theorem HQ{k:Nat}{d:D}(h:d.eZ=true):(shift k d).eZ=true:=by
 cases d with
 |dh s l e=>simp only[shift];cases s.pure<;>rfl
 |raw v=>exact h
 |agg=>simp[D.eZ]at h
 |cd=>simp[D.eZ]at h
 | _=>rfl
theorem vv(k:Nat):∀(l:List D),(bD k l).length=l.length
 |[]=>rfl
 |d::l=>by simp[bD,vv k l]
theorem AK(k:Nat):∀(l:List D) (i:Nat),(bD k l)[i]?=(l[i]?).map (shift k)
 |[],i=>by simp[bD]
 |d::l,0=>by simp[bD]
 |d::l,i+1=>by simp[bD,AK k l i]
theorem SB{k:Nat}{l:List D}(h:∀x∈l,∃v,x= .raw v):l.map (shift k)=l:=by
 have:l.map (shift k)=l.map id:=by
  apply ac4
  intro x hx
  obtain⟨v,rfl⟩:=h x hx
  simp[shift]
 rw[this,List.map_id]
theorem HR{k:Nat}{s:Sh}{d:D}(h:aL s d):aL s (shift k d)/\(shift k d).flat=d.flat.map (shift k):=by
 induction h with
 |leaf j v hv=>exact⟨by simp only[shift];exact .leaf j v hv,by simp[shift,D.flat]⟩
 |ref d hd=>exact⟨.ref _ (HQ hd),by rw[cn hd,cn (HQ hd)];rfl⟩
 | agg s l ha hl fK ih =>
  simp only[shift]
  cases hp:s.pure with
  |true=>
   have hr:=qK (aL.agg s l ha hl fK) hp
   simp only[aaU]
   exact⟨.agg s l ha hl fK,(SB hr).symm⟩
  | false =>
   simp only[aaK]
   refine⟨.agg s _ ha (by rw[vv];exact hl) (λi e d hi hd=>?_),?_⟩
   ·rw[AK]at hd
    cases hx:l[i]? with
    |none=>simp[hx]at hd
    |some x=>
     simp[hx]at hd
     subst hd
     exact(ih i e x hi hx).1
   ·simp only[D.flat]
    have:∀(l:List D),(∀d∈l,(shift k d).flat=d.flat.map (shift k))->ak (bD k l)=(ak l).map (shift k):=by
     intro l
     induction l with
     |nil=>intro _;simp[bD,ak]
     |cons d l ih=>
      intro h
      simp only[bD,ak,adi]
      rw[h d (by simp),ih (λe he=>h e (by simp[he]))]
    refine this l (λd hd=>?_)
    obtain⟨i,hi,rfl⟩:=aa0.1 hd
    obtain⟨e,he⟩:=mV (s:=s) (i:=i) (by omega)
    exact(ih i e _ he (aao hi)).2
theorem Ef{k:Nat}{s:Sh}:∀{l:List D},(∀d∈l,aL s d)->(∀d∈bD k l,aL s d)/\ak (bD k l)=(ak l).map (shift k)
 |[],_=>⟨by simp[bD],by simp[bD,ak]⟩
 |d::l,h=>by
  obtain⟨h1,h2⟩:=Ef (k:=k) (l:=l) (λe he=>h e (by simp[he]))
  obtain⟨h3,h4⟩:=HR (k:=k) (h d (by simp))
  refine⟨λx hx=>?_,by simp[bD,ak,h2,h4]⟩
  simp only[bD,aaI]at hx
  rcases hx with rfl|hx
  ·exact h3
  ·exact h1 x hx
def ig(k:Nat)(ρ ρ':Pl):Pl:=λr=>if r<k then ρ r else ρ' (r-k)
theorem LR.shift{ρ':Pl}{d:D}{v:Value}(k:Nat)(n9:Pl)(h:LR ρ' w T d v):LR (ig k n9 ρ') w T (Am.shift k d) v:=by
 induction h with
 |raw v hv=>exact .raw v hv
 |ptr s r p L h1 h2=>exact .ptr s (r+k) p L (by simp[ig,show¬(r+k<k) by omega,h1]) h2
 |sl s r p off len ex L cap h1 h2 h3 h4=>exact .sl s (r+k) p off len ex L cap (by simp[ig,show¬(r+k<k) by omega,h1]) h2 h3 h4
 |Bm s r p off ex a=>exact .Bm s (r+k) p off ex a
 |nX n s r p off L h1 h2=>exact .nX n s (r+k) p off L (by simp[ig,show¬(r+k<k) by omega,h1]) h2
 |mp r L h1 h2=>exact .mp (r+k) L (by simp[ig,show¬(r+k<k) by omega,h1]) h2
 |Fx f s r p L h1 h2=>exact .Fx f s (r+k) p L (by simp[ig,show¬(r+k<k) by omega,h1]) h2
 |om s l b es clock h1 h2 h3 h4=>exact .om s l b es clock h1 h2 h3 h4
 |qC s ex a cap h1 h2=>
  simp only[Am.shift,bD]
  cases s.pure<;>exact .qC s ex a cap h1 h2
 | dh s l ex b o cap f h1 hb h2 h3 h4 h5 ih =>
  simp only[Am.shift]
  cases hp:s.pure with
  |true=>exact .dh s l ex b o cap f h1 hb h2 (λi d hd=>(h3 i d hd).ofRaw (lB h1 hp d (bQ hd))) h4 h5
  | false =>
   simp only[aaK]
   obtain⟨g1,g2⟩:=Ef (k:=k) h1
   have hl:=vv k l
   have:LR (ig k n9 ρ') w T (.dh s (bD k l) ex) (.slice (some ⟨b,o,none⟩) (bD k l).length cap):=by
    refine .dh s _ ex b o cap f g1 hb (λi d hd=>?_) (λi d hd=>?_) (by omega) (by rw[hl];exact h5)
    ·rw[g2,abl]at hd
     cases hx:(ak l)[i]? with
     |none=>simp[hx]at hd
     |some x=>exact h2 i x hx
    ·rw[g2,abl]at hd
     cases hx:(ak l)[i]? with
     |none=>simp[hx]at hd
     |some x=>
      simp[hx]at hd
      subst hd
      exact ih i x hx
   rwa [hl]at this
 | cb s d b o f h1 hb h2 h3 ih =>
  obtain⟨g1,g2⟩:=HR (k:=k) h1
  simp only[Am.shift]
  refine .cb s _ b o f g1 hb (λi x hx=>?_) (λi x hx=>?_)
  ·rw[g2,abl]at hx
   cases hy:d.flat[i]? with
   |none=>simp[hy]at hx
   |some y=>exact h2 i y hy
  ·rw[g2,abl]at hx
   cases hy:d.flat[i]? with
   |none=>simp[hy]at hx
   |some y=>
    simp[hy]at hx
    subst hx
    exact ih i y hy
theorem aW.shift{ρ':Pl}{l:List D}{cs:List Value}(k:Nat)(n9:Pl)(h:aW (LR ρ' w T) l cs):aW (LR (ig k n9 ρ') w T) (l.map (Am.shift k)) cs:=by
 refine⟨by simp[h.len],λi x y hx hy=>?_⟩
 rw[abl]at hx
 cases hz:l[i]? with
 |none=>simp[hz]at hx
 |some z=>
  simp[hz]at hx
  subst hx
  exact(h.at_ i z y hz hy).shift k n9
theorem sJ.shift{ρ':Pl}{d:D}{v:Value}(k:Nat)(n9:Pl)(h:sJ ρ' w T d v):sJ (ig k n9 ρ') w T (Am.shift k d) v:=by
 cases d with
 |agg s l=>
  obtain⟨cs,rfl,h1,h2⟩:=h
  obtain⟨g1,g2⟩:=HR (k:=k) h1
  have h3:aW (LR ρ' w T) (D.agg s l).flat cs.toList:=by simpa[D.flat]using h2
  have h4:=h3.shift k n9
  rw[<-g2]at h4
  have ha:=(p9 h1).2
  exact sJ.Pk g1 ha h4
 |cd l=>cases h
 | _=>exact sJ.bE (LR.shift k n9 h)
theorem VR.shift{ρ':Pl}{d:D}{v:Value}(k:Nat)(n9:Pl)(h:VR ρ' w T d v):VR (ig k n9 ρ') w T (Am.shift k d) v:=by
 cases d with
 | cd l =>
  obtain⟨vs,rfl,h1⟩:=h
  refine⟨vs,rfl,by rw[vv];exact h1.len,λi x y hx hy=>?_⟩
  rw[AK]at hx
  cases hz:l[i]? with
  |none=>simp[hz]at hx
  |some z=>
   simp[hz]at hx
   subst hx
   exact(h1.at_ i z y hz hy).shift k n9
 |agg s l=>exact VR.zP (sJ.shift (d:= .agg s l) k n9 h)
 | _=>exact VR.bE (LR.shift k n9 h)
theorem op_frzb(hs:eQ n ρ T env rows a w)(hG:wQ C ρ w T){o:Oper}{k:D->Rows->Prop}{t e:TypeId}{x:Operand}{x':X}{s:Sh}(ho:o.op= .convert t t x)(ht:P.underlying t=some (.slice e))(he8:P.underlying e=some (.int .u8))(h1:cX x=some x')
  (h:dX C env rows (.Pa s x') k):bV P n o ρ T env rows a w k:=by
 obtain⟨d,he,hk⟩:=au h
 have hv:=bH h1 he hs hG
 split at hk
 ·rename_i t' r off len ex
  obtain⟨rfl,h0,hk⟩:=hk
  obtain⟨row,hl,hk⟩:=au hk
  obtain⟨hle,hk⟩:=hk
  have mW:LR ρ w T (.sl t' r [] off len ex) _:=hv
  generalize hx:a.eval x=v at mW
  cases mW with
  |Bm=>omega
  | sl _ _ _ _ _ _ L cap hL g1 g2 g3 =>
   have hr:=hs.bF.row r row L hl hL
   obtain⟨cur,tt,⟨fr,c1,c0⟩,c2,c3,c4⟩:=hr.cells (LR.Hz g3)
   let w':World:=w.freeze ⟨L.b,cur.size,none⟩ 1
   have hw':∀b,b≠L.b->w'.heap[b]?=w.heap[b]?:=by
    intro b hb
    show(w.freeze ⟨L.b,cur.size,none⟩ 1).heap[b]?=_
    simp only[World.freeze,Nat.succ_ne_zero,abP,adM]
    rw[aaC (λe=>hb e.symm)]
   have qJ:D8 w w' L.b:=by
    refine⟨cur,tt,fr,(if fr.1==fr.2 then(cur.size,cur.size+1)else(min fr.1 cur.size,max fr.2 (cur.size+1))),c1,?_,?_⟩
    ·show(w.freeze ⟨L.b,cur.size,none⟩ 1).heap[L.b]?=_
     simp only[World.freeze,Nat.succ_ne_zero,abP,adM,c1]
     simp
    ·split
     ·exact .inr (aax _)
     ·rename_i hne
      rcases c0 with c0|c0
      ·rw[c0]at hne;simp at hne
      ·exact .inr (by simp;omega)
   have hsz:w'.heap.size=w.heap.size:=by
    show(w.freeze ⟨L.b,cur.size,none⟩ 1).heap.size=_
    simp[World.freeze]
   obtain⟨g4,g5⟩:=hs.mark (w':=w') hl hL hsz hw' qJ rfl rfl rfl
   refine qD (v:= .slice (some ⟨L.b,L.off []+off*t'.size,none⟩) len cap) hk g4 g5 (VR.bE (.sl _ _ _ _ _ _ L cap hL g1 g2 g3)) (λ_=>⟨λb hb=>?_,λ_ h=> .inl h⟩) ?_
   ·by_cases e:b=L.b
    ·exact .inr ⟨e▸qJ,r,row,L,hl,hL,e.symm⟩
    ·exact .inl (hw' b e)
   ·have hshape:w.shape? L.b=some (tt,cur.size):=by simp[World.shape?,c1]
    simp only[execOp,ho,hx,Sem.run_bind,convert,run_underlying ht,run_underlying he8,Result.andThen_ok,acy,markStringish]
    simp[shape,freeze,Sem.run,Sem.bind,hshape]
    rfl
 ·exact hk.elim
end Go.Am
namespace Go.Am
variable {C:aU} {P:Program} {n:Nat} {ρ:Pl} {T:Nat->Prop} {env:Env} {rows:Rows} {a:Act} {w:World}
def BI(s:Sh):Prop:=(∃c,s= .leaf c)\/(s.isAgg=true/\ot s=true)
theorem tY{t:TypeId}{s:Sh}(h:tV P t s=true):BI s:=by
 unfold tV at h
 split at h
 ·exact .inl ⟨.str,by simpa using h⟩
 ·simp only[aan]at h
  exact .inr ⟨h.1.1.1,h.1.1.2⟩
 ·cases h
theorem LA:∀{s:Sh} {i:Nat} {e:Sh},ot s=true->s.sub i=some e->∃k,e= .leaf k
 | .nil,i,e,_,h=>by simp[Sh.sub]at h
 | .cons (.leaf k) b,0,e,_,h=>by simp[Sh.sub]at h;exact⟨k,h.symm⟩
 | .cons (.leaf k) b,i+1,e,hl,h=>LA (s:=b) (by simpa[ot]using hl) (by simpa[Sh.sub]using h)
 | .cons .ref b,_,_,hl,_| .cons .nil b,_,_,hl,_| .cons (.cons _ _) b,_,_,hl,_| .cons (.ar _ _) b,_,_,hl,_=>by simp[ot]at hl
 | .leaf _,_,_,hl,_| .ref,_,_,hl,_| .ar _ _,_,_,hl,_=>by simp[ot]at hl
def Px(l:List D):Prop:=∀x∈l,∃v k,x= .raw v/\oD v k=true
theorem sU{s:Sh}{l:List D}(h:ot s=true)(ha:s.isAgg=true)(hs:aL s (.agg s l)):Px l:=by
 obtain⟨l',e,hlen,fK⟩:=hs.jX ha
 cases e
 intro x hx
 obtain⟨i,hi,rfl⟩:=aa0.1 hx
 obtain⟨e,he⟩:=mV (s:=s) (i:=i) (by omega)
 obtain⟨k,rfl⟩:=LA h he
 obtain⟨v,hv,hk⟩:=nH (fK i _ _ he (aao hi))
 exact⟨v,k,hv,hk⟩
theorem tZ:∀{l:List D},Px l->ak l=l
 |[],_=>rfl
 |x::l,h=>by
  obtain⟨v,k,rfl,_⟩:=h x (by simp)
  simp[ak,D.flat,tZ (l:=l) λy hy=>h y (by simp[hy])]
theorem yS:∀{l:List D} {cs:List Value},Px l->aW (LR ρ w T) l cs->cs=l.map Bu
 |[],cs,_,h=>aaF (by simpa using h.len.symm)
 |x::l,[],_,h=>by simpa using h.len
 |x::l,c::cs,h,hc=>by
  obtain⟨v,k,rfl,_⟩:=h x (by simp)
  have h1:=VR.ofRaw (VR.bE hc.head)
  have h2:=yS (l:=l) (λy hy=>h y (by simp[hy])) hc.tail
  simp[Bu,h1,h2]
theorem Vh:∀{l:List D},Px l->aW (LR ρ w T) l (l.map Bu)
 |[],_=> .nil
 |x::l,h=>by
  obtain⟨v,k,rfl,hk⟩:=h x (by simp)
  exact .cons (.raw v (Hx hk)) (Vh (l:=l) λy hy=>h y (by simp[hy]))
theorem xz{s t:Sh}{l:List D}(h:Px l):kv (.agg t l)= .agg (l.map Bu).toArray:=by simp[kv,tZ h]
theorem kv_VR{s:Sh}{d:D}{v:Value}(h:BI s)(hd:aL s d)(hv:VR ρ w T d v):v=kv d:=by
 rcases h with⟨_,rfl⟩|⟨ha,hl⟩
 ·obtain⟨x,rfl,_⟩:=nH hd
  exact VR.ofRaw hv
 ·obtain⟨l,rfl,_,_⟩:=hd.jX ha
  obtain⟨cs,rfl,_,hc⟩:=hv
  have hr:=sU hl ha hd
  rw[tZ hr]at hc
  rw[xz (s:=s) hr,<-yS hr hc]
theorem Py{s:Sh}{d:D}(h:BI s)(hd:aL s d):VR ρ w T d (kv d):=by
 rcases h with⟨_,rfl⟩|⟨ha,hl⟩
 ·obtain⟨x,rfl,hk⟩:=nH hd
  exact VR.raw (Hx hk)
 ·obtain⟨l,rfl,_,_⟩:=hd.jX ha
  have hr:=sU hl ha hd
  rw[xz (s:=s) hr]
  exact⟨_,rfl,hd,by rw[tZ hr];simpa using Vh hr⟩
theorem HU{x y:Value}{b:Bool}(h:lu (.raw x) (.raw y)=some b):b=true↔x=y:=by
 cases x<;>cases y<;>simp only[lu]at h<;>try cases h
 ·simp
 ·split at h
  ·rename_i hk;cases h;simp[hk]
  ·cases h
 ·simp
  rename_i p q
  constructor
  ·intro h
   obtain⟨⟨p⟩⟩:=p
   obtain⟨⟨q⟩⟩:=q
   simp[ByteArray.toList_eq]at h
   simpa using h
  ·rintro rfl;rfl
theorem Vi:∀{l l':List D} {b:Bool},Px l->Px l'->DW l l'=some b->(b=true↔l.map Bu=l'.map Bu)
 |[],[],b,_,_,h=>by simp[DW]at h;simp[<-h]
 |[],_::_,b,_,_,h=>by simp[DW]at h
 | _::_,[],b,_,_,h=>by simp[DW]at h
 | x :: l, y :: l', b, h1, h2, h => by
  obtain⟨u,_,rfl,_⟩:=h1 x (by simp)
  obtain⟨v,_,rfl,_⟩:=h2 y (by simp)
  simp only[DW,zJ]at h
  split at h
  ·rename_i t ht
   split at h
   ·rename_i q hq
    cases h
    have e1:=HU ht
    have e2:=Vi (l:=l) (l':=l') (λy hy=>h1 y (by simp[hy])) (λy hy=>h2 y (by simp[hy])) hq
    simp only[aan,abm,Bu,abS,e1,e2]
   ·cases h
  ·cases h
theorem HV{x y:Value}{k:Sc}(hx:oD x k=true)(hy:oD y k=true):∃b,lu (.raw x) (.raw y)=some b:=by
 cases k<;>cases x<;>simp[oD]at hx<;>cases y<;>simp[oD]at hy
 ·subst hx;subst hy;exact⟨_,by simp only[lu,abR];rfl⟩
 ·exact⟨_,rfl⟩
 ·exact⟨_,rfl⟩
theorem Vj:∀{s:Sh} {l l':List D},ot s=true->l.length=s.count->l'.length=s.count->(∀i e d,s.sub i=some e->l[i]?=some d->aL e d)->(∀i e d,s.sub i=some e->l'[i]?=some d->aL e d)->∃b,DW l l'=some b
 | .nil,l,l',_,h1,h2,_,_=>by
  have e1:l=[]:=aaF (by simpa[Sh.count]using h1)
  have e2:l'=[]:=aaF (by simpa[Sh.count]using h2)
  exact⟨true,by rw[e1,e2];rfl⟩
 | .cons (.leaf k) b, l, l', hl, h1, h2, h3, h4 => by
  cases l with
  |nil=>simp[Sh.count]at h1
  | cons x l =>
   cases l' with
   |nil=>simp[Sh.count]at h2
   | cons y l' =>
    obtain⟨u,rfl,hu⟩:=nH (h3 0 (.leaf k) x rfl rfl)
    obtain⟨v,rfl,hv⟩:=nH (h4 0 (.leaf k) y rfl rfl)
    obtain⟨t,ht⟩:=HV hu hv
    obtain⟨q,hq⟩:=Vj (s:=b) (l:=l) (l':=l') (by simpa[ot]using hl) (by simpa[Sh.count]using h1) (by simpa[Sh.count]using h2)
     (λi e d he hd=>h3 (i+1) e d (by simpa[Sh.sub]using he) (by simpa using hd)) (λi e d he hd=>h4 (i+1) e d (by simpa[Sh.sub]using he) (by simpa using hd))
    exact⟨t&&q,by simp[DW,zJ,ht,hq]⟩
 | .cons .ref b,_,_,hl,_,_,_,_| .cons .nil b,_,_,hl,_,_,_,_| .cons (.cons _ _) b,_,_,hl,_,_,_,_| .cons (.ar _ _) b,_,_,hl,_,_,_,_=>by simp[ot]at hl
 | .leaf _,_,_,hl,_,_,_,_| .ref,_,_,hl,_,_,_,_| .ar _ _,_,_,hl,_,_,_,_=>by simp[ot]at hl
theorem Vk{s:Sh}{x y:D}(h:BI s)(hx:aL s x)(hy:aL s y):∃b,zJ x y=some b/\(b=true↔kv x=kv y):=by
 rcases h with⟨_,rfl⟩|⟨ha,hl⟩
 ·obtain⟨u,rfl,hu⟩:=nH hx
  obtain⟨v,rfl,hv⟩:=nH hy
  obtain⟨b,hb⟩:=HV hu hv
  exact⟨b,by simpa[zJ]using hb,by simpa[kv]using HU hb⟩
 ·obtain⟨l,rfl,h1,h2⟩:=hx.jX ha
  obtain⟨l',rfl,h3,h4⟩:=hy.jX ha
  obtain⟨b,hb⟩:=Vj hl h1 h3 h2 h4
  have r1:=sU hl ha hx
  have r2:=sU hl ha hy
  refine⟨b,by simpa[zJ]using hb,?_⟩
  rw[Vi r1 r2 hb,xz (s:=s) r1,xz (s:=s) r2]
  simp
theorem HW{ks vs:Sh}{k:D}(h:BI ks)(hk:aL ks k):∀{l:List D} {o:Option Value},(∀d∈l,aL (pX ks vs) d)->tT k l=some o->
  (∀v,firstM l (kv k) v↔o=some v)
 |[],o,_,hm=>by simp[tT]at hm;subst hm;simp[firstM]
 | d :: l, o, hl, hm => by
  obtain⟨l0,rfl,hlen,fK⟩:=(hl d (by simp)).jX rfl
  simp only[tT]at hm
  split at hm
  ·rename_i k' v' he
   have Ps:aL ks k':=by
    unfold Hs at he
    split at he
    ·rename_i heq;cases heq;cases he;exact fK 0 ks _ rfl rfl
    ·cases he
   obtain⟨b,hb,hiff⟩:=Vk h hk Ps
   rw[hb]at hm
   intro v
   simp only[firstM,he]
   cases b with
   |true=>
    cases hm
    have e:kv k'=kv k:=(hiff.1 rfl).symm
    simp[e]
   |false=>
    have e:¬kv k'=kv k:=λq=>by have:=hiff.2 q.symm;cases this
    have ih:=HW h hk (l:=l) (o:=o) (λd hd=>hl d (by simp[hd])) hm v
    simp[e,ih]
  ·cases hm
theorem HX{ks:Sh}{k:D}(hs:ks= .leaf .str)(hk:aL ks k):MapKept.IsKey .string (kv k):=by
 subst hs
 obtain⟨v,rfl,hv⟩:=nH hk
 cases v<;>simp[oD]at hv
 simp[kv,MapKept.IsKey]
def Keys(ks:Sh)(es:List MapEntry):Prop:=∀e∈es,∃kd,aL ks kd/\e.key=kv kd
theorem xA{t:TypeId}{ks:Sh}{k:D}(hok:D0 P 40 t ks=true)(h:BI ks)(hk:aL ks k)(w:World):∀(es:List MapEntry) (i:Nat),Keys ks es->
  ((Instr.findAsking t (kv k) es i).run P w= .ok none w/\∀e∈es,e.key≠kv k)\/∃j e,(Instr.findAsking t (kv k) es i).run P w= .ok (some (i+j,e.val)) w/\es[j]?=some e/\e.key=kv k
 |[],i,_=> .inl ⟨by simp[Instr.findAsking],by simp⟩
 | e :: es, i, hes => by
  obtain⟨kd,Gv,he⟩:=hes e (by simp)
  obtain⟨b,hb,hiff⟩:=Vk h hk Gv
  have hq:=yR (P:=P) (ρ:=fB) (w:=w) (T:=λ_=>True) 40 9960 hok hk Gv (Py h hk) (Py h Gv) hb
  have hq':(Op.equal t (kv k) e.key).run P w= .ok b w:=by rw[he];exact hq
  cases b with
  |true=>exact .inr ⟨0,e,by simp[Instr.findAsking,Sem.run_bind,hq',Result.andThen],rfl,by rw[he];exact(hiff.1 rfl).symm⟩
  | false =>
   have hne:e.key≠kv k:=λq=>by have:=hiff.2 (by rw[<-q,he]);cases this
   rcases xA hok h hk w es (i+1) (λx hx=>hes x (by simp[hx]))with⟨h1,h2⟩|⟨j,e',h1,h2,h3⟩
   ·refine .inl ⟨by simp[Instr.findAsking,Sem.run_bind,hq',Result.andThen,h1],λx hx=>?_⟩
    rcases aaI.1 hx with rfl|hx
    ·exact hne
    ·exact h2 x hx
   ·exact .inr ⟨j+1,e',by simp[Instr.findAsking,Sem.run_bind,hq',Result.andThen,h1];omega,by simpa using h2,h3⟩
theorem LC{t:TypeId}{ks:Sh}{k:D}(hok:tV P t ks=true)(hk:aL ks k)(w:World)(es:List MapEntry)(hes:Keys ks es):
  ((Instr.findKey t (kv k) es).run P w= .ok none w/\∀e∈es,e.key≠kv k)\/∃j e,(Instr.findKey t (kv k) es).run P w= .ok (some (j,e.val)) w/\es[j]?=some e/\e.key=kv k:=by
 have h:=tY hok
 unfold tV at hok
 split at hok
 ·rename_i hu
  have hs:ks= .leaf .str:=by simpa using hok
  rcases MapKept.findNow_spec (HX hs hk) es 0 (λx hx=>by obtain⟨kd,h1,h2⟩:=hes x hx;rw[h2];exact HX hs h1)with⟨h1,h2⟩|⟨j,e,h1,h2,h3⟩
  ·exact .inl ⟨MapKept.run_findKey hu h1,h2⟩
  ·exact .inr ⟨j,e,by simpa using MapKept.run_findKey (w:=w) hu h1,h2,h3⟩
 ·rename_i fs hu
  simp only[aan]at hok
  cases es with
  |nil=>exact .inl ⟨by simp[Instr.findKey,run_underlying hu,Result.andThen,Instr.findNow],by simp⟩
  | cons e es =>
   have hn:Instr.findNow (.struct fs) (kv k) (e::es) 0=none:=by simp[Instr.findNow,Instr.sameNow]
   have:=xA hok.1.2 h hk w (e::es) 0 hes
   simp only[abk]at this
   have e1:(Instr.findKey t (kv k) (e::es)).run P w=(Instr.findAsking t (kv k) (e::es) 0).run P w:=by
    simp[Instr.findKey,run_underlying hu,Result.andThen,hn]
   rw[e1]
   exact this
 ·cases hok
theorem HY{t:TypeId}(h:D4 P t=true)(em:Bool)(m:Nat)(v:Value)(w:World):(Instr.checkKey em (m+1) t v).run P w= .ok () w:=by
 unfold D4 at h
 split at h
 all_goals first
  |(rename_i hu;unfold Instr.checkKey;simp only[Sem.run_bind,run_underlying hu,Result.andThen_ok];cases v<;>rfl)
  |cases h
theorem vz{t:TypeId}{ks:Sh}{k:D}(hok:tV P t ks=true)(hk:aL ks k)(em:Bool)(w:World):(Instr.checkKey em 10000 t (kv k)).run P w= .ok () w:=by
 unfold tV at hok
 split at hok
 ·rename_i hu
  exact MapKept.run_checkKey hu (HX (by simpa using hok) hk) em 9999
 ·rename_i fs hu
  simp only[aan]at hok
  obtain⟨⟨⟨ha,hl⟩,he⟩,hp⟩:=hok
  obtain⟨l,rfl,hlen,fK⟩:=hk.jX ha
  have hr:=sU hl ha hk
  have ZA:=Py (ρ:=fB) (w:=w) (T:=λ_=>True) (.inr ⟨ha,hl⟩) hk
  rw[xz (s:=ks) hr]at ZA⊢
  obtain⟨cs,hcs,_,bW⟩:=ZA
  cases hcs
  have he':(!P.stoodInHeld t&&ks.isAgg&&fs.toList.length==ks.count&&Sn P (D0 P 39) ks 0 fs.toList)=true:=by
   have:=he
   unfold D0 at this
   rw[hu]at this
   exact this
  simp only[aan,ack]at he'
  obtain⟨⟨_,hc⟩,hf⟩:=he'
  rw[show(10000:Nat)=9999+1 from rfl,Instr.checkKey]
  simp only[Sem.run_bind,run_underlying hu,Result.andThen_ok]
  rw[<-Array.forIn_toList]
  have hlist:∀f∈fs.toList,∃v,f.name≠ "_" /\(part f.type (l.map Bu).toArray f.offset).run P w= .ok v w/\D4 P f.type=true:=by
   have key:∀(gs:List Field) (i:Nat),i+gs.length=ks.count->Sn P (D0 P 39) ks i gs=true->(gs.all λf=>D4 P f.type)=true->
     ∀f∈gs,∃v,f.name≠ "_" /\(part f.type (l.map Bu).toArray f.offset).run P w= .ok v w/\D4 P f.type=true:=by
    intro gs
    induction gs with
    |nil=>intro i _ _ _ f hf;simp at hf
    | cons f gs ih =>
     intro i hi hf hp
     simp only[Sn,aan]at hf
     obtain⟨⟨⟨f1,f2⟩,f3⟩,f4⟩:=hf
     simp only[aaP]at hi
     simp only[List.all_cons,aan]at hp
     split at f3
     ·rename_i e hse
      simp only[aan,ack]at f3
      obtain⟨⟨f5,f6⟩,f7⟩:=f3
      obtain⟨va,r1,r2,r3⟩:=HP (P:=P) hk bW hse (aao (by omega)) f5 f6
      have f1':f.name≠ "_" :=by simpa using f1
      have f2':f.offset=ks.lP i:=by simpa using f2
      intro g hg
      rcases aaI.1 hg with rfl|hg
      ·exact⟨va,f1',by rw[f2'];exact r1,hp.1⟩
      ·exact ih (i+1) (by omega) f4 hp.2 g hg
     ·cases f3
   exact key fs.toList 0 (by omega) hf hp
  generalize fs.toList=L at hlist
  induction L with
  |nil=>simp
  |cons f L ih=>
   obtain⟨v,h1,h2,h3⟩:=hlist f (by simp)
   have h4:=HY h3 em 9998 v w
   simp only[List.forIn_cons,Sem.run_bind,h1,ne_eq,ad9,abR,h2,Result.andThen_ok,h4,Sem.run_pure]
   exact ih (λg hg=>hlist g (by simp[hg]))
 ·cases hok
theorem BJ{v:Value}{k:Sc}(h:oD v k=true)(m:Nat):Instr.sameBits m v v=true:=by
 cases k<;>cases v<;>simp[oD]at h<;>simp[Instr.sameBits,MapKept.bytes_beq]
theorem SC{t:TypeId}{ks:Sh}{k:D}(hok:tV P t ks=true)(hk:aL ks k)(w:World):(Instr.keyThatStays (kv k) (kv k)).run P w= .ok (kv k) w:=by
 have hb : Instr.sameBits 10000 (kv k) (kv k) = true := by
  rcases tY hok with⟨_,rfl⟩|⟨ha,hl⟩
  ·obtain⟨v,rfl,hv⟩:=nH hk
   exact BJ hv _
  ·obtain⟨l,rfl,hlen,fK⟩:=hk.jX ha
   have hr:=sU hl ha hk
   rw[xz (s:=ks) hr]
   show(_&&_)=true
   simp only[acy,ab8,aa4]
   intro p hp
   have:∀(l:List D),Px l->∀p∈(l.map Bu).zip (l.map Bu),Instr.sameBits 9999 p.1 p.2=true:=by
    intro l
    induction l with
    |nil=>intro _ p hp;simp at hp
    | cons x l ih =>
     intro hr p hp
     simp only[abm,List.zip_cons_cons,aaI]at hp
     rcases hp with rfl|hp
     ·obtain⟨v,k,rfl,hk⟩:=hr x (by simp)
      exact BJ hk _
     ·exact ih (λy hy=>hr y (by simp[hy])) p hp
   exact this l hr p (by simpa using hp)
 simp[Instr.keyThatStays,hb]
theorem qZ.push{s:Sh}{l:List D}{es:Array MapEntry}(h:qZ s l es){ks:Sh}{kd d:D}{val:Value}{born:Nat}(hs:s.sub 0=some ks)(hk:aL ks kd)(hd:Hs d=some (kd,val))(hn:∀e∈es.toList,e.key≠kv kd):
  qZ s (d::l) (es.push ⟨kv kd,val,born⟩):=by
 refine⟨h.pure,λe he=>?_,?_,λk v=>?_⟩
 ·simp only[aea,aaQ,aba]at he
  rcases he with he|rfl
  ·exact h.key e he
  ·exact⟨kd,ks,hs,hk,rfl⟩
 ·simp only[aea]
  refine List.pairwise_append.2 ⟨h.lR,by simp,λa ha b hb=>?_⟩
  simp only[aba]at hb
  subst hb
  exact hn a ha
 ·simp only[firstM,hd,aea,aaQ,aba]
  constructor
  ·rintro⟨e,he|rfl,h1,h2⟩
   ·exact .inr ⟨λq=>hn e he (by rw[h1,q]),(h.at_ k v).1 ⟨e,he,h1,h2⟩⟩
   ·exact .inl ⟨h1,h2⟩
  ·rintro(⟨h1,h2⟩|⟨h1,h2⟩)
   ·exact⟨_,.inr rfl,h1,h2⟩
   ·obtain⟨e,he,h3⟩:=(h.at_ k v).2 h2
    exact⟨e,.inl he,h3⟩
theorem qZ.modify{s:Sh}{l:List D}{es:Array MapEntry}(h:qZ s l es){kd d:D}{val:Value}{j:Nat}{e0:MapEntry}(hd:Hs d=some (kd,val))(hj:es[j]?=some e0)(h0:e0.key=kv kd):
  qZ s (d::l) (es.modify j λe=>{e with key:=kv kd,val:=val}):=by
 have lp:∀i:Nat,(es.modify j λe=>{e with key:=kv kd,val:=val})[i]?=if j=i then some {e0 with key:=kv kd,val:=val}else es[i]?:=by
  intro i
  rw[adM]
  split
  ·rename_i e;subst e;simp[hj]
  ·rfl
 have Xe:∀e:MapEntry,e∈(es.modify j λe=>{e with key:=kv kd,val:=val}).toList↔∃i:Nat,(es.modify j λe=>{e with key:=kv kd,val:=val})[i]?=some e:=by
  intro e
  rw[List.mem_iff_getElem?]
  simp only[adk]
 have Vl:∀e:MapEntry,e∈es.toList↔∃i:Nat,es[i]?=some e:=by
  intro e
  rw[List.mem_iff_getElem?]
  simp
 have hone:∀(i:Nat) (e:MapEntry),es[i]?=some e->e.key=kv kd->i=j:=by
  intro i e hi he
  have hp:=List.pairwise_iff_getElem.1 h.lR
  obtain⟨l1,rfl⟩:=aaR.1 hi
  obtain⟨l2,rfl⟩:=aaR.1 hj
  rcases adG i j with h1|h1|h1
  ·exact absurd (show(es.toList[i]'(by simpa using l1)).key=(es.toList[j]'(by simpa using l2)).key from he.trans h0.symm) (hp i j (by simpa using l1) (by simpa using l2) h1)
  ·exact h1
  ·exact absurd (show(es.toList[j]'(by simpa using l2)).key=(es.toList[i]'(by simpa using l1)).key from h0.trans he.symm) (hp j i (by simpa using l2) (by simpa using l1) h1)
 refine⟨h.pure,λe he=>?_,?_,λk v=>?_⟩
 ·obtain⟨i,hi⟩:=(Xe e).1 he
  rw[lp]at hi
  split at hi
  ·cases hi
   obtain⟨kd',ks,g1,g2,g3⟩:=h.key e0 ((Vl _).2 ⟨j,hj⟩)
   exact⟨kd',ks,g1,g2,by rw[<-g3,h0]⟩
  ·exact h.key e ((Vl _).2 ⟨i,hi⟩)
 ·have hkeys:(es.modify j λe=>{e with key:=kv kd,val:=val}).toList.map (·.key)=es.toList.map (·.key):=by
   apply abX
   intro i
   simp only[abl,adk,lp]
   split
   ·rename_i e;subst e;simp[hj,h0]
   ·rfl
  have:=h.lR
  rw[<-List.pairwise_map (f:=λe:MapEntry=>e.key) (R:=λa b=>a≠b)]at this⊢
  rw[hkeys]
  exact this
 ·simp only[firstM,hd]
  constructor
  ·rintro⟨e,he,h1,h2⟩
   obtain⟨i,hi⟩:=(Xe e).1 he
   rw[lp]at hi
   split at hi
   ·cases hi;exact .inl ⟨h1,h2⟩
   ·rename_i hne
    exact .inr ⟨λq=>hne (hone i e hi (by rw[h1,q])).symm,(h.at_ k v).1 ⟨e,(Vl _).2 ⟨i,hi⟩,h1,h2⟩⟩
  ·rintro(⟨h1,h2⟩|⟨h1,h2⟩)
   ·exact⟨_,(Xe _).2 ⟨j,by rw[lp,aaJ rfl]⟩,h1,h2⟩
   ·obtain⟨e,he,h3,h4⟩:=(h.at_ k v).2 h2
    obtain⟨i,hi⟩:=(Vl e).1 he
    refine⟨e,(Xe _).2 ⟨i,?_⟩,h3,h4⟩
    rw[lp,aaC]
    ·exact hi
    ·intro q
     subst q
     rw[hj]at hi
     cases hi
     exact h1 (by rw[<-h3,h0])
theorem HZ{s:Sh}(h:Fy s=true):BI s:=by
 unfold Fy at h
 split at h
 ·exact .inl ⟨_,rfl⟩
 ·simp only[aan]at h
  exact .inr h
theorem dV_kv{s:Sh}{e:D}(h:BI s)(he:aL s e):dV s (kv e)=e:=by
 rcases h with⟨_,rfl⟩|⟨ha,hl⟩
 ·obtain⟨u,rfl,_⟩:=nH he
  rfl
 ·obtain⟨l,rfl,_,_⟩:=he.jX ha
  have hr:=sU hl ha he
  have e1:(l.map Bu).map D.raw=l:=by
   rw[List.map_map]
   refine(ac4 λx hx=>?_).trans (List.map_id l)
   obtain⟨v,_,rfl,_⟩:=hr x hx
   rfl
  rw[xz (s:=s) hr]
  cases s<;>simp[Sh.isAgg,ot]at ha hl<;>simp[dV,Value.cells]<;>simpa using e1
theorem sJ.ofVR{s:Sh}{d:D}{v:Value}(hd:aL s d)(h:VR ρ w T d v):sJ ρ w T d v:=by
 cases d with
 |cd l=>cases hd<;>simp_all[D.eZ]
 |agg=>exact h
 | _=>exact h
theorem zero_kv{t:TypeId}{vs:Sh}{z:D}(hk:BI vs)(hs:sh P t=some vs)(hz:zero P t=some z):aL vs z/\∀w,(zeroValue t).run P w= .ok (kv z) w:=by
 obtain⟨h1,v0,h2,h3,h4⟩:=lS hs hz
 refine⟨h1,?_⟩
 have hv : v0 = kv z := by
  have hb : (match (generalizing := false) v0 with | .agg _ => z.isAgg | .tuple _ => false | _ => !z.isAgg) = true := by
   unfold zero at hz
   split at hz
   ·split at hz
    ·rename_i i hi
     split at hz
     ·rename_i v hv
      obtain⟨HI,hdz⟩:=HH hz
      have hb:=(acU.1 HI).2
      rw[hdz]at hb
      have e0:v0=v:=by
       have:=h2 default
       simp[zeroValue,typeInfo,hi,hv]at this
       exact this.symm
      subst e0
      exact hb
     ·cases hz
    ·cases hz
   ·cases hz
  have h5:=h4 fB default (λ_=>True)
  rcases hk with⟨c,rfl⟩|⟨ha,hl⟩
  ·obtain⟨zx,rfl,hk⟩:=nH h1
   have h6:=yS (l:=[D.raw zx]) (λx hx=>by simp at hx;exact⟨zx,c,hx,hk⟩) (by simpa[D.flat]using h5)
   cases v0<;>simp_all[D.isAgg,Value.cells,Bu,kv]
  ·obtain⟨l,rfl,_,_⟩:=h1.jX ha
   have hr:=sU hl ha h1
   have h6:=yS hr (by simpa[D.flat,tZ hr]using h5)
   rw[xz (s:=vs) hr,<-h6]
   cases v0<;>first|(simp[Value.cells];done)|(simp[D.isAgg]at hb)
 rw[<-hv]
 exact h2
theorem H0{ks vs:Sh}:∀{l:List D} {k v:Value},(∀d∈l,aL (pX ks vs) d)->firstM l k v->∃e,aL vs e/\v=kv e
 |[],_,_,_,h=>h.elim
 | d :: l, k, v, hl, h => by
  obtain⟨l0,rfl,hlen,fK⟩:=(hl d (by simp)).jX rfl
  simp only[firstM]at h
  split at h
  ·rename_i k' v' he
   rcases h with⟨_,rfl⟩|⟨_,h⟩
   ·unfold Hs at he
    split at he
    ·rename_i heq
     cases heq
     cases he
     exact⟨_,fK 1 vs _ rfl rfl,rfl⟩
    ·cases he
   ·exact H0 (λd hd=>hl d (by simp[hd])) h
  ·exact h.elim
theorem AL:∀{s:Sh},ot s=true->s.pure=true
 | .nil,_=>rfl
 | .cons (.leaf _) b,h=>by simp[Sh.pure,AL (s:=b) (by simpa[ot]using h)]
 | .cons .ref b,h| .cons .nil b,h| .cons (.cons _ _) b,h| .cons (.ar _ _) b,h=>by simp[ot]at h
 | .leaf _,h| .ref,h| .ar _ _,h=>by simp[ot]at h
theorem mpS_pure{t:TypeId}{ks vs:Sh}(hok:tV P t ks=true)(hv:Fy vs=true):(pX ks vs).pure=true:=by
 have h1:ks.pure=true:=by
  rcases tY hok with⟨_,rfl⟩|⟨_,h⟩
  ·rfl
  ·exact AL h
 have h2:vs.pure=true:=by
  rcases HZ hv with⟨_,rfl⟩|⟨_,h⟩
  ·rfl
  ·exact AL h
 simp[Sh.pure,h1,h2]
theorem vA{t:TypeId}{ks vs:Sh}(h:Ll P t=some (ks,vs)):∃kt et,P.underlying t=some (.map kt et)/\sh P kt=some ks/\sh P et=some vs/\tV P kt ks=true/\Fy vs=true:=by
 unfold Ll mapT at h
 obtain⟨⟨kt,et⟩,h1,h⟩:=aF h
 split at h1
 ·rename_i hu
  cases h1
  obtain⟨ks',h2,h⟩:=aF h
  obtain⟨vs',h3,h⟩:=aF h
  obtain⟨h4,h⟩:=cE h
  cases h
  simp only[aan]at h4
  exact⟨_,_,hu,h2,h3,h4.1,h4.2⟩
 ·cases h1
section ops
variable (hs:eQ n ρ T env rows a w) (hG:wQ C ρ w T) {o:Oper} {k:D->Rows->Prop}
include hs hG
omit hG in
theorem op_mkm{t kt:TypeId}{ks vs:Sh}(ho:o.op= .makeMap t none)(hok:tV P kt ks=true)(hvs:Fy vs=true)(h:dX C env rows (.Zt ks vs) k):bV P n o ρ T env rows a w k:=by
 obtain⟨g1,g2⟩:=hs.pushMap (w':={w with heap:=w.heap.push (.map #[] 0)}) (pX ks vs) (mpS_pure hok hvs) rfl rfl rfl rfl
 refine qD (v:= .map (some w.heap.size)) h g1 g2 (VR.bE (.mp rows.length ⟨w.heap.size,pX ks vs,0,true⟩ (by simp[u6]) rfl)) (λ_=>⟨λb hb=> .inl (tW hb),λ_ h=> .inl h⟩) ?_
 simp only[execOp,ho]
 rfl
theorem Vm{t kt et:TypeId}{ks vs:Sh}{m x v:Operand}{m' x' v':X}(ho:o.op= .mapUpdate t m x v\/o.op= .insert t m x v)(hu:P.underlying t=some (.map kt et))(hok:tV P kt ks=true)(hvs:Fy vs=true)
  (h1:cX m=some m')(h2:cX x=some x')(h3:cX v=some v')(h:dX C env rows (.je ks vs m' x' v') k):bV P n o ρ T env rows a w k:=by
 obtain⟨dm,he1,hk⟩:=au h
 have hvm:=bH h1 he1 hs hG
 split at hk
 ·rename_i r
  obtain⟨kd,xq,hk⟩:=au hk
  obtain⟨dv,he3,hk⟩:=au hk
  have hvk:=bH h2 xq hs hG
  have hvv:=bH h3 he3 hs hG
  obtain⟨hf,hfv,hk⟩:=hk
  obtain⟨row,hl,hk⟩:=au hk
  obtain⟨hsh,hk⟩:=hk
  have Xf:=(hvk.cells hf).1
  have hVs:=(hvv.cells hfv).1
  have ek:=kv_VR (tY hok) Xf hvk
  have ev':=kv_VR (HZ hvs) hVs hvv
  have hlm:LR ρ w T (.mp r) _:=hvm
  generalize hm:a.eval m=vm at hlm
  cases hlm with
  | mp _ L hL hmp =>
   have hrow:=hs.bF.row r row L hl hL
   obtain⟨es,clock,hb,hR⟩:=hrow.rb hmp
   have hKeys:Keys ks es.toList:=λe he=>by
    obtain⟨kd',ks',g1,g2,g3⟩:=hR.key e he
    rw[hsh]at g1
    cases g1
    exact⟨kd',g2,g3⟩
   have gR:∀d∈D.agg (pX ks vs) [kd,dv]::row.els,aL row.sh d:=by
    intro d hd
    rcases aaI.1 hd with rfl|hd
    ·rw[hsh]
     refine .agg _ _ rfl rfl λi e d hi hd=>?_
     match i,hi,hd with
     |0,hi,hd=>simp[Sh.sub]at hi hd;subst hi;subst hd;exact Xf
     |1,hi,hd=>simp[Sh.sub]at hi hd;subst hi;subst hd;exact hVs
     |i+2,hi,hd=>simp[Sh.sub]at hi
    ·exact hrow.els d hd
   have hlt:L.b<w.heap.size:=hrow.lt
   have fin:∀es' clock',qZ row.sh (D.agg (pX ks vs) [kd,dv]::row.els) es'->(Instr.mapUpdate t (.map (some L.b)) (kv kd) (kv dv)).run P w= .ok () {w with heap:=w.heap.setIfInBounds L.b (.map es' clock')}->bV P n o ρ T env rows a w k:=by
    intro es' clock' RW hrun
    obtain⟨u1,u2⟩:=hs.Z8 (w':={w with heap:=w.heap.setIfInBounds L.b (.map es' clock')}) hl hL _ es' clock' hmp gR RW (by simp[hlt]) (λb hb=>by simp[abh hb]) (by simp) rfl rfl rfl
    refine⟨_,_,ρ,T,undef,_,hk,u1,u2,?_,.inr ⟨?_,rfl⟩,λhq=>by rcases ho with ho|ho<;>rw[ho]at hq<;>cases hq⟩
    ·exact⟨#[],rfl,.nil⟩
    ·rcases ho with ho|ho<;>simp[execOp,ho,hm,ek,ev',hrun]
   rcases LC hok Xf w es.toList hKeys with⟨q1,q2⟩|⟨j,e,q1,q2,q3⟩
   ·refine fin _ (clock+1) (hR.push (born:=clock) (by rw[hsh];rfl) Xf rfl q2) ?_
    simp[Instr.mapUpdate,run_underlying hu,MapKept.run_getObj_map hb,vz hok Xf,q1,MapKept.run_setObj_map _ hb,Result.andThen]
   ·have q2':es[j]?=some e:=by simpa using q2
    refine fin _ clock (hR.modify (d:= .agg (pX ks vs) [kd,dv]) rfl q2' q3) ?_
    simp[Instr.mapUpdate,run_underlying hu,MapKept.run_getObj_map hb,vz hok Xf,q1,q2',q3,SC hok Xf,MapKept.run_setObj_map _ hb,Result.andThen]
 ·exact hk.elim
theorem op_mget{t kt et:TypeId}{ks vs:Sh}{ok:Bool}{z:D}{m x:Operand}{m' x':X}(ho:o.op= .lookup t m x ok)(hu:P.underlying t=some (.map kt et))(hok:tV P kt ks=true)(hse:sh P et=some vs)(hz:zero P et=some z)(hzf:z.fits vs=true)(hvs:Fy vs=true)
  (h1:cX m=some m')(h2:cX x=some x')(h:dX C env rows (.Gm ks vs ok z m' x') k):bV P n o ρ T env rows a w k:=by
 obtain⟨dm,he1,hk⟩:=au h
 obtain⟨kd,xq,hk⟩:=au hk
 obtain⟨hf,hk⟩:=hk
 obtain⟨els,gR,hk⟩:=au hk
 obtain⟨r,hr,hk⟩:=au hk
 have hvm:=bH h1 he1 hs hG
 have hvk:=bH h2 xq hs hG
 have Xf:=(hvk.cells hf).1
 have ek:=kv_VR (tY hok) Xf hvk
 have bW : ∃ b es clock, a.eval m = .map (some b) /\ w.heap[b]? = some (.map es clock) /\ qZ (pX ks vs) els es /\ ∀ d ∈ els, aL (pX ks vs) d := by
  unfold Ht at gR
  split at gR
  ·rename_i r' RZ
   split at gR
   ·rename_i row hl
    have hlm:LR ρ w T (.mp r') _:=hvm
    generalize hm:a.eval m=vm at hlm
    cases hlm with
    | mp _ L hL hmp =>
     have hrow:=hs.bF.row r' row L hl hL
     obtain⟨es,clock,hb,hR⟩:=hrow.rb hmp
     cases hq:(row.sh==pX ks vs)with
     |false=>simp[hq]at gR
     |true=>
      have hsh:row.sh=pX ks vs:=by simpa using hq
      simp[hq]at gR
      subst gR
      exact⟨L.b,es,clock,rfl,hb,by rw[<-hsh];exact hR,λd hd=>by rw[<-hsh];exact hrow.els d hd⟩
   ·cases gR
  ·rename_i s' l' RZ
   have hlm:LR ρ w T (.om s' l') _:=hvm
   generalize hm:a.eval m=vm at hlm
   cases hlm with
   | om _ _ b es clock g1 g2 g3 g4 =>
    cases hq:(s'==pX ks vs)with
    |false=>simp[hq]at gR
    |true=>
     have hsh:s'=pX ks vs:=by simpa using hq
     simp[hq]at gR
     subst gR
     exact⟨b,es,clock,rfl,g3,by rw[<-hsh];exact g4,λd hd=>by rw[<-hsh];exact g1 d hd⟩
  ·cases gR
 obtain⟨b,es,clock,hm,hb,hR,hE⟩:=bW
 have hspec:=HW (tY hok) Xf hE hr
 have hKeys:Keys ks es.toList:=λe he=>by
  obtain⟨kd',ks',g1,g2,g3⟩:=hR.key e he
  cases g1
  exact⟨kd',g2,g3⟩
 have hKv:=HZ hvs
 obtain⟨hz1,z2⟩:=zero_kv hKv hse hz
 rcases LC hok Xf w es.toList hKeys with⟨q1,q2⟩|⟨j,e,q1,q2,q3⟩
 ·have hnone:r=none:=by
   cases r with
   |none=>rfl
   |some v=>
    obtain⟨e,he,h3,_⟩:=(hR.at_ _ _).2 ((hspec v).2 rfl)
    exact absurd h3 (q2 e he)
  subst hnone
  have hrun:(Instr.lookup t (.map (some b)) (kv kd) ok).run P w= .ok (if ok then .tuple #[kv z,.bool false]else kv z) w:=by
   simp[Instr.lookup,run_underlying hu,MapKept.run_getObj_map hb,vz hok Xf,q1,z2,Result.andThen]
  have hvz:VR ρ w T z (kv z):=Py hKv hz1
  cases ok with
  |false=>
   refine .here hs hk (v:=kv z) hvz ?_
   simp[execOp,ho,hm,ek,hrun]
  |true=>
   refine .here hs hk (v:= .tuple #[kv z,.bool false]) ⟨_,rfl,.cons (sJ.ofVR hz1 hvz) (.cons (sJ.bE (.raw _ rfl)) .nil)⟩ ?_
   simp[execOp,ho,hm,ek,hrun]
 ·have hsome:r=some e.val:=(hspec e.val).1 ((hR.at_ _ _).1 ⟨e,bQ q2,q3,rfl⟩)
  subst hsome
  obtain⟨d,hd1,xu⟩:=H0 hE ((hR.at_ _ _).1 ⟨e,bQ q2,q3,rfl⟩)
  have hvd:VR ρ w T (dV vs e.val) e.val:=by rw[xu,dV_kv hKv hd1];exact Py hKv hd1
  have KD:aL vs (dV vs e.val):=by rw[xu,dV_kv hKv hd1];exact hd1
  have hrun:(Instr.lookup t (.map (some b)) (kv kd) ok).run P w= .ok (if ok then .tuple #[e.val,.bool true]else e.val) w:=by
   simp[Instr.lookup,run_underlying hu,MapKept.run_getObj_map hb,vz hok Xf,q1,Result.andThen]
  cases ok with
  |false=>
   refine .here hs hk (v:=e.val) hvd ?_
   simp[execOp,ho,hm,ek,hrun]
  |true=>
   refine .here hs hk (v:= .tuple #[e.val,.bool true]) ⟨_,rfl,.cons (sJ.ofVR KD hvd) (.cons (sJ.bE (.raw _ rfl)) .nil)⟩ ?_
   simp[execOp,ho,hm,ek,hrun]
end ops
end Go.Am
namespace Go.Am
variable {C:aU} {P:Program} {n:Nat} {ρ:Pl} {T:Nat->Prop} {env:Env} {rows:Rows} {a:Act} {w:World}
theorem lC{α β:Type}{f:α->Option β}:∀{l:List α} {l':List β},eK f l=some l'->l'.length=l.length/\∀(i:Nat) (x:α) (y:β),l[i]?=some x->l'[i]?=some y->f x=some y
 |[],l',h=>by simp[eK]at h;subst h;simp
 | x :: l, l', h => by
  simp only[eK]at h
  split at h
  ·rename_i y hy
   split at h
   ·rename_i ys hys
    cases h
    obtain⟨h1,h2⟩:=lC hys
    refine⟨by simp[h1],λi a b ha hb=>?_⟩
    cases i with
    |zero=>simp at ha hb;subst ha;subst hb;exact hy
    |succ i=>exact h2 i a b (by simpa using ha) (by simpa using hb)
   ·cases h
  ·cases h
theorem vB{f:D->Option D}{R:D->Value->Prop}:∀{l l':List D} {cs:List Value},eK f l=some l'->aW (LR ρ w T) (ak l) cs->
  (∀d∈l,∃s,aL s d)->(∀d∈l,∀d' s cs,f d=some d'->aL s d->aW (LR ρ w T) d.flat cs->aL s d'/\aW R d'.flat cs)->aW R (ak l') cs
 |[],l',cs,h,hc,_,_=>by
  simp[eK]at h;subst h
  have:cs=[]:=aaF (by simpa[ak]using hc.len.symm)
  subst this
  exact .nil
 | x :: l, l', cs, h, hc, hs, hf => by
  simp only[eK]at h
  split at h
  ·rename_i y hy
   split at h
   ·rename_i ys hys
    cases h
    simp only[ak]at hc⊢
    obtain⟨s,hsx⟩:=hs x (by simp)
    have h1:=hc.take x.flat.length
    have h2:=hc.drop x.flat.length
    rw[aaW]at h1
    rw[aa9]at h2
    obtain⟨g1,g2⟩:=hf x (by simp) y s _ hy hsx h1
    have g3:=vB hys h2 (λd hd=>hs d (by simp[hd])) (λd hd=>hf d (by simp[hd]))
    have:=g2.append g3
    rwa [abj]at this
   ·cases h
  ·cases h
theorem lA.readPtrB(h:lA ρ rows w T){s:Sh}{r:Nat}{p:List Nat}{v:Value}{row:Row}{d:D}(hv:LR ρ w T (.ptr s r p) v)(hl:live rows r=some row)(hg:cM row.els p=some d):
  ∃b o cs,v= .pointer (some ⟨b,o,none⟩)/\aL s d/\aW (LR ρ w T) d.flat cs/\At w b o cs/\Su ρ T rows b:=by
 cases hv with
 |ptr _ _ _ L hL hp=>
  obtain⟨b,o,cs,h1,h2,h3,h4⟩:=h.M6 (.ptr s r p L hL hp) hl hg
  cases h1
  exact⟨L.b,L.off p,cs,rfl,h2,h3,h4,.inr ⟨r,row,L,hl,hL,rfl⟩⟩
theorem AM (hr : lA ρ rows w T) : ∀ (k : Nat) (d d' : D) (s : Sh) (cs : List Value), view rows k d = some d' -> aL s d -> aW (LR ρ w T) d.flat cs ->
  aL s d'/\aW (LR fB w (Su ρ T rows)) d'.flat cs
 |0,d,d',s,cs,h,_,_=>by simp[view]at h
 | k + 1, d, d', s, cs, h, hsh, hc => by
  have ih:=λd d' s cs=>AM hr k d d' s cs
  cases d with
  |raw v=>
   simp[view]at h
   subst h
   exact⟨hsh,hc.ofRaw (by simp[D.flat])⟩
  |nX=>simp[view]at h
  |Fx=>simp[view]at h
  | ptr t r p =>
   have wc:(D.ptr t r p).eZ=true:=rfl
   rw[cn wc]at hc
   have we:=hc.len
   match cs,we with
   | [v], _ =>
    have hv:=hc.head
    have BK:s= .ref:=by
     cases hsh with
     |ref=>rfl
    subst BK
    simp only[view]at h
    split at h
    ·rename_i row hl
     split at h
     ·rename_i d0 hg
      obtain⟨b,o',cs',hx,m1,m2,m3⟩:=hr.readPtrB hv hl hg
      cases hp:t.pure with
      |true=>
       simp[hp]at h
       subst h
       refine⟨.ref _ rfl,?_⟩
       rw[cn rfl,hx]
       exact aW.single (LR.AE m1 m3.2 (m2.ofRaw (qK m1 hp)) m3.1)
      | false =>
       simp only[hp,aaK]at h
       split at h
       ·rename_i d1 hd1
        cases h
        obtain⟨q1,q2⟩:=ih d0 d1 t cs' hd1 m1 m2
        refine⟨.ref _ rfl,?_⟩
        rw[cn rfl,hx]
        exact aW.single (LR.AE q1 m3.2 q2 m3.1)
       ·cases h
     ·cases h
    ·cases h
  | cb d0 =>
   have wc:(D.cb d0).eZ=true:=rfl
   rw[cn wc]at hc
   have we:=hc.len
   match cs,we with
   | [v], _ =>
    have hv:=hc.head
    simp only[view]at h
    cases hh:bb d0 with
    |true=>simp[hh]at h
    |false=>
     simp[hh]at h
     subst h
     refine⟨hsh,?_⟩
     rw[cn wc]
     exact aW.single ((hv.closed hh).mono (λ_ _ e=>e) (λ_ _=>rfl) (λ_ hb=> .inl hb))
  |cd=>simp[view]at h
  | mp r =>
   have wc:(D.mp r).eZ=true:=rfl
   rw[cn wc]at hc
   have we:=hc.len
   match cs,we with
   | [v], _ =>
    have hv:=hc.head
    have BK:s= .ref:=by
     cases hsh with
     |ref=>rfl
    subst BK
    simp only[view]at h
    split at h
    ·rename_i row hl
     cases h
     refine⟨.ref _ rfl,?_⟩
     rw[cn rfl]
     cases hv with
     |mp _ L hL hm=>
      have hrow:=hr.row r row L hl hL
      obtain⟨es,clock,h1,h2⟩:=hrow.rb hm
      exact aW.single (.om _ _ _ es clock hrow.els (.inr ⟨r,row,L,hl,hL,rfl⟩) h1 h2)
    ·cases h
  | om t l =>
   have wc:(D.om t l).eZ=true:=rfl
   rw[cn wc]at hc
   have we:=hc.len
   match cs,we with
   | [v], _ =>
    have hv:=hc.head
    have BK:s= .ref:=by
     cases hsh with
     |ref=>rfl
    subst BK
    simp only[view]at h
    cases h
    refine⟨.ref _ rfl,?_⟩
    rw[cn rfl]
    cases hv with
    |om _ _ b es clock h1 hb h2 h3=>exact aW.single (.om _ _ _ es clock h1 (.inl hb) h2 h3)
  | agg t l =>
   obtain⟨rfl,ha⟩:=p9 hsh
   simp only[view]at h
   cases hp:s.pure with
   |true=>
    simp[hp]at h
    subst h
    exact⟨hsh,hc.ofRaw (qK hsh hp)⟩
   | false =>
    simp only[hp,aaK]at h
    split at h
    ·rename_i l' nA
     cases h
     obtain⟨l2,e2,hlen,fK⟩:=hsh.jX ha
     cases e2
     obtain⟨g1,g2⟩:=lC nA
     have hex:∀d∈l,∃e,aL e d:=by
      intro d hd
      obtain⟨i,hi,rfl⟩:=aa0.1 hd
      obtain⟨e,he⟩:=mV (s:=s) (i:=i) (by omega)
      exact⟨e,fK i e _ he (aao hi)⟩
     simp only[D.flat]at hc
     have hc2:=vB (R:=LR fB w (Su ρ T rows)) nA hc hex (λd _ d' s cs h1 h2 h3=>ih d d' s cs h1 h2 h3)
     refine⟨.agg s l' ha (by omega) (λi e d' hi lz=>?_),by simpa[D.flat]using hc2⟩
     have KF:i<l.length:=by have:=dj lz;omega
     have hd:=aao KF
     have hv:=g2 i _ d' hd lz
     have ri:=fK i e _ hi hd
     obtain⟨q1,q2,q3⟩:=hsh.part ha hi
     --its own cells
     have hex2:∃c,aW (LR ρ w T) (l[i]).flat c:=by
      rw[fY hd]at hc
      have:=(hc.drop (ak (l.take i)).length).take (l[i]).flat.length
      rw[aa9,aaW]at this
      exact⟨_,this⟩
     obtain⟨c,hcc⟩:=hex2
     exact(ih _ _ e c hv ri hcc).1
    ·cases h
  | dh t l ex =>
   have wc:(D.dh t l ex).eZ=true:=rfl
   rw[cn wc]at hc
   have we:=hc.len
   match cs,we with
   | [v], _ =>
    have hv:=hc.head
    have BK:s= .ref:=by
     cases hsh with
     |ref=>rfl
    subst BK
    have key:∀l',(∀d∈l',aL t d)->l'.length=l.length->(∀c,aW (LR ρ w T) (ak l) c->aW (LR fB w (Su ρ T rows)) (ak l') c)->d'= .dh t l' ex->aL .ref d'/\aW (LR fB w (Su ρ T rows)) d'.flat [v]:=by
     intro l' h1 h2 h3 h4
     subst h4
     refine⟨.ref _ rfl,?_⟩
     rw[cn rfl]
     refine aW.single ?_
     cases hv with
     |qC _ _ ad cap c1 c2=>
      have:l'=[]:=aaF (by simpa using h2)
      subst this
      exact .qC _ _ _ _ c1 c2
     |dh _ _ _ b o' cap f c1 hb c2 c3 c4 c5=>
      obtain⟨q1,q2⟩:=BB (d:=default) c2 c3
      rw[<-h2]
      exact LR.Pm h1 (.inl hb) (h3 _ q1) q2 (by omega) (by rw[h2];exact c5)
    have gR:∀d∈l,aL t d:=by
     cases hv with
     |qC=>simp
     |dh _ _ _ _ _ _ _ c1=>exact c1
    simp only[view]at h
    cases hp:t.pure with
    |true=>
     simp[hp]at h
     exact key l gR rfl (λc hc=>hc.ofRaw (lB gR hp)) h.symm
    | false =>
     simp only[hp,aaK]at h
     split at h
     ·rename_i l' nA
      cases h
      obtain⟨g1,g2⟩:=lC nA
      refine key l' (λd' lz=>?_) g1 (λc hc=>vB (R:=LR fB w (Su ρ T rows)) nA hc (λd hd=>⟨t,gR d hd⟩) (λd _ d' s cs h1 h2 h3=>ih d d' s cs h1 h2 h3)) rfl
      obtain⟨i,hi,rfl⟩:=aa0.1 lz
      have KF:i<l.length:=by omega
      have hd:=aao KF
      have hv2:=g2 i _ _ hd (aao hi)
      have hex2:∃c,aW (LR ρ w T) (l[i]).flat c:=by
       cases hv with
       |qC=>simp at KF
       |dh _ _ _ b o' cap f c1 hb c2 c3 c4 c5=>
        obtain⟨q1,q2⟩:=BB (d:=default) c2 c3
        rw[fY hd]at q1
        have:=(q1.drop (ak (l.take i)).length).take (l[i]).flat.length
        rw[aa9,aaW]at this
        exact⟨_,this⟩
      obtain⟨c,hcc⟩:=hex2
      exact(ih _ _ t c hv2 (gR _ (abJ KF)) hcc).1
     ·cases h
  | sl t r p off len ex =>
   have wc:(D.sl t r p off len ex).eZ=true:=rfl
   rw[cn wc]at hc
   have we:=hc.len
   match cs,we with
   | [v], _ =>
    have hv:=hc.head
    have BK:s= .ref:=by
     cases hsh with
     |ref=>rfl
    subst BK
    simp only[view]at h
    split at h
    ·rename_i l hl
     cases Lr:(l.length==len)with
     |false=>rw[Lr]at h;simp at h
     | true =>
      rw[Lr]at h
      simp only[abw,aaK]at h
      have hlen:l.length=len:=by simpa using Lr
      obtain⟨ad,cap,c,hH⟩:=hr.holds (s:=t) hv hl rfl hlen (by simp[fg])
      have hexc:ex=true->cap=len:=by
       intro hx
       have mW:=hv
       rw[hH.hv]at mW
       cases mW with
       |sl _ _ _ _ _ _ _ _ _ _ c2 _=>exact c2 hx
       |Bm=>rfl
      have key:∀l',(∀d∈l',aL t d)->l'.length=l.length->aW (LR fB w (Su ρ T rows)) (ak l') c->d'= .dh t l' ex->aL .ref d'/\aW (LR fB w (Su ρ T rows)) d'.flat [v]:=by
       intro l' h1 h2 h3 h4
       subst h4
       refine⟨.ref _ rfl,?_⟩
       rw[cn rfl,hH.hv]
       refine aW.single ?_
       by_cases hz:len=0
       ·have:l'=[]:=aaF (by omega)
        subst this
        rw[hz]
        exact .qC _ _ _ _ (λhx=>by rw[hexc hx,hz]) hH.nil
       ·obtain⟨b,o',Zw,hB⟩:=hH.adr hz
        have Lo:At w b o' c:=by
         intro j x hx
         obtain⟨b2,o2',e1,e2⟩:=hH.at_ j x hx
         rw[Zw]at e1
         cases e1
         exact e2
        rw[Zw]
        have e:len=l'.length:=by omega
        have hcap:=hH.hcap
        rw[e]
        exact LR.Pm h1 hB h3 Lo (by omega) (λhx=>by rw[hexc hx,e])
      cases hp:t.pure with
      |true=>
       simp[hp]at h
       exact key l hH.els rfl (hH.hcs.ofRaw (lB hH.els hp)) h.symm
      | false =>
       simp only[hp,aaK]at h
       split at h
       ·rename_i l' nA
        cases h
        obtain⟨g1,g2⟩:=lC nA
        refine key l' (λd' lz=>?_) g1 (vB (R:=LR fB w (Su ρ T rows)) nA hH.hcs (λd hd=>⟨t,hH.els d hd⟩) (λd _ d' s cs h1 h2 h3=>ih d d' s cs h1 h2 h3)) rfl
        obtain⟨i,hi,rfl⟩:=aa0.1 lz
        have KF:i<l.length:=by omega
        have hd:=aao KF
        have hv2:=g2 i _ _ hd (aao hi)
        have hex2:∃c,aW (LR ρ w T) (l[i]).flat c:=by
         have q1:=hH.hcs
         rw[fY hd]at q1
         have:=(q1.drop (ak (l.take i)).length).take (l[i]).flat.length
         rw[aa9,aaW]at this
         exact⟨_,this⟩
        obtain⟨cc,hcc⟩:=hex2
        exact(ih _ _ t cc hv2 (hH.els _ (abJ KF)) hcc).1
       ·cases h
    ·cases h
theorem Nc(hr:lA ρ rows w T){k:Nat}{d d':D}{v:Value}(h:view rows k d=some d')(hv:VR ρ w T d v):VR fB w (Su ρ T rows) d' v:=by
 cases d with
 |agg s l=>
  obtain⟨cs,rfl,h1,h2⟩:=hv
  obtain⟨g1,g2⟩:=AM hr k _ d' s cs.toList h h1 (by simpa[D.flat]using h2)
  exact VR.zP (sJ.Pk g1 (p9 h1).2 g2)
 |cd l=>cases k<;>simp[view]at h
 | _=>
  have hl:=LR.leaf hv
  obtain⟨g1,g2⟩:=AM hr k _ d' .ref [v] h (.ref _ hl) (by rw[cn hl];exact aW.single hv)
  have nA:=g1.qY rfl
  rw[cn nA]at g2
  exact VR.bE g2.head
structure Eg (K:D->Rows->Prop) (ρ:Pl) (T:Nat->Prop) (rows:Rows) (w:World) (e:Ending) (w':World):Prop where
 ex:∃v d aa ρ' T',e= .returned v/\K d aa/\lA ρ' aa w' T'/\(∀r,aa.length<=r->ρ' r=none)/\(∀b,T' b->b<w'.heap.size)/\Step ρ T rows w ρ' T' aa w'/\VR ρ' w' T' d v
def aQ(G:Nat->Option D)(P:Program)(f:FuncId)(A:lQ):Prop:=
 ∀ds rows K,A ds rows K->∀(ρ:Pl) (w:World) (T:Nat->Prop) (args:Array Value),lA ρ rows w T->(∀r,rows.length<=r->ρ r=none)->(∀b,T b->b<w.heap.size)->
  aW (VR ρ w T) ds args.toList->(∀g d,G g=some d->LR fB w T (.cb d) (.pointer (some ⟨g,0,none⟩)))->Calls P f args w (Eg K ρ T rows w)
def Fn.run(F:Fn):lQ:=λds rows K=>bj (F ds rows) λr=>K r.1 r.2
structure BackQ (K:D->Rows->Prop) (ρ:Pl) (T:Nat->Prop) (rows:Rows) (w:World) (e:Ending) (w':World):Prop where
 ex:∃v d aa ρ' T',e= .returned v/\K d aa/\lA ρ' aa w' T'/\(∀r,aa.length<=r->ρ' r=none)/\(∀b,T' b->b<w'.heap.size)/\Step ρ T rows w ρ' T' aa w'/\VR ρ' w' T' d v/\QH ρ rows w w'/\∀b,T' b->T b\/w.heap.size<=b
def MeetsQ(G:Nat->Option D)(P:Program)(f:FuncId)(A:lQ):Prop:=
 ∀ds rows K,A ds rows K->∀(ρ:Pl) (w:World) (T:Nat->Prop) (args:Array Value),lA ρ rows w T->(∀r,rows.length<=r->ρ r=none)->(∀b,T b->b<w.heap.size)->
  aW (VR ρ w T) ds args.toList->(∀g d,G g=some d->LR fB w T (.cb d) (.pointer (some ⟨g,0,none⟩)))->Calls P f args w (BackQ K ρ T rows w)
def aI(C:aU)(P:Program):Prop:=(∀f F,C.fn f=some F->aQ C.aZ P f (Fn.run F))/\(∀f A,C.cV f=some A->aQ C.aZ P f A)/\(∀f q,C.fnq f=some q->MeetsQ C.aZ P f (qrun q))
theorem aI.quiet{C:aU}{P:Program}(h:aI C P):aI C.quiet P:=⟨h.1,(λf A hA=>by cases hA),h.2.2⟩
end Go.Am
namespace Go.Am
variable {C:aU} {P:Program} {n:Nat} {ρ:Pl} {T:Nat->Prop} {env:Env} {rows:Rows} {a:Act} {w:World}
theorem tH(k:Nat):∀(l:Rows),(af k l).length=l.length
 |[]=>rfl
 |some ⟨s,els⟩::l=>by simp[af,tH k l]
 |none::l=>by simp[af,tH k l]
theorem AN(k:Nat):∀(l:Rows) (r:Nat) (row:Row),live (af k l) r=some row->∃row',live l r=some row'/\row=⟨row'.sh,bif row'.sh.pure then row'.els else bD k row'.els⟩
 |[],r,row,h=>by simp[af,live]at h
 |some ⟨s,els⟩::l,0,row,h=>by
  simp[af,live]at h
  exact⟨⟨s,els⟩,by simp[live],h.symm⟩
 |some ⟨s,els⟩::l,r+1,row,h=>by
  have:=AN k l r row (by simpa[af,live]using h)
  simpa[live]using this
 |none::l,0,row,h=>by simp[af,live]at h
 |none::l,r+1,row,h=>by
  have:=AN k l r row (by simpa[af,live]using h)
  simpa[live]using this
theorem LD(hs:eQ n ρ T env rows a w){ρ':Pl}{T0 T' Zv:Nat->Prop}{aa:Rows}{w':World}(hst:Step fB T0 [] w ρ' T' aa w')(nD:∀r,aa.length<=r->ρ' r=none)
  (hdist:∀r r' row row' L L',live aa r=some row->live aa r'=some row'->ρ' r=some L->ρ' r'=some L'->r≠r'->L.b≠L'.b)
  (t1:∀b,T b->Zv b)(t2:∀b,Zv b->T b\/w.heap.size<=b)(t3:∀b,Zv b->b<w'.heap.size)
  (jO:∀r row L,live aa r=some row->ρ' r=some L->nC (ig rows.length ρ ρ') ⟨row.sh,bif row.sh.pure then row.els else bD rows.length row.els⟩ L w' Zv):
  eQ n (ig rows.length ρ ρ') Zv env (rows++af rows.length aa) a w'/\Step ρ T rows w (ig rows.length ρ ρ') Zv (rows++af rows.length aa) w':=by
 have hkeep:∀b,b<w.heap.size->w'.heap[b]?=w.heap[b]?:=λb hb=>hst.keep b hb (by intro r row L hl;simp[live]at hl)
 have hTw:∀b,T b->w'.heap[b]?=w.heap[b]?:=λb hb=>hkeep b (hs.w8 b hb)
 have qm:∀r L,ρ r=some L->ig rows.length ρ ρ' r=some L:=by
  intro r L hL
  have:r<rows.length:=by
   rcases aaT r rows.length with h|h
   ·exact h
   ·rw[hs.w9 r h]at hL;cases hL
  simp[ig,this,hL]
 have hnb:∀r row L,live aa r=some row->ρ' r=some L->w.heap.size<=L.b:=by
  intro r row L h1 h2
  rcases hst.fresh r row L h1 h2 with⟨r0,wP,L0,h3,_⟩|h3
  ·simp[live]at h3
  ·exact h3
 have AD:∀r row L,live (rows++af rows.length aa) r=some row->ig rows.length ρ ρ' r=some L->
   (r<rows.length/\live rows r=some row/\ρ r=some L)\/(rows.length<=r/\∃row',live aa (r-rows.length)=some row'/\ρ' (r-rows.length)=some L/\row=⟨row'.sh,bif row'.sh.pure then row'.els else bD rows.length row'.els⟩):=by
  intro r row L h1 h2
  by_cases hr:r<rows.length
  ·left
   refine⟨hr,?_,by simpa[ig,hr]using h2⟩
   unfold live at h1⊢
   rwa [aaM hr]at h1
  ·right
   have h1':live (af rows.length aa) (r-rows.length)=some row:=by
    unfold live at h1⊢
    rwa [aaO (by omega)]at h1
   obtain⟨row',h3,h4⟩:=AN _ _ _ _ h1'
   exact⟨by omega,row',h3,by simpa[ig,hr]using h2,h4⟩
 refine⟨⟨⟨?_,?_⟩,hs.env.mono qm hTw t1,hs.size,t3,?_,hs.defers⟩,⟨qm,t1,λb hb=>(t2 b hb).imp_right .inl,hst.size,λb hb _=>hkeep b hb,?_,hst.os,hst.tape,hst.output,by simp,λr hr=>by simp[ig,hr]⟩⟩
 ·intro r row L h1 h2
  rcases AD r row L h1 h2 with⟨h3,h4,h5⟩|⟨h3,row',h4,h5,rfl⟩
  ·have hr:=hs.bF.row r row L h4 h5
   refine hr.mono qm hTw t1 (hkeep _ hr.lt) (λh=>?_)
   rcases t2 _ h with h|h
   ·exact hr.nZ h
   ·have:=hr.lt;omega
  ·exact jO _ row' L h4 h5
 ·intro r r' row row' L L' h1 h2 h3 h4 hne
  rcases AD r row L h1 h3 with⟨g1,g2,g3⟩|⟨g1,q1,g2,g3,_⟩
  ·rcases AD r' row' L' h2 h4 with⟨k1,k2,k3⟩|⟨k1,q2,k2,k3,_⟩
   ·exact hs.bF.lR r r' row row' L L' g2 k2 g3 k3 hne
   ·have:=(hs.bF.row r row L g2 g3).lt
    have:=hnb _ _ _ k2 k3
    omega
  ·rcases AD r' row' L' h2 h4 with⟨k1,k2,k3⟩|⟨k1,q2,k2,k3,_⟩
   ·have:=(hs.bF.row r' row' L' k2 k3).lt
    have:=hnb _ _ _ g2 g3
    omega
   ·exact hdist _ _ q1 q2 L L' g2 k2 g3 k3 (by omega)
 ·intro r hr
  rw[aap,tH]at hr
  simp only[ig,show¬r<rows.length by omega,abP]
  exact nD _ (by omega)
 ·intro r row L h1 h2
  rcases AD r row L h1 h2 with⟨h3,h4,h5⟩|⟨h3,row',h4,h5,rfl⟩
  ·exact .inl ⟨r,row,L,h4,h5,rfl⟩
  ·exact .inr (hnb _ _ _ h4 h5)
theorem rj:∀{l:Rows} {r:Nat} {row:Row},bf l=true->live l r=some row->row.sh.pure=true
 |[],r,row,_,h=>by simp[live]at h
 |some ⟨s,els⟩::l,0,row,hn,h=>by
  simp[live]at h
  subst h
  simp[bf]at hn
  exact hn.1
 |some ⟨s,els⟩::l,r+1,row,hn,h=>by
  simp[bf]at hn
  exact rj (r:=r) hn.2 (by simpa[live]using h)
 |none::l,0,row,hn,h=>by simp[live]at h
 |none::l,r+1,row,hn,h=>rj (l:=l) (r:=r) (by simpa[bf]using hn) (by simpa[live]using h)
def Cont(C:aU)(n:Nat)(ρ:Pl)(T:Nat->Prop)(env:Env)(rows:Rows)(a:Act)(w:World)(o:Oper)(k:D->Rows->Prop)(next:Act->World->Prop):Prop:=
 ∀d aa ρ' T' v w',k d aa->eQ n ρ' T' env aa a w'->Step ρ T rows w ρ' T' aa w'->VR ρ' w' T' d v->((∀f,C.cV f=none)->iC o.op=true->QH ρ rows w w'/\∀b,T' b->T b\/w.heap.size<=b)->next (a.put o.dst v) w'
theorem bV.wp{o:Oper}{k:D->Rows->Prop}{next:Act->World->Prop}{Q:Exit->Act->World->Prop}(h:bV P n o ρ T env rows a w k)(hc:Cont C n ρ T env rows a w o k next):o.wp P a w next Q:=by
 obtain⟨d,aa,ρ',T',v,w',h1,h2,h3,h4,h5,h6⟩:=h
 unfold Oper.wp
 rcases h5 with h5|⟨h5,rfl⟩
 ·rw[h5];exact hc d aa ρ' T' v w' h1 h2 h3 h4 (λ_=>h6)
 ·rw[h5];exact hc d aa ρ' T' undef w' h1 h2 h3 h4 (λ_=>h6)
theorem Xg(hr:lA ρ rows w T){k:Nat}:∀{ds ds':List D} {vs:List Value},eK (view rows k) ds=some ds'->aW (VR ρ w T) ds vs->aW (VR fB w (Su ρ T rows)) ds' vs:=by
 intro ds ds' vs h hv
 obtain⟨g1,g2⟩:=lC h
 refine⟨by rw[g1,hv.len],λi x y hx hy=>?_⟩
 have hi:i<ds.length:=by have:=dj hx;omega
 have hd:=aao hi
 exact Nc hr (g2 i _ x hd hx) (hv.at_ i _ y hd hy)
theorem H3(hs:eQ n ρ T env rows a w)(SD:∀g d,C.aZ g=some d->LR fB w T (.cb d) (.pointer (some ⟨g,0,none⟩)))(hC:aI C P){o:Oper}{k:D->Rows->Prop}{next:Act->World->Prop}{Q:Exit->Act->World->Prop}
  {f:FuncId}{ds:List D}{vs:Array Value}(hvl:aW (VR ρ w T) ds vs.toList)(hrun:(execOp a.eval o).run P w= .ok (.enter f vs) w)(k2:Bv C rows f ds k)(hk:Cont C n ρ T env rows a w o k next):o.wp P a w next Q:=by
 unfold Oper.wp
 rw[hrun,Oper.upon_enter]
 unfold Bv at k2
 cases hA:C.fn f with
 | none =>
  rw[hA]at k2
  obtain⟨A,ZB,k3⟩:=au k2
  have hold:∀{ρ' T' aa w'},Step ρ T rows w ρ' T' aa w'->∀b,T b->w'.heap[b]?=w.heap[b]?:=λhst b hb=>
   hst.keep b (hs.w8 b hb) (λr row L g1 g2 e=>(hs.bF.row r row L g1 g2).nZ (e▸hb))
  unfold aU.Pb at ZB
  cases hr:C.cV f with
  |some A'=>
   rw[hr]at ZB
   cases ZB
   refine(hC.2.1 f A hr ds rows k k3 ρ w T vs hs.bF hs.w9 hs.w8 hvl SD).mono ?_
   rintro e w' ⟨v,d,aa,ρ',T',rfl,Gv,hrows,nD,BL,hst,ZA⟩
   exact hk d aa ρ' T' v w' Gv ⟨hrows,hs.env.mono hst.pl (hold hst) hst.tt,hs.size,BL,nD,hs.defers⟩ hst ZA (λhn=>by rw[hn]at hr;cases hr)
  | none =>
   rw[hr]at ZB
   cases hq:C.fnq f with
   |none=>rw[hq]at ZB;cases ZB
   |some q=>
    rw[hq]at ZB
    cases ZB
    refine(hC.2.2 f q hq ds rows k k3 ρ w T vs hs.bF hs.w9 hs.w8 hvl SD).mono ?_
    rintro e w' ⟨v,d,aa,ρ',T',rfl,Gv,hrows,nD,BL,hst,ZA,hqh,htn⟩
    exact hk d aa ρ' T' v w' Gv ⟨hrows,hs.env.mono hst.pl (hold hst) hst.tt,hs.size,BL,nD,hs.defers⟩ hst ZA (λ_ _=>⟨hqh,htn⟩)
 |some A=>
 rw[hA]at k2
 simp only at k2
 have hM:=hC.1 f A hA
 cases hh:aX ds with
 | true =>
  obtain⟨ds',hview,hA'⟩:=au (k2.1 hh)
  have hkeep:∀{ρ' T' aa w'} {T0:Nat->Prop},Step fB T0 [] w ρ' T' aa w'->∀b,b<w.heap.size->w'.heap[b]?=w.heap[b]?:=λhst b hb=>hst.keep b hb (by intro r row L hl;simp[live]at hl)
  have hargs:=Xg hs.bF hview hvl
  refine(hM ds' [] (λd aa=>(cv d&&bf aa)=true/\k (shift rows.length d) (rows++af rows.length aa)) hA' fB w (Su ρ T rows) _ ⟨by intro r row L hl;simp[live]at hl,by intro r r' row row' L L' hl;simp[live]at hl⟩ (λ_ _=>rfl) ?_ hargs ?_).mono ?_
  ·rintro b (h|⟨r,row,L,g1,g2,rfl⟩)
   ·exact hs.w8 b h
   ·exact(hs.bF.row r row L g1 g2).lt
  ·intro g d hd
   exact(SD g d hd).mono (λ_ _ h=>h) (λ_ _=>rfl) (λb hb=> .inl hb)
  ·rintro e w' ⟨v,d,aa,ρ',T',rfl,⟨hno,Gv⟩,hrows,nD,BL,hst,ZA⟩
   simp only[aan]at hno
   have jO:∀r row L,live aa r=some row->ρ' r=some L->nC (ig rows.length ρ ρ') ⟨row.sh,bif row.sh.pure then row.els else bD rows.length row.els⟩ L w' T:=by
    intro r row L g1 g2
    have hr:=hrows.row r row L g1 g2
    have hp:=rj hno.2 g1
    rw[hp]
    refine⟨hr.sh,λhT=>?_,hr.els,λhm=>?_,hr.rb⟩
    rotate_left
    ·obtain⟨cur,t,q1,q2,q3,q4⟩:=hr.cells hm
     exact⟨cur,t,q1,q2,q3,q4.ofRaw (lB hr.els hp)⟩
    rcases hst.fresh r row L g1 g2 with⟨r0,wP,L0,h3,_⟩|h3
    ·simp[live]at h3
    ·have:=hs.w8 _ hT;omega
   obtain⟨g1,g2⟩:=LD hs hst nD hrows.lR (λ_ h=>h) (λ_ h=> .inl h) (λb hb=>ab2 (hs.w8 b hb) hst.size) jO
   refine hk _ _ _ _ v w' Gv g1 g2 ?_ (λ_ _=>⟨λb hb=> .inl (hkeep hst b hb),λ_ h=> .inl h⟩)
   exact((ZA.cv (T':=T) (w':=w') hno.1).shift rows.length ρ)
 | false =>
  have hA':=k2.2 hh
  have hkeep:∀{ρ' T' aa w'} {T0:Nat->Prop},Step fB T0 [] w ρ' T' aa w'->∀b,b<w.heap.size->w'.heap[b]?=w.heap[b]?:=λhst b hb=>hst.keep b hb (by intro r row L hl;simp[live]at hl)
  have hargs:aW (VR fB w T) ds vs.toList:=⟨hvl.len,λi x y hx hy=>(hvl.at_ i x y hx hy).closed (fu hh x (bQ hx))⟩
  refine(hM ds [] (λd aa=>k (shift rows.length d) (rows++af rows.length aa)) hA' fB w T _ ⟨by intro r row L hl;simp[live]at hl,by intro r r' row row' L L' hl;simp[live]at hl⟩ (λ_ _=>rfl) hs.w8 hargs SD).mono ?_
  rintro e w' ⟨v,d,aa,ρ',T',rfl,Gv,hrows,nD,BL,hst,ZA⟩
  have jO:∀r row L,live aa r=some row->ρ' r=some L->nC (ig rows.length ρ ρ') ⟨row.sh,bif row.sh.pure then row.els else bD rows.length row.els⟩ L w' T':=by
   intro r row L g1 g2
   have hr:=hrows.row r row L g1 g2
   cases hp:row.sh.pure with
   |true=>
    refine⟨hr.sh,hr.nZ,hr.els,λhm=>?_,hr.rb⟩
    obtain⟨cur,t,q1,q2,q3,q4⟩:=hr.cells hm
    exact⟨cur,t,q1,q2,q3,q4.ofRaw (lB hr.els hp)⟩
   | false =>
    simp only[aaK]
    obtain⟨z1,z2⟩:=Ef (k:=rows.length) hr.els
    refine⟨hr.sh,hr.nZ,z1,λhm=>?_,λhm=>?_⟩
    ·obtain⟨cur,t,q1,q2,q3,q4⟩:=hr.cells hm
     have q5:=q4.shift rows.length ρ
     have zl:(ak (bD rows.length row.els)).length=(ak row.els).length:=by rw[z2,aaA]
     exact⟨cur,t,q1,q2,by rw[zl];exact q3,by simp only[zl];rw[z2];exact q5⟩
    ·obtain⟨es,clock,h1,h2⟩:=hr.rb hm
     rw[h2.pure]at hp
     cases hp
  obtain⟨g1,g2⟩:=LD hs hst nD hrows.lR hst.tt hst.tnew0 BL jO
  exact hk _ _ _ _ v w' Gv g1 g2 (ZA.shift rows.length ρ) (λ_ _=>⟨λb hb=> .inl (hkeep hst b hb),hst.tnew0⟩)
theorem Eh{f:FuncId}{fn:Func}{o:Oper}{c:Call}(ho:o.op= .call c)(hf:P.funcs[f]?=some fn)(hb:fn.body.isSome=true)(hn:(fn.name != "runtime.NumGoroutine")=true)
  {caps:Array Value}(hc:(c.callee= .value (.func f)/\caps=#[])\/∃t,c.callee= .value (.tmp t)/\a.eval (.tmp t)= .func (.func f) #[] caps):(execOp a.eval o).run P w= .ok (.enter f (c.args.map a.eval++caps)) w:=by
 have Nd:¬fn.name= "runtime.NumGoroutine" :=by simpa using hn
 cases hq:fn.body with
 |none=>simp[hq]at hb
 |some b=>
  rcases hc with⟨hc,rfl⟩|⟨t,hc,ht⟩
  ·simp[execOp,ho,resolve,hc,Act.eval,Deferred.ofValue,invoke,callFunc,hf,Nd,hq]
  ·simp[execOp,ho,resolve,hc,ht,Deferred.ofValue,invoke,callFunc,hf,Nd,hq]
theorem op_call(hs:eQ n ρ T env rows a w)(hG:wQ C ρ w T)(SD:∀g d,C.aZ g=some d->LR fB w T (.cb d) (.pointer (some ⟨g,0,none⟩)))(hC:aI C P){o:Oper}{k:D->Rows->Prop}{next:Act->World->Prop}{Q:Exit->Act->World->Prop}
  {c:Call}{f:FuncId}{fn:Func}{l':List X}(ho:o.op= .call c)(hc:c.callee= .value (.func f))(hf:P.funcs[f]?=some fn)(hb:fn.body.isSome=true)(hn:(fn.name != "runtime.NumGoroutine")=true)
  (h1:ZV c.args.toList=some l')(h:dX C env rows (.call f l') k)(hk:Cont C n ρ T env rows a w o k next):o.wp P a w next Q:=by
 obtain⟨ds,hds,k2⟩:=au h
 have hv:=tX hs hG h1 hds
 exact H3 hs SD hC (by simpa using hv) (Eh ho hf hb hn (.inl ⟨hc,rfl⟩)) k2 hk
theorem H4{f:Nat}:∀{l:List Nat},M2 f l=true->f∈l
 |[],h=>by cases h
 | x :: l, h => by
  unfold M2 at h
  cases hb:(x==f)with
  |true=>
   have:x=f:=by simpa using hb
   subst this;exact ad4 ..
  |false=>rw[hb]at h;exact ab3 _ (H4 h)
theorem LF{c:Call}{f:Nat}(h:f∈U6 P c):∃fn,P.funcs[f]?=some fn/\fn.body.isSome=true/\(fn.name != "runtime.NumGoroutine")=true:=by
 unfold U6 at h
 have h2:=(List.mem_filter.1 h).2
 split at h2
 ·rename_i fn hf
  simp only[aan]at h2
  exact⟨fn,hf,h2.1.2,h2.2⟩
 ·cases h2
theorem op_callv(hs:eQ n ρ T env rows a w)(hG:wQ C ρ w T)(SD:∀g d,C.aZ g=some d->LR fB w T (.cb d) (.pointer (some ⟨g,0,none⟩)))(hC:aI C P){o:Oper}{k:D->Rows->Prop}{next:Act->World->Prop}{Q:Exit->Act->World->Prop}
  {c:Call}{t:Nat}{l':List X}(ho:o.op= .call c)(hc:c.callee= .value (.tmp t))(h1:ZV c.args.toList=some l')(h:dX C env rows (.qW (U6 P c) (.tmp t) l') k)(hk:Cont C n ρ T env rows a w o k next):o.wp P a w next Q:=by
 obtain⟨d,hd,h2⟩:=au h
 have hv0:=bH (x:= .tmp t) rfl hd hs hG
 split at h2
 ·rename_i f c1 c2
  obtain⟨rfl,rfl,hf,h3⟩:=h2
  obtain⟨ds,hds,k2⟩:=au h3
  have hv:=tX hs hG h1 hds
  obtain⟨fn,g1,g2,g3⟩:=LF (H4 hf)
  exact H3 hs SD hC (by simpa using hv) (Eh ho g1 g2 g3 (.inr ⟨t,hc,hv0.ofRaw⟩)) k2 hk
 ·rename_i f s r p
  obtain⟨hf,h3⟩:=h2
  obtain⟨ds,hds,k2⟩:=au h3
  have hv:=tX hs hG h1 hds
  obtain⟨fn,g1,g2,g3⟩:=LF (H4 hf)
  have mW:LR ρ w T (.Fx f s r p) _:=hv0
  generalize hx:a.eval (.tmp t)=v at mW
  cases mW with
  |Fx _ _ _ _ L hL hp=>exact H3 hs SD hC (vs:=c.args.map a.eval++#[.pointer (some ⟨L.b,L.off p,none⟩)]) (by simpa using hv.append (.single (VR.bE (.ptr s r p L hL hp)))) (Eh ho g1 g2 g3 (.inr ⟨t,hc,hx⟩)) k2 hk
 ·exact h2.elim
theorem op_lena(hs:eQ n ρ T env rows a w){o:Oper}{k:D->Rows->Prop}{c:Call}{x:Operand}{t e:TypeId}{m:Nat}{ts:List TypeId}(ho:o.op= .call c)(hc:c.callee= .builtin .len)(ha:c.args.toList=[x])
  (hts:c.argTypes.toList=t::ts)(hu:P.underlying t=some (.array m e))(h:dX C env rows (.mv (.const (.int .i64 m))) k):bV P n o ρ T env rows a w k:=by
 have hk:k (.raw (.int .i64 m)) rows:=h
 have hargs:c.args=#[x]:=by apply ace;simpa using ha
 have aai:c.argTypes[0]?=some t:=by
  have:c.argTypes.toList[0]?=some t:=by rw[hts];rfl
  simpa using this
 refine .here hs hk (VR.raw rfl) ?_
 rw[iD ho hc]
 simp[builtin,Builtin.len_,hargs,aai,run_underlying hu,goInt]
theorem BM(hs:eQ n ρ T env rows a w)(SD:∀g d,C.aZ g=some d->LR fB w T (.cb d) (.pointer (some ⟨g,0,none⟩)))(hC:aI C P){o:Oper}{ao:nY}{k:D->Rows->Prop}{next:Act->World->Prop}{Q:Exit->Act->World->Prop}
  (hc:cOp P o.op=some ao)(h:dX C env rows ao k)(hk:Cont C n ρ T env rows a w o k next):o.wp P a w next Q:=by
 unfold cOp at hc
 split at hc
 case h_2=>cases hc;exact h.elim
 rename_i a0 hc0
 cases hc
 replace hc:=hc0
 clear hc0
 have hG:wQ C ρ w T:=λg d hd=>(SD g d hd).mono (by intro r L h;cases h) (λ_ _=>rfl) (λ_ h=>h)
 cases hop:o.op with
 |move x=>
  rw[hop]at hc
  obtain⟨x',h1,h2⟩:=aF hc
  cases h2
  exact(op_mv hs hG (.inl hop) h1 h).wp hk
 |assign x=>
  rw[hop]at hc
  obtain⟨x',h1,h2⟩:=aF hc
  cases h2
  exact(op_mv hs hG (.inr hop) h1 h).wp hk
 |pick x y z=>
  rw[hop]at hc
  obtain⟨x',h1,hc⟩:=aF hc
  obtain⟨y',h2,hc⟩:=aF hc
  obtain⟨z',h3,hc⟩:=aF hc
  cases hc
  exact(op_pick hs hG hop h1 h2 h3 h).wp hk
 |alloc t=>
  rw[hop]at hc
  obtain⟨s,h1,hc⟩:=aF hc
  obtain⟨z,h2,hc⟩:=aF hc
  obtain⟨_,hc⟩:=cE hc
  cases hc
  exact(op_alloc hs hop h1 h2 h).wp hk
 |box t x=>
  rw[hop]at hc
  obtain⟨s,h1,hc⟩:=aF hc
  obtain⟨x',h2,hc⟩:=aF hc
  cases hc
  exact(op_box hs hG hop h2 h).wp hk
 | build t parts =>
  rw[hop]at hc
  obtain⟨s,h1,hc⟩:=aF hc
  obtain⟨z,h2,hc⟩:=aF hc
  obtain⟨ps,h3,hc⟩:=aF hc
  split at hc
  ·rename_i fs hu
   obtain⟨h4,hc⟩:=cE hc
   cases hc
   simp only[aan,ack]at h4
   obtain⟨⟨⟨⟨_,h5⟩,h6⟩,h7⟩,h8⟩:=h4
   exact(W9 hs hG hop h1 h2 hu h3 h5 h6 h7 h8 h).wp hk
  ·rename_i m e hu
   obtain⟨se,h4,hc⟩:=aF hc
   obtain⟨h5,hc⟩:=cE hc
   cases hc
   simp only[aan,ack]at h5
   exact(Xa hs hG hop h1 h2 hu h3 h5.1.2 h4 h5.2 h).wp hk
  ·cases hc
 | buildSlice t m parts =>
  rw[hop]at hc
  obtain⟨e,h1,hc⟩:=aF hc
  obtain⟨s,h2,hc⟩:=aF hc
  obtain⟨z,h3,hc⟩:=aF hc
  obtain⟨ps,h4,hc⟩:=aF hc
  obtain⟨h5,hc⟩:=cE hc
  cases hc
  simp only[aan]at h5
  have hu:P.underlying t=some (.slice e):=by
   unfold zN at h1
   split at h1
   ·cases h1;assumption
   ·cases h1
  exact(Xb hs hG hop hu h2 h3 h4 (by simpa using h5.1.2) (abE h5.2) h).wp hk
 |load t x=>
  rw[hop]at hc
  obtain⟨s,h1,hc⟩:=aF hc
  obtain⟨x',h2,hc⟩:=aF hc
  obtain⟨h3,hc⟩:=cE hc
  cases hc
  exact(op_load hs hG hop h1 h3 h2 h).wp hk
 |store t x y=>
  rw[hop]at hc
  obtain⟨s,h1,hc⟩:=aF hc
  obtain⟨x',h2,hc⟩:=aF hc
  obtain⟨y',h3,hc⟩:=aF hc
  cases hc
  exact(op_store hs hG hop h1 h2 h3 h).wp hk
 |nilCheck x=>
  rw[hop]at hc
  obtain⟨x',h2,hc⟩:=aF hc
  cases hc
  exact(op_nilc hs hG hop h2 h).wp hk
 | binOp op t x y u =>
  rw[hop]at hc
  obtain⟨x',h1,hc⟩:=aF hc
  obtain⟨y',h2,hc⟩:=aF hc
  split at hc
  ·cases hc;exact(Z9 hs hG hop h1 h2 h).wp hk
  ·cases hc;exact(Z9 hs hG hop h1 h2 h).wp hk
  ·rename_i hu
   split at hc
   ·cases hc;exact(aaa hs hG (neg:=false) hop rfl hu h1 h2 h).wp hk
   ·cases hc;exact(aaa hs hG (neg:=true) hop rfl hu h1 h2 h).wp hk
   ·cases hc
  ·obtain⟨s,h3,hc⟩:=aF hc
   obtain⟨h4,hc⟩:=cE hc
   simp only[aan,acH]at h4
   split at hc
   ·cases hc;exact(Na hs hG (neg:=false) hop rfl h3 h4.1 h4.2 h1 h2 h).wp hk
   ·cases hc;exact(Na hs hG (neg:=true) hop rfl h3 h4.1 h4.2 h1 h2 h).wp hk
   ·cases hc
  ·obtain⟨s,h3,hc⟩:=aF hc
   obtain⟨h4,hc⟩:=cE hc
   simp only[aan,acH]at h4
   split at hc
   ·cases hc;exact(Na hs hG (neg:=false) hop rfl h3 h4.1 h4.2 h1 h2 h).wp hk
   ·cases hc;exact(Na hs hG (neg:=true) hop rfl h3 h4.1 h4.2 h1 h2 h).wp hk
   ·cases hc
  ·rename_i hu
   split at hc
   ·cases hc;exact(Pw hs hG (neg:=false) hop rfl hu h1 h2 h).wp hk
   ·cases hc;exact(Pw hs hG (neg:=true) hop rfl hu h1 h2 h).wp hk
   ·cases hc
  ·rename_i hu
   split at hc
   ·cases hc;exact(Vg hs hG (neg:=false) hop rfl hu h1 h2 h).wp hk
   ·cases hc;exact(Vg hs hG (neg:=true) hop rfl hu h1 h2 h).wp hk
   ·cases hc
  ·cases hc
 | sliceToArrayPointer t x =>
  rw[hop]at hc
  simp only[cOp0]at hc
  split at hc
  ·rename_i m e hu
   obtain⟨s,h1,hc⟩:=aF hc
   obtain⟨x',h2,hc⟩:=aF hc
   cases hc
   exact(op_s2a hs hG hop hu h2 h).wp hk
  ·cases hc
 |unOp op t x=>
  rw[hop]at hc
  obtain⟨x',h2,hc⟩:=aF hc
  cases hc
  exact(op_un hs hG hop h2 h).wp hk
 | convert s t x =>
  rw[hop]at hc
  obtain⟨x',h1,hc⟩:=aF hc
  split at hc
  ·rename_i xy hu2;cases hc;exact(op_conv hs hG hop xy hu2 h1 h).wp hk
  ·rename_i xy hu2;cases hc;exact(aab hs hG hop xy hu2 h1 h).wp hk
  ·rename_i xy hu2
   split at hc
   ·rename_i hu3;cases hc;exact(op_s2b hs hG hop xy hu2 hu3 h1 h).wp hk
   ·cases hc
  ·rename_i xy hu2
   split at hc
   ·rename_i hu3;cases hc;exact(op_b2s hs hG hop xy hu3 hu2 h1 h).wp hk
   ·cases hc
  ·rename_i xy hu2
   obtain⟨hst,hc⟩:=cE hc
   obtain⟨s',h2,hc⟩:=aF hc
   obtain⟨hs8,hc⟩:=cE hc
   have cw:s=t:=by simpa using hst
   split at hc
   ·rename_i hu3
    cases hc
    rw[cw]at hop
    exact(op_frzb hs hG hop hu2 hu3 h1 h).wp hk
   ·cases hc
  ·cases hc
 | makeSlice t l c =>
  rw[hop]at hc
  obtain⟨e,h1,hc⟩:=aF hc
  obtain⟨s,h2,hc⟩:=aF hc
  obtain⟨z,h3,hc⟩:=aF hc
  obtain⟨l',h4,hc⟩:=aF hc
  obtain⟨c',h5,hc⟩:=aF hc
  obtain⟨h6,hc⟩:=cE hc
  cases hc
  have hu:P.underlying t=some (.slice e):=by
   unfold zN at h1
   split at h1
   ·cases h1;assumption
   ·cases h1
  exact(op_mks hs hG hop hu h2 h3 h4 h5 h).wp hk
 | makeFunc fn first cap =>
  rw[hop]at hc
  cases fn with
  | func f =>
   obtain⟨h1,hc⟩:=cE hc
   split at hc
   ·rename_i x hx
    obtain⟨x',h2,hc⟩:=aF hc
    cases hc
    exact(op_mkf hs hG hop h1 hx h2 h).wp hk
   ·cases hc
  | _=>cases hc
 | makeMap t r =>
  rw[hop]at hc
  cases r with
  |none=>
   obtain⟨⟨ks,vs⟩,h1,hc⟩:=aF hc
   cases hc
   obtain⟨kt,et,hu,h2,h3,h4,h5⟩:=vA h1
   exact(op_mkm hs hop h4 h5 h).wp hk
  |some _=>cases hc
 |mapUpdate t m x v=>
  rw[hop]at hc
  obtain⟨⟨ks,vs⟩,h1,hc⟩:=aF hc
  obtain⟨m',h6,hc⟩:=aF hc
  obtain⟨x',h7,hc⟩:=aF hc
  obtain⟨v',h8,hc⟩:=aF hc
  cases hc
  obtain⟨kt,et,hu,h2,h3,h4,h5⟩:=vA h1
  exact(Vm hs hG (.inl hop) hu h4 h5 h6 h7 h8 h).wp hk
 |insert t m x v=>
  rw[hop]at hc
  obtain⟨⟨ks,vs⟩,h1,hc⟩:=aF hc
  obtain⟨m',h6,hc⟩:=aF hc
  obtain⟨x',h7,hc⟩:=aF hc
  obtain⟨v',h8,hc⟩:=aF hc
  cases hc
  obtain⟨kt,et,hu,h2,h3,h4,h5⟩:=vA h1
  exact(Vm hs hG (.inr hop) hu h4 h5 h6 h7 h8 h).wp hk
 | lookup t m x ok =>
  rw[hop]at hc
  obtain⟨⟨kt0,et0⟩,h0,hc⟩:=aF hc
  obtain⟨⟨ks,vs⟩,h1,hc⟩:=aF hc
  obtain⟨z,h5',hc⟩:=aF hc
  obtain⟨m',h6,hc⟩:=aF hc
  obtain⟨x',h7,hc⟩:=aF hc
  obtain⟨hz,hc⟩:=cE hc
  cases hc
  obtain⟨kt,et,hu,h2,h3,h4,h5⟩:=vA h1
  have e0:et0=et:=by
   unfold mapT at h0
   rw[hu]at h0
   cases h0
   rfl
  subst e0
  exact(op_mget hs hG hop hu h4 h3 h5' hz h5 h6 h7 h).wp hk
 | fieldAddr t x i =>
  rw[hop]at hc
  obtain⟨s,h1,hc⟩:=aF hc
  obtain⟨x',h2,hc⟩:=aF hc
  split at hc
  ·rename_i fs hu
   split at hc
   ·rename_i f e hf he
    obtain⟨h3,hc⟩:=cE hc
    cases hc
    simp only[aan,ack]at h3
    obtain⟨⟨h4,h5⟩,h6⟩:=h3
    split at h5
    ·rename_i inf hi
     exact(aac hs hG hop hu hf he h4 hi (by simpa using h5) (by simpa using h6) h2 h).wp hk
    ·cases h5
   ·cases hc
  ·cases hc
 | field t x i =>
  rw[hop]at hc
  obtain⟨s,h1,hc⟩:=aF hc
  obtain⟨x',h2,hc⟩:=aF hc
  split at hc
  ·rename_i fs hu
   split at hc
   ·rename_i f e hf he
    obtain⟨h3,hc⟩:=cE hc
    cases hc
    simp only[aan,ack]at h3
    exact(aad hs hG hop hu hf he h3.1.1 h3.1.2 h3.2 h2 h).wp hk
   ·cases hc
  ·cases hc
 | indexAddr t x i =>
  rw[hop]at hc
  obtain⟨x',h1,hc⟩:=aF hc
  obtain⟨i',h2,hc⟩:=aF hc
  split at hc
  ·rename_i m e hu
   obtain⟨s,h3,hc⟩:=aF hc
   cases hc
   exact(W3 hs hG hop hu h3 h1 h2 h).wp hk
  ·rename_i e hu
   obtain⟨s,h3,hc⟩:=aF hc
   cases hc
   exact(W4 hs hG hop hu h3 h1 h2 h).wp hk
  ·cases hc
 | index t x i =>
  rw[hop]at hc
  obtain⟨x',h1,hc⟩:=aF hc
  obtain⟨i',h2,hc⟩:=aF hc
  split at hc
  ·rename_i m e hu
   obtain⟨s,h3,hc⟩:=aF hc
   obtain⟨h4,hc⟩:=cE hc
   cases hc
   exact(aaf hs hG hop hu h3 h4 h1 h2 h).wp hk
  ·rename_i hu
   cases hc
   exact(W5 hs hG hop hu h1 h2 h).wp hk
  ·cases hc
 | slice t x lo hi mx =>
  rw[hop]at hc
  obtain⟨x',h1,hc⟩:=aF hc
  obtain⟨lo',h2,hc⟩:=aF hc
  obtain⟨hi',h3,hc⟩:=aF hc
  obtain⟨mx',h4,hc⟩:=aF hc
  have hmn:(mx'.isNone||hi'.isSome)=true->(mx.isSome=true->hi.isSome=true):=by
   intro hq hm
   cases mx with
   |none=>simp at hm
   | some m =>
    cases hi with
    |some _=>rfl
    |none=>
     simp[Pc]at h3
     subst h3
     simp only[Pc]at h4
     split at h4
     ·cases h4;simp at hq
     ·cases h4
  split at hc
  ·rename_i m e hu
   obtain⟨s,h5,hc⟩:=aF hc
   obtain⟨h6,hc⟩:=cE hc
   cases hc
   exact(W7 hs hG hop hu h5 h1 h2 h3 h4 (hmn h6) h).wp hk
  ·rename_i e hu
   obtain⟨s,h5,hc⟩:=aF hc
   obtain⟨h6,hc⟩:=cE hc
   cases hc
   exact(aaj hs hG hop hu h5 h1 h2 h3 h4 (hmn h6) h).wp hk
  ·rename_i hu
   obtain⟨h6,hc⟩:=cE hc
   cases hc
   have:mx=none:=by
    cases mx with
    |none=>rfl
    |some m=>
     simp only[Pc]at h4
     split at h4
     ·cases h4;simp at h6
     ·cases h4
   subst this
   exact(Xd hs hG hop hu h1 h2 h3 h).wp hk
  ·cases hc
 |extract x i=>
  rw[hop]at hc
  obtain⟨x',h2,hc⟩:=aF hc
  cases hc
  exact(op_ext hs hG hop h2 h).wp hk
 | call c =>
  rw[hop]at hc
  have eX:ZX P c=some ao:=hc
  unfold ZX at eX
  split at eX
  ·rename_i f sL
   obtain⟨fn,h1,eX⟩:=aF eX
   cases RY:fn.body.isSome with
   |true=>
    rw[RY]at eX
    obtain⟨h2,eX⟩:=cE eX
    obtain⟨l,h3,eX⟩:=aF eX
    cases eX
    exact op_call hs hG SD hC hop sL h1 RY h2 h3 h hk
   | false =>
    rw[RY]at eX
    simp only[aaK]at eX
    cases hix:(fn.name==By&&fn.origin== "")with
    | true =>
     rw[hix]at eX
     simp only[aan,ack]at hix
     simp only[aaU]at eX
     split at eX
     ·rename_i x y hx
      obtain⟨x',h3,eX⟩:=aF eX
      obtain⟨y',h4,eX⟩:=aF eX
      cases eX
      exact(op_idxb hs hG hop sL h1 RY hix.1 hix.2 hx h3 h4 h).wp hk
     ·cases eX
    | false =>
     rw[hix]at eX
     obtain⟨h2,eX⟩:=cE eX
     simp only[aan,ack]at h2
     split at eX
     ·rename_i x t hx ht
      split at eX
      ·rename_i e hu
       obtain⟨h3,eX⟩:=cE eX
       obtain⟨x',h4,eX⟩:=aF eX
       cases eX
       exact(op_mnz hs hG hop sL h1 RY h2.1 h2.2 hx ht hu (by simpa using h3) h4 h).wp hk
      ·cases eX
     ·cases eX
  ·rename_i t sL
   obtain⟨l,h1,eX⟩:=aF eX
   cases eX
   exact op_callv hs hG SD hC hop sL h1 h hk
  ·rename_i sL
   split at eX
   ·rename_i x t ts hx ht
    obtain⟨x',h1,eX⟩:=aF eX
    split at eX
    ·rename_i e hu;cases eX;exact(op_len hs hG hop sL hx ht hu h1 h).wp hk
    ·rename_i hu;cases eX;exact(W6 hs hG hop sL hx ht hu h1 h).wp hk
    ·rename_i m e hu;cases eX;exact(op_lena hs hop sL hx ht hu h).wp hk
    ·cases eX
   ·cases eX
  ·rename_i sL
   split at eX
   ·rename_i x y t u hx ht
    obtain⟨x',h1,eX⟩:=aF eX
    obtain⟨y',h2,eX⟩:=aF eX
    obtain⟨e,h3,eX⟩:=aF eX
    obtain⟨s,h4,eX⟩:=aF eX
    obtain⟨z,h5,eX⟩:=aF eX
    obtain⟨h6,eX⟩:=cE eX
    simp only[aan]at h6
    have hu:P.underlying t=some (.slice e):=by
     unfold zN at h3
     split at h3
     ·cases h3;assumption
     ·cases h3
    split at eX
    ·rename_i e' xy
     obtain⟨_,eX⟩:=cE eX
     cases eX
     exact(Lw hs hG hop sL hx ht hu (.inl ⟨e',xy⟩) h4 h5 h1 h2 h).wp hk
    ·rename_i xy
     obtain⟨_,eX⟩:=cE eX
     cases eX
     exact(Lw hs hG hop sL hx ht hu (.inr xy) h4 h5 h1 h2 h).wp hk
    ·rename_i kd xy
     cases eX
     exact(Sz hs hG hop sL hx ht hu xy h4 h5 (by simpa using h6.1) h1 h2 h).wp hk
    ·cases eX
   ·cases eX
  ·rename_i sL
   split at eX
   ·rename_i x y t u hx ht
    obtain⟨x',h1,eX⟩:=aF eX
    obtain⟨y',h2,eX⟩:=aF eX
    obtain⟨e,h3,eX⟩:=aF eX
    obtain⟨s,h4,eX⟩:=aF eX
    obtain⟨h6,eX⟩:=cE eX
    have hu:P.underlying t=some (.slice e):=by
     unfold zN at h3
     split at h3
     ·cases h3;assumption
     ·cases h3
    split at eX
    ·obtain⟨_,eX⟩:=cE eX
     cases eX
     exact(Ve hs hG hop sL hx ht hu h4 h1 h2 h).wp hk
    ·obtain⟨_,eX⟩:=cE eX
     cases eX
     exact(Ve hs hG hop sL hx ht hu h4 h1 h2 h).wp hk
    ·cases eX
   ·cases eX
  ·rename_i sL
   split at eX
   ·rename_i x t hx ht
    obtain⟨x',h1,eX⟩:=aF eX
    obtain⟨e,h3,eX⟩:=aF eX
    obtain⟨s,h4,eX⟩:=aF eX
    obtain⟨z,h5,eX⟩:=aF eX
    obtain⟨h6,eX⟩:=cE eX
    have hu:P.underlying t=some (.slice e):=by
     unfold zN at h3
     split at h3
     ·cases h3;assumption
     ·cases h3
    simp only[aan]at h6
    cases eX
    exact(op_clr hs hG hop sL hx ht hu h4 h5 h1 h).wp hk
   ·cases eX
  ·rename_i sL
   obtain⟨l,h1,eX⟩:=aF eX
   cases eX
   exact(Lz hs hG (mx:=false) hop sL h1 h).wp hk
  ·rename_i sL
   obtain⟨l,h1,eX⟩:=aF eX
   cases eX
   exact(Lz hs hG (mx:=true) hop sL h1 h).wp hk
  ·cases eX
 | _=>rw[hop]at hc;cases hc
end Go.Am
namespace Go.Am
variable {C:aU} {P:Program} {n:Nat} {ρ:Pl} {T:Nat->Prop} {env:Env} {rows:Rows} {a:Act} {w:World}
def eS(C:aU)(w:World)(T:Nat->Prop):Prop:=∀g d,C.aZ g=some d->LR fB w T (.cb d) (.pointer (some ⟨g,0,none⟩))
theorem Step.stable(hr:lA ρ rows w T)(ht:∀b,T b->b<w.heap.size){ρ':Pl}{T':Nat->Prop}{aa:Rows}{w':World}(h:Step ρ T rows w ρ' T' aa w'):∀b,T b->w'.heap[b]?=w.heap[b]?:=by
 intro b hb
 refine h.keep b (ht b hb) ?_
 rintro r row L h1 h2 rfl
 exact(hr.row r row L h1 h2).nZ hb
theorem eS.step(hg:eS C w T)(hs:eQ n ρ T env rows a w){ρ':Pl}{T':Nat->Prop}{aa:Rows}{w':World}(h:Step ρ T rows w ρ' T' aa w'):eS C w' T':=
 λg d hd=>(hg g d hd).mono (λ_ _ h=>h) (h.stable hs.bF hs.w8) h.tt
theorem LG{all:List Oper}{o:Oper}{l:List Oper}{al:List aS}(h:AB P n all (o::l)=some al):
  ∃ao g r,So n o.dst=true/\cOp P o.op=some ao/\oG all o.guard=some g/\AB P n all l=some r/\al=⟨o.dst,ao,g⟩::r:=by
 simp only[AB]at h
 obtain⟨h0,h⟩:=cE h
 obtain⟨ao,h1,h⟩:=aF h
 obtain⟨g,h2,h⟩:=aF h
 obtain⟨r,h3,h⟩:=aF h
 cases h
 exact⟨ao,g,r,h0,h1,h2,h3,rfl⟩
theorem BN{dst:Option Nat}(h:So n dst=true):∀t,dst=some t->t<n:=by
 intro t ht
 subst ht
 simp only[So]at h
 exact adQ.mp h
theorem Xh (hC : aI C P) (ops : Array Oper) {Q' : Exit -> Act -> World -> Prop} : ∀ (l : List Oper) (i : Nat), ops.toList.drop i = l -> ∀ (al : List aS), AB P n ops.toList l = some al ->
  ∀(env:Env) (rows:Rows) (ρ:Pl) (T:Nat->Prop) (a:Act) (w:World) (K:Env->Rows->Prop),dR C al env rows K->eQ n ρ T env rows a w->eS C w T->
  (∀env' aa ρ' T' a' w',K env' aa->eQ n ρ' T' env' aa a' w'->Step ρ T rows w ρ' T' aa w'->Q' .normal a' w')->wpOps P ops Q' (List.range' i l.length) a w:=by
 intro l
 induction l with
 |nil=>
  intro i _ al hc env rows ρ T a w K h hs hg hK
  simp[AB]at hc
  subst hc
  exact hK env rows ρ T a w h hs (Step.refl _ _ _ _)
 | cons o l ih =>
  intro i hi al hc env rows ρ T a w K h hs hg hK
  obtain⟨ao,g,r,h0,h1,h2,h3,rfl⟩:=LG hc
  have ho:ops[i]?=some o:=by
   have:=ach (λq=>q[0]?) hi
   simpa using this
  have hnext:ops.toList.drop (i+1)=l:=by
   have:=ach List.tail hi
   simpa using this
  have hd:=BN h0
  simp only[aaP,List.range'_succ,wpOps,ho]
  have go:∀(h:dX C env rows ao (λd rows=>dR C r (put o.dst d env) rows K)),o.wp P a w (wpOps P ops Q' (List.range' (i+1) l.length)) Q':=by
   intro h
   refine BM hs hg hC h1 h ?_
   intro d aa ρ' T' v w' hk ib hst hv _
   exact ih (i+1) hnext r h3 _ aa ρ' T' _ w' K hk (ib.put hv hd) (hg.step hs hst) (λvC fb Sa T2 a2 w2 Vb tI SE=>hK vC fb Sa T2 a2 w2 Vb tI (hst.trans SE))
  have skip:∀(h:dR C r (put o.dst (.cd []) env) rows K),wpOps P ops Q' (List.range' (i+1) l.length) (a.put o.dst undef) w:=by
   intro h
   have hv:VR ρ w T (.cd []) undef:=⟨#[],rfl,.nil⟩
   exact ih (i+1) hnext r h3 _ rows ρ T _ w K h (hs.put hv hd) hg hK
  cases hgd:o.guard with
  |none=>
   rw[hgd]at h2
   simp[oG]at h2
   subst h2
   have hw:Region.wanted o (yielded ops a.tmps)=true:=by simp[Region.wanted,hgd]
   rw[aaJ hw]
   exact .inl (go h)
  | some jw =>
   obtain⟨j,want⟩:=jw
   rw[hgd]at h2
   simp only[oG]at h2
   split at h2
   ·rename_i oj hj
    split at h2
    ·rename_i t ht
     cases h2
     have qn:ops[j]?=some oj:=by simpa using hj
     obtain⟨d,KC,h⟩:=au h
     have hv:=hs.env t d KC
     split at h
     ·rename_i b
      have hb:=VR.ofRaw hv
      have AO:a.tmps[t]?=some (.bool b):=by
       unfold Array.getD at hb
       split at hb
       ·rename_i hlt
        rw[abH hlt]
        simpa using hb
       ·cases hb
      have hy:yielded ops a.tmps j=some b:=by simp[yielded,qn,ht,AO]
      have hw:Region.wanted o (yielded ops a.tmps)=(b==want):=by
       simp only[Region.wanted,hgd,hy]
       cases b<;>cases want<;>rfl
      rw[hw]
      by_cases hbw:b=want
      ·subst hbw
       rw[aaJ (by simp)]
       exact .inl (go (h.1 rfl))
      ·rw[aaC (by simpa using hbw)]
       exact skip (h.2 (by cases b<;>cases want<;>simp_all))
     ·obtain⟨vs,hvs,bW⟩:=hv
      have hvs0:vs=#[]:=by
       have:=bW.len
       apply ace
       exact aaF (by simpa using this.symm)
      subst hvs0
      have hy:yielded ops a.tmps j=none:=by
       simp only[yielded,qn,abg,ht]
       unfold Array.getD at hvs
       split at hvs
       ·rename_i hlt
        rw[abH hlt]
        have:a.tmps[t]= .tuple #[]:=by simpa using hvs
        rw[this]
       ·rename_i hlt
        rw[acK (by omega)]
      have hw:Region.wanted o (yielded ops a.tmps)=false:=by
       simp only[Region.wanted,hgd,hy]
       rfl
      rw[aaC (by rw[hw];simp)]
      exact skip h
     ·exact h.elim
    ·cases h2
   ·cases h2
def exitOf:gF->Exit
 | .normal=> .normal
 | .exit i=> .exit i
 | .ret=> .ret
def Post(n:Nat)(ρ:Pl)(T:Nat->Prop)(rows:Rows)(w:World)(Q:gF->Env->Rows->Prop)(Q':Exit->Act->World->Prop):Prop:=
 ∀e env' aa ρ' T' a' w',Q e env' aa->eQ n ρ' T' env' aa a' w'->Step ρ T rows w ρ' T' aa w'->Q' (exitOf e) a' w'
end Go.Am
namespace Go.Am
variable {C:aU} {P:Program} {n:Nat} {ρ:Pl} {T:Nat->Prop} {env:Env} {rows:Rows} {a:Act} {w:World}
def Pz(rows:Rows)(f:(D->Rows->Prop)->Prop):Prop:=∀k,f k->∃d new,k d (rows++new)/\f (λd2 r2=>d2=d/\r2=rows++new)
theorem bu(rows:Rows)(d:D):Pz rows (λk=>k d rows):=λk h=>⟨d,[],by simpa using h,rfl,by simp⟩
theorem sV(rows new:Rows)(d:D):Pz rows (λk=>k d (rows++new)):=λk h=>⟨d,new,h,rfl,rfl⟩
theorem aO(rows:Rows):Pz rows (λ_=>False):=λ_ h=>h.elim
theorem bn{rows:Rows}{f:(D->Rows->Prop)->Prop}(p:Prop)(h:Pz rows f):Pz rows (λk=>p/\f k):=by
 intro k ⟨hp,hf⟩
 obtain⟨d,new,h1,h2⟩:=h k hf
 exact⟨d,new,h1,hp,h2⟩
theorem aT{α:Type}{rows:Rows}{x:Option α}{f:α->(D->Rows->Prop)->Prop}(h:∀a,Pz rows (f a)):Pz rows (λk=>bj x (λa=>f a k)):=by
 intro k hk
 cases x with
 |none=>exact hk.elim
 |some a=>exact h a k hk
theorem det_if{rows:Rows}{f g:(D->Rows->Prop)->Prop}(b:Bool)(hf:Pz rows f)(hg:Pz rows g):Pz rows (λk=>(b=true->f k)/\(b=false->g k)):=by
 intro k hk
 cases b with
 |true=>
  obtain⟨d,new,h1,h2⟩:=hf k (hk.1 rfl)
  refine⟨d,new,h1,λ_=>h2,λh=>?_⟩
  cases h
 |false=>
  obtain⟨d,new,h1,h2⟩:=hg k (hk.2 rfl)
  refine⟨d,new,h1,λh=>?_,λ_=>h2⟩
  cases h
theorem AP{rows:Rows}{f:Nat->Nat->Nat->(D->Rows->Prop)->Prop}(l h m:Int)(n:Nat)(hf:∀a b c,Pz rows (f a b c)):Pz rows (λk=>nB l h m n λa b c=>f a b c k):=
 bn _ (bn _ (bn _ (bn _ (hf _ _ _))))
theorem det_aBin(rows:Rows)(op:BinOp)(x y:Value):Pz rows (λk=>cm op x y λd=>k d rows):=by
 unfold cm
 intro k h
 split at h
 all_goals first
  |exact h.elim
  |exact bu rows _ k h
  |exact bn _ (bu rows _) k h
  |exact bn _ (bn _ (bu rows _)) k h
theorem det_aUn(rows:Rows)(op:UnOp)(x:Value):Pz rows (λk=>aUn op x λd=>k d rows):=by
 unfold aUn
 intro k h
 split at h
 all_goals first
  |exact h.elim
  |exact bu rows _ k h
theorem Nf(hN:∀f,C.cV f=none)(o:nY)(hq:oH o=true):Pz rows (dX C env rows o):=by
 cases o with
 |mv x=>exact aT λd=>bu rows d
 | pick c x y =>
  refine aT λd=>?_
  cases d with
  |raw v=>
   cases v with
   |bool t=>exact aT λd=>bu rows d
   | _=>exact aO rows
  | _=>exact aO rows
 | bin op x y =>
  refine aT λd=>?_
  cases d with
  |raw v=>
   refine aT λd2=>?_
   cases d2 with
   |raw u=>exact det_aBin rows op v u
   | _=>exact aO rows
  | _=>exact aO rows
 | eqa s neg x y =>
  refine aT λd=>?_
  cases d with
  |agg s1 l=>
   refine aT λd2=>?_
   cases d2 with
   |agg s2 l'=>exact bn _ (bn _ (aT λb=>bu rows _))
   | _=>exact aO rows
  | _=>exact aO rows
 | beq neg x y =>
  refine aT λd=>?_
  cases d with
  | raw v =>
   cases v with
   | bool t =>
    refine aT λd2=>?_
    cases d2 with
    |raw u=>
     cases u with
     |bool t2=>exact bu rows _
     | _=>exact aO rows
    | _=>exact aO rows
   | _=>exact aO rows
  | _=>exact aO rows
 |un op x=>
  refine aT λd=>?_
  cases d with
  |raw v=>exact det_aUn rows op v
  | _=>exact aO rows
 | conv kd x =>
  refine aT λd=>?_
  cases d with
  |raw v=>
   cases v with
   |int k n=>exact bu rows _
   | _=>exact aO rows
  | _=>exact aO rows
 | Lj x =>
  refine aT λd=>?_
  cases d with
  |raw v=>
   cases v with
   |string b=>exact bu rows _
   | _=>exact aO rows
  | _=>exact aO rows
 |alloc s z=>exact sV rows _ _
 |Zt ks vs=>exact sV rows _ _
 |Gm ks vs ok z m x=>exact aT λd=>aT λd2=>bn _ (aT λl=>aT λo=>bu rows _)
 |box s x=>exact aT λd=>bn _ (sV rows _ _)
 |build s z ps=>exact aT λl=>bu rows _
 |fw s m z ps=>exact aT λl=>sV rows _ _
 |load s x=>
  refine aT λd=>?_
  cases d with
  |ptr s' r p=>exact bn _ (aT λrow=>aT λd=>bu rows d)
  |cb d=>exact bn _ (bu rows _)
  |nX m t r p off=>exact bn _ (aT λl=>bn _ (bu rows _))
  | _=>exact aO rows
 |qA x=>
  refine aT λd=>?_
  cases d with
  |ptr s' r p=>exact bu rows _
  |cb d=>exact bu rows _
  | _=>exact aO rows
 | fx s x i =>
  refine aT λd=>?_
  cases d with
  |ptr s' r p=>exact bn _ (aT λe=>bu rows _)
  |cb d=>
   cases d with
   |agg s' l=>exact bn _ (aT λe=>bu rows _)
   | _=>exact aO rows
  | _=>exact aO rows
 |field s x i=>
  refine aT λd=>?_
  cases d with
  |agg s' l=>exact bn _ (aT λe=>bu rows _)
  | _=>exact aO rows
 | xf m s x i =>
  refine aT λd=>aT λd2=>?_
  cases d2 with
  | raw v =>
   cases v with
   | int kd j =>
    cases d with
    |ptr s' r p=>exact bn _ (bn _ (bn _ (bu rows _)))
    |cb d=>
     cases d with
     |agg s' l=>exact bn _ (bn _ (bn _ (aT λd=>bu rows _)))
     | _=>exact aO rows
    | _=>exact aO rows
   | _=>exact aO rows
  | _=>exact aO rows
 | js s x i =>
  refine aT λd=>aT λd2=>?_
  cases d2 with
  | raw v =>
   cases v with
   |int kd j=>
    cases d with
    |sl t r p off len ex=>exact bn _ (bn _ (bn _ (bu rows _)))
    |dh t l ex=>exact bn _ (bn _ (bn _ (aT λd=>bu rows _)))
    | _=>exact aO rows
   | _=>exact aO rows
  | _=>exact aO rows
 | index m s x i =>
  refine aT λd=>?_
  cases d with
  | agg t l =>
   refine aT λd2=>?_
   cases d2 with
   |raw v=>
    cases v with
    |int kd j=>exact bn _ (bn _ (bn _ (aT λd=>bu rows _)))
    | _=>exact aO rows
   | _=>exact aO rows
  | _=>exact aO rows
 | vk x i =>
  refine aT λd=>?_
  cases d with
  | raw v =>
   cases v with
   | string b =>
    refine aT λd2=>?_
    cases d2 with
    |raw u=>
     cases u with
     |int kd j=>exact bn _ (aT λc=>bu rows _)
     | _=>exact aO rows
    | _=>exact aO rows
   | _=>exact aO rows
  | _=>exact aO rows
 | Ay m s x lo hi mx =>
  refine aT λd=>aT λl=>aT λh=>aT λc=>AP _ _ _ _ λa b e=>?_
  cases d with
  |ptr t r p=>exact bn _ (bu rows _)
  |cb d=>
   cases d with
   |agg s' l=>exact bn _ (bu rows _)
   | _=>exact aO rows
  | _=>exact aO rows
 | slice s x lo hi mx =>
  refine aT λd=>aT λl=>aT λh=>aT λc=>aT λN=>AP _ _ _ _ λa b e=>?_
  cases d with
  | raw v =>
   cases v with
   | slice ad len cap =>
    cases ad with
    | none =>
     cases len with
     |zero=>cases cap with
      |zero=>exact bu rows _
      |succ _=>exact aO rows
     |succ _=>exact aO rows
    |some _=>exact aO rows
   | _=>exact aO rows
  |sl t r p off len ex=>exact bn _ (bu rows _)
  |dh t l ex=>exact bn _ (bu rows _)
  | _=>exact aO rows
 | DZ x lo hi =>
  refine aT λd=>?_
  cases d with
  |raw v=>
   cases v with
   |string b=>exact aT λl=>aT λh=>AP _ _ _ _ λa b e=>bu rows _
   | _=>exact aO rows
  | _=>exact aO rows
 | mks s b z l c =>
  refine aT λd=>?_
  cases d with
  | raw v =>
   cases v with
   | int kd j =>
    refine aT λd2=>?_
    cases d2 with
    |raw u=>
     cases u with
     |int kd j=>exact bn _ (bn _ (bn _ (bn _ (sV rows _ _))))
     | _=>exact aO rows
    | _=>exact aO rows
   | _=>exact aO rows
  | _=>exact aO rows
 |ext x i=>
  refine aT λd=>?_
  cases d with
  |cd l=>exact aT λd=>bu rows d
  | _=>exact aO rows
 |len x=>exact aT λd=>aT λm=>bu rows _
 | Az x =>
  refine aT λd=>?_
  cases d with
  |raw v=>
   cases v with
   |string b=>exact bu rows _
   | _=>exact aO rows
  | _=>exact aO rows
 |xg mx l=>exact aT λds=>aT λr=>bu rows _
 |ZS x=>exact aT λd=>bn _ (aT λl=>aT λm=>bn _ (aT λbs=>bu rows _))
 | s2b x =>
  refine aT λd=>?_
  cases d with
  |raw v=>
   cases v with
   |string b=>exact bu rows _
   | _=>exact aO rows
  | _=>exact aO rows
 | call f args =>
  refine aT λds=>?_
  show Pz rows (Bv C rows f ds)
  unfold Bv
  cases C.fn f with
  |some F=>exact det_if _ (aT λds'=>aT λr=>bn _ (sV rows _ _)) (aT λr=>sV rows _ _)
  | none =>
   have e:C.Pb f=(C.fnq f).map qrun:=by unfold aU.Pb;rw[hN f]
   rw[e]
   cases C.fnq f with
   |none=>exact aO rows
   |some q=>
    show Pz rows (λk=>bj (q ds rows) λr=>k r.1 (rows++r.2))
    exact aT λr=>sV rows _ _
 |fail=>exact aO rows
 | Pa s x =>
  refine aT λd=>?_
  cases d with
  |sl t r p off len ex=>
   cases p with
   |nil=>exact bn _ (bn _ (aT λrow=>bn _ (bu rows _)))
   |cons _ _=>exact aO rows
  | _=>exact aO rows
 | Br neg x y =>
  refine aT λd=>aT λd2=>?_
  cases d2 with
  | raw v =>
   cases v with
   | pointer ad =>
    cases ad with
    | none =>
     cases d with
     | raw v =>
      cases v with
      |pointer ad=>
       cases ad with
       |none=>exact bu rows _
       |some _=>exact aO rows
      | _=>exact aO rows
     |ptr _ _ _=>exact bu rows _
     |cb _=>exact bu rows _
     | _=>exact aO rows
    |some _=>exact aO rows
   | _=>exact aO rows
  | _=>exact aO rows
 |s2a m s x=>
  refine aT λd=>?_
  cases d with
  |sl t r p off len ex=>exact bn _ (bn _ (bn _ (bu rows _)))
  |dh t l ex=>exact bn _ (bn _ (bn _ (bu rows _)))
  | _=>exact aO rows
 | _=>cases hq
theorem yT{env':Env}:∀{l:List X},(∀x∈l,ev C env x=ev C env' x)->OZ C env l=OZ C env' l
 |[],_=>rfl
 |x::l,h=>by simp only[OZ,h x (by simp),yT (l:=l) (λy hy=>h y (by simp[hy]))]
theorem mY{env':Env}{o:Option X}(h:∀x∈o.toList,ev C env x=ev C env' x):Ks C env o=Ks C env' o:=by
 cases o with
 |none=>rfl
 |some x=>simp only[Ks,h x (by simp)]
theorem sW{env':Env}{sub:Nat->Option Sh}:∀{ps:List (Nat×X)} {z:List D},(∀x∈ps.map (·.2),ev C env x=ev C env' x)->qi C env sub ps z=qi C env' sub ps z
 |[],z,_=>rfl
 |(i,x)::ps,z,h=>by
  have hx:=h x (by simp)
  have ih:=λz=>sW (sub:=sub) (ps:=ps) (z:=z) (λy hy=>h y (ab3 _ hy))
  simp only[qi,hx,ih]
theorem Ei{env':Env}{o:nY}(h:∀x∈o.xs,ev C env x=ev C env' x)(k:D->Rows->Prop):dX C env rows o k=dX C env' rows o k:=by
 cases o with
 |alloc s z=>rfl
 |Zt ks vs=>rfl
 |je ks vs m x v=>simp only[dX,h m (by simp[nY.xs]),h x (by simp[nY.xs]),h v (by simp[nY.xs])]
 |Gm ks vs ok z m x=>simp only[dX,h m (by simp[nY.xs]),h x (by simp[nY.xs])]
 |pick c x y=>simp only[dX,h c (by simp[nY.xs]),h x (by simp[nY.xs]),h y (by simp[nY.xs])]
 |build s z ps=>simp only[dX,sW (ps:=ps) h]
 |fw s m z ps=>simp only[dX,sW (ps:=ps) h]
 |Ay m s x lo hi mx=>
  simp only[dX,h x (by simp[nY.xs]),mY (o:=lo) (λy hy=>h y (by simp only[nY.xs,aaI,aaQ];exact .inr (.inl (.inl hy)))),mY (o:=hi) (λy hy=>h y (by simp only[nY.xs,aaI,aaQ];exact .inr (.inl (.inr hy)))),mY (o:=mx) (λy hy=>h y (by simp only[nY.xs,aaI,aaQ];exact .inr (.inr hy)))]
 |slice s x lo hi mx=>
  simp only[dX,h x (by simp[nY.xs]),mY (o:=lo) (λy hy=>h y (by simp only[nY.xs,aaI,aaQ];exact .inr (.inl (.inl hy)))),mY (o:=hi) (λy hy=>h y (by simp only[nY.xs,aaI,aaQ];exact .inr (.inl (.inr hy)))),mY (o:=mx) (λy hy=>h y (by simp only[nY.xs,aaI,aaQ];exact .inr (.inr hy)))]
 |DZ x lo hi=>
  simp only[dX,h x (by simp[nY.xs]),mY (o:=lo) (λy hy=>h y (by simp only[nY.xs,aaI,aaQ];exact .inr (.inl hy))),mY (o:=hi) (λy hy=>h y (by simp only[nY.xs,aaI,aaQ];exact .inr (.inr hy)))]
 |xg mx l=>simp only[dX,yT (l:=l) h]
 |call f l=>simp only[dX,yT (l:=l) h]
 |qW fs x l=>simp only[dX,h x (by simp[nY.xs]),yT (l:=l) (λy hy=>h y (by simp[nY.xs,hy]))]
 |fail=>rfl
 |s2a _ _ x|Pa _ x|mnz x|mkf _ x|clr _ _ x=>simp only[dX,h x (by simp[nY.xs])]
 |Br neg x y|O9 neg x y=>simp only[dX,h x (by simp[nY.xs]),h y (by simp[nY.xs])]
 |mv x|un op x|conv kd x|Lj x|box s x|load s x|qA x|fx s x i|field s x i|ext x i|len x|Az x|ZS x|s2b x=>simp only[dX,h x (by simp[nY.xs])]
 |bin op x y|eqa s neg x y|beq neg x y|store s x y|xf m s x y|js s x y|index m s x y|vk x y|Sk x y|append s b x y|vl s b z x y|copy s x y|mks s b z x y=>simp only[dX,h x (by simp[nY.xs]),h y (by simp[nY.xs])]
end Go.Am
namespace Go.Am
variable {C:aU} {P:Program} {n:Nat}
structure Xi (ops:List Oper) (al:List aS) (m:Nat):Prop where
 le:m<=ops.length
 back:∀i j,v7 ops i j=true->j<i
 quiet:∀i,i<m->∃x o,al[i]?=some x/\ops[i]?=some o/\oH x.op=true/\iC o.op=true/\(∀j,j<m->j≠i->∀t,x.dst=some t->bC al j≠some t)/\(∀t,t∈px x->∀j,j<m->bC al j=some t->v7 ops i j=true)
structure DOK (ops:List Oper) (al:List aS) (m:Nat):Prop extends Xi ops al m where
 tail:∀i,i<ops.length->m<=i->∀j,j<i->v7 ops i j=true\/∃k,k<i/\j<k/\v7 ops k j=true
structure DOK2 (ops:List Oper) (al:List aS) (m:Nat):Prop extends Xi ops al m where
 tail:∀i,i<ops.length->m<=i->∃x,al[i]?=some x/\∀j,j<i->KB ops 2 i j=true\/(j<m/\∃y t,al[j]?=some y/\y.guard=none/\y.dst=some t/\x.dst≠some t/\t∉px x)
theorem yU{ops:List Oper}{al:List aS}{m:Nat}(h1:Nat.ble m ops.length=true)(h2:((List.range ops.length).all (λi=>match ops[i]? with
  |some o=>o.after.toList.all λe=>!Region.binds .any e||Nat.blt e.on i
  |none=>true))=true)(h3:((List.range m).all (λi=>match al[i]?,ops[i]? with
  |some x,some o=>oH x.op&&iC o.op&&
   (List.range m).all (λj=>j==i||x.dst.isNone||bC al j !=x.dst)&&
   (px x).all λt=>(List.range m).all λj=>bC al j !=some t||v7 ops i j
  | _,_=>false))=true):Xi ops al m:=by
 refine⟨abE h1,λi j hd=>?_,λi hi=>?_⟩
 ·unfold v7 at hd
  split at hd
  ·rename_i o ho
   have hi:i<ops.length:=dj ho
   have:=aa4.1 h2 i (by simpa using hi)
   simp only[ho]at this
   obtain⟨e,he,hb⟩:=ab9.1 hd
   simp only[aan,ack]at hb
   have:=aa4.1 this e he
   simp only[hb.1,abw,acn]at this
   rw[<-hb.2]
   exact adQ.mp this
  ·cases hd
 ·have:=aa4.1 h3 i (by simpa using hi)
  split at this
  ·rename_i x o hx ho
   simp only[aan]at this
   obtain⟨⟨⟨q1,q2⟩,q3⟩,q4⟩:=this
   refine⟨x,o,hx,ho,q1,q2,λj hj hne t ht Vn=>?_,λt ht j hj Vn=>?_⟩
   ·have:=aa4.1 q3 j (by simpa using hj)
    simp[hne,ht,Vn]at this
   ·have:=aa4.1 (aa4.1 q4 t ht) j (by simpa using hj)
    simpa[Vn]using this
  ·cases this
theorem PA{ops:List Oper}{al:List aS}{m:Nat}(h:dOK ops al m=true):DOK ops al m:=by
 simp only[dOK,aan]at h
 obtain⟨⟨⟨h1,h2⟩,h3⟩,h4⟩:=h
 refine⟨yU h1 h2 h3,λi hi hm j hj=>?_⟩
 ·have:=aa4.1 h4 i (by simpa using hi)
  have hb:Nat.blt i m=false:=by
   cases hb:Nat.blt i m with
   |false=>rfl
   |true=>have:=adQ.mp hb;omega
  rw[hb,acn]at this
  have:=aa4.1 this j (by simpa using hj)
  rcases ady.1 this with h|h
  ·exact .inl h
  ·obtain⟨k,hk,hb⟩:=ab9.1 h
   simp only[aan]at hb
   exact .inr ⟨k,by simpa using hk,adQ.mp hb.1,hb.2⟩
theorem Xj{ops:List Oper}{al:List aS}{m:Nat}(h:W0 ops al m=true):DOK2 ops al m:=by
 simp only[W0,aan]at h
 obtain⟨⟨⟨h1,h2⟩,h3⟩,h4⟩:=h
 refine⟨yU h1 h2 h3,λi hi hm=>?_⟩
 have:=aa4.1 h4 i (by simpa using hi)
 have hb:Nat.blt i m=false:=by
  cases hb:Nat.blt i m with
  |false=>rfl
  |true=>have:=adQ.mp hb;omega
 rw[hb,acn]at this
 split at this
 ·rename_i x hx
  refine⟨x,hx,λj hj=>?_⟩
  have:=aa4.1 this j (by simpa using hj)
  rcases ady.1 this with h|h
  ·exact .inl h
  ·right
   simp only[aan]at h
   obtain⟨q1,q2⟩:=h
   refine⟨adQ.mp q1,?_⟩
   split at q2
   ·rename_i y hy
    simp only[aan]at q2
    obtain⟨q2,q3⟩:=q2
    split at q3
    ·rename_i t ht
     simp only[aan]at q3
     exact⟨y,t,hy,by simpa using q2,ht,by simpa using q3.1,by simpa using q3.2⟩
    ·cases q3
   ·cases q2
 ·cases this
def Ex(C:aU)(env:Env)(rows:Rows)(x:aS)(d:D)(aa:Rows):Prop:=
 match x.guard with
 |none=>dX C env rows x.op λd2 r2=>d2=d/\r2=aa
 | some (s, want) => (∃ b, look env s = some (.raw (.bool b)) /\ (b = want -> dX C env rows x.op λd2 r2 => d2 = d /\ r2 = aa) /\ (b = !want -> d = .cd [] /\ aa = rows)) \/
   (look env s=some (.cd [])/\d= .cd []/\aa=rows)
theorem ex_of(hN:∀f,C.cV f=none){x:aS}{l:List aS}{env:Env}{rows:Rows}{K:Env->Rows->Prop}(h:dR C (x::l) env rows K)(hq:oH x.op=true):
  ∃d new,Ex C env rows x d (rows++new)/\dR C l (put x.dst d env) (rows++new) K:=by
 obtain⟨dst,o,g⟩:=x
 cases g with
 |none=>
  obtain⟨d,new,h1,h2⟩:=Nf hN o hq _ h
  exact⟨d,new,h2,h1⟩
 | some sw =>
  obtain⟨s,want⟩:=sw
  obtain⟨v,hv,h⟩:=au h
  split at h
  ·rename_i b
   by_cases hb:b=want
   ·obtain⟨d,new,h1,h2⟩:=Nf hN o hq _ (h.1 hb)
    refine⟨d,new,.inl ⟨b,hv,λ_=>h2,λh3=>?_⟩,h1⟩
    rw[hb]at h3
    cases want<;>cases h3
   ·have HI:b=!want:=by cases b<;>cases want<;>simp_all
    refine⟨.cd [],[],.inl ⟨b,hv,λh3=>absurd h3 hb,λ_=>⟨rfl,by simp⟩⟩,?_⟩
    simpa using h.2 HI
  ·exact⟨.cd [],[],.inr ⟨hv,rfl,by simp⟩,by simpa using h⟩
  ·exact h.elim
def nt(al:List aS)(Dd:Nat->D)(env:Env):Nat->Env
 |0=>env
 |i+1=>put (bC al i) (Dd i) (nt al Dd env i)
theorem H5(al:List aS)(env:Env){D1 D2:Nat->D}:∀(i:Nat),(∀j,j<i->D1 j=D2 j)->nt al D1 env i=nt al D2 env i
 |0,_=>rfl
 |i+1,h=>by simp only[nt,h i (by omega),H5 al env i (λj hj=>h j (by omega))]
theorem trace(hN:∀f,C.cV f=none){al:List aS}{env:Env}{rows:Rows}{K:Env->Rows->Prop}:∀(m:Nat),m<=al.length->(∀i,i<m->∃x,al[i]?=some x/\oH x.op=true)->dR C al env rows K->
  ∃(Dd:Nat->D) (R:Nat->Rows),R 0=rows/\(∀i,i<m->∃x new,al[i]?=some x/\R (i+1)=R i++new/\Ex C (nt al Dd env i) (R i) x (Dd i) (R (i+1)))/\dR C (al.drop m) (nt al Dd env m) (R m) K
 |0,_,_,h=>⟨λ_=>default,λ_=>rows,rfl,λi hi=>by omega,by simpa[nt]using h⟩
 | m + 1, hm, hq, h => by
  obtain⟨Dd,R,h1,h2,h3⟩:=trace hN m (by omega) (λi hi=>hq i (by omega)) h
  obtain⟨x,hx,hqx⟩:=hq m (by omega)
  have hdrop:al.drop m=x::al.drop (m+1):=by
   have hlt:m<al.length:=by omega
   rw[abp hlt]
   congr 1
   rw[aao hlt]at hx
   exact abd hx
  rw[hdrop]at h3
  obtain⟨d,new,g1,g2⟩:=ex_of hN h3 hqx
  have Xk:bC al m=x.dst:=by simp[bC,hx]
  let Dd':Nat->D:=λj=>if j=m then d else Dd j
  let R':Nat->Rows:=λj=>if j=m+1 then R m++new else R j
  have yV:∀i,i<=m->nt al Dd' env i=nt al Dd env i:=λi hi=>H5 al env i (λj hj=>by simp only[Dd'];rw[aaC (by omega)])
  have hR:∀i,i<=m->R' i=R i:=λi hi=>by simp only[R'];rw[aaC (by omega)]
  have hRm:R' (m+1)=R m++new:=by simp[R']
  have hDm:Dd' m=d:=by simp[Dd']
  refine⟨Dd',R',by rw[hR 0 (by omega)];exact h1,λi hi=>?_,?_⟩
  ·by_cases O0:i=m
   ·subst O0
    refine⟨x,new,hx,by rw[hRm,hR i (by omega)],?_⟩
    rw[yV i (by omega),hR i (by omega),hRm,hDm]
    exact g1
   ·obtain⟨x',new',q1,q2,q3⟩:=h2 i (by omega)
    refine⟨x',new',q1,by rw[hR (i+1) (by omega),hR i (by omega)];exact q2,?_⟩
    have:Dd' i=Dd i:=by simp only[Dd'];rw[aaC O0]
    rw[yV i (by omega),hR i (by omega),hR (i+1) (by omega),this]
    exact q3
  ·simp only[nt]
   rw[yV m (by omega),hRm,hDm,Xk]
   exact g2
theorem xB{al:List aS}{Dd:Nat->D}{env:Env}{t:Nat}:∀(i:Nat),(∀j,j<i->bC al j≠some t)->look (nt al Dd env i) t=look env t
 |0,_=>rfl
 | i + 1, h => by
  have h1:=h i (by omega)
  have ih:=xB (Dd:=Dd) (env:=env) i (λj hj=>h j (by omega))
  simp only[nt]
  cases hd:bC al i with
  |none=>exact ih
  | some s =>
   simp only[put,look]
   have:(s==t)=false:=by
    have:s≠t:=λe=>h1 (by rw[hd,e])
    simpa using this
   rw[this]
   exact ih
theorem xC{al:List aS}{Dd:Nat->D}{env:Env}{t k:Nat}(hk:bC al k=some t):∀(i:Nat),k<i->(∀j,j<i->j≠k->bC al j≠some t)->look (nt al Dd env i) t=some (Dd k)
 |0,h,_=>by omega
 | i + 1, h, hu => by
  by_cases hi:i=k
  ·subst hi
   simp[nt,hk,put,look]
  ·have ih:=xC (Dd:=Dd) (env:=env) hk i (by omega) (λj hj=>hu j (by omega))
   have h1:=hu i (by omega) hi
   simp only[nt]
   cases hd:bC al i with
   |none=>exact ih
   | some s =>
    simp only[put,look]
    have:(s==t)=false:=by
     have:s≠t:=λe=>h1 (by rw[hd,e])
     simpa using this
    rw[this]
    exact ih
def mu(ρ:Pl)(k:Nat):Pl:=λr=>if r<k then ρ r else none
theorem PC{ρ:Pl}{k k':Nat}(h:k<=k'):∀r L,mu ρ k r=some L->mu ρ k' r=some L:=by
 intro r L hr
 unfold mu at hr⊢
 split at hr
 ·rw[aaJ (by omega)];exact hr
 ·cases hr
theorem lU{ρ:Pl}{k:Nat}:∀r L,mu ρ k r=some L->ρ r=some L:=by
 intro r L hr
 unfold mu at hr
 split at hr
 ·exact hr
 ·cases hr
def small(env:Env):List Nat->Env
 |[]=>[]
 |t::l=>match look env t with
  |some d=>(t,d)::small env l
  |none=>small env l
theorem rn {env : Env} : ∀ {l : List Nat} {t : Nat}, t ∈ l -> look (small env l) t = look env t
 | s :: l, t, h => by
  simp only[small]
  by_cases hst:s=t
  ·subst hst
   cases hl:look env s with
   |some d=>simp[look]
   | none =>
    simp only
    by_cases hm:s∈l
    ·rw[rn hm];exact hl
    ·have:∀(l:List Nat),s∉l->look (small env l) s=none:=by
      intro l
      induction l with
      |nil=>intro _;rfl
      | cons q l ih =>
       intro hq
       simp only[aaI,ad5]at hq
       simp only[small]
       cases hlq:look env q with
       |none=>exact ih hq.2
       |some d=>
        simp only[look]
        have:(q==s)=false:=by simpa using λe=>hq.1 (Eq.symm e)
        rw[this]
        exact ih hq.2
     exact this l hm
  ·have ht:t∈l:=by
    rcases aaI.1 h with h|h
    ·exact absurd h.symm hst
    ·exact h
   cases hl:look env s with
   |none=>exact rn ht
   |some d=>
    simp only[look]
    have:(s==t)=false:=by simpa using hst
    rw[this]
    exact rn ht
theorem yW{env:Env}:∀{l:List Nat} {t:Nat} {d:D},look (small env l) t=some d->t∈l/\look env t=some d
 |[],t,d,h=>by simp[small,look]at h
 | s :: l, t, d, h => by
  simp only[small]at h
  cases hl:look env s with
  |none=>
   rw[hl]at h
   obtain⟨h1,h2⟩:=yW h
   exact⟨by simp[h1],h2⟩
  | some x =>
   rw[hl]at h
   simp only[look]at h
   cases hb:(s==t)with
   |true=>
    have:s=t:=by simpa using hb
    subst this
    rw[hb]at h
    simp at h
    exact⟨by simp,by rw[hl,h]⟩
   |false=>
    rw[hb]at h
    obtain⟨h1,h2⟩:=yW (by simpa using h)
    exact⟨by simp[h1],h2⟩
theorem vD:∀{l:List X} {t:Nat},.tmp t∈l->t∈xk l
 | x :: l, t, h => by
  rcases aaI.1 h with h'|h'
  ·subst h';simp[xk]
  ·have ih:=vD h'
   cases x with
   |tmp s=>simp[xk,ih]
   |const _=>simpa[xk]using ih
   |aZ _=>simpa[xk]using ih
theorem iE{R R' new:Rows}{r:Nat}(h:R'=R++new)(hr:r<R.length):live R' r=live R r:=by
 subst h
 unfold live
 rw[aaM hr]
end Go.Am
namespace Go.Am
variable {C:aU} {P:Program} {n:Nat}
theorem xD{all:List Oper}:∀{l:List Oper} {al:List aS},AB P n all l=some al->al.length=l.length/\∀(i:Nat) (o:Oper) (x:aS),l[i]?=some o->al[i]?=some x->
  So n o.dst=true/\cOp P o.op=some x.op/\oG all o.guard=some x.guard/\x.dst=o.dst
 |[],al,h=>by simp[AB]at h;subst h;simp
 |o::l,al,h=>by
  obtain⟨ao,g,r,h0,h1,h2,h3,rfl⟩:=LG h
  obtain⟨g1,g2⟩:=xD h3
  refine⟨by simp[g1],λi o' x hi hx=>?_⟩
  cases i with
  |zero=>simp at hi hx;subst hi;subst hx;exact⟨h0,h1,h2,rfl⟩
  |succ i=>exact g2 i o' x (by simpa using hi) (by simpa using hx)
theorem Step.to{ρ ρ' Z5:Pl}{T T' Zv:Nat->Prop}{rows aa HB:Rows}{w w' w'':World}(h:Step ρ T rows w ρ' T' aa w')(h':Step ρ' T' aa w' Z5 Zv HB w''):Step ρ T rows w Z5 Zv HB w'':=h.trans h'
theorem ex_wp(hN:∀f,C.cV f=none)(hC:aI C P){ops:Array Oper}{i:Nat}{o:Oper}{x:aS}(ho:ops[i]?=some o)(hop:cOp P o.op=some x.op)(hgd:oG ops.toList o.guard=some x.guard){env:Env}{rows aa:Rows}{d:D}{ρ:Pl}{T:Nat->Prop}{a:Act}{w:World}
  {Q':Exit->Act->World->Prop}{next:Act->World->Prop}(hs:eQ n ρ T env rows a w)(hg:eS C w T)(hq:iC o.op=true)(hx:Ex C env rows x d aa)
  (hn:∀ρ' T' v w',eQ n ρ' T' env aa a w'->Step ρ T rows w ρ' T' aa w'->VR ρ' w' T' d v->(QH ρ rows w w'/\∀b,T' b->T b\/w.heap.size<=b)->next (a.put o.dst v) w'):wpOp P ops Q' i next a w:=by
 have go:∀(h:dX C env rows x.op λd2 r2=>d2=d/\r2=aa),o.wp P a w next Q':=by
  intro h
  refine BM hs hg hC hop h ?_
  rintro d2 r2 ρ' T' v w' ⟨rfl,rfl⟩ ib hst hv hk
  exact hn ρ' T' v w' ib hst hv (hk hN hq)
 have skip:d= .cd []->aa=rows->next (a.put o.dst undef) w:=by
  rintro rfl rfl
  exact hn ρ T undef w hs (Step.refl _ _ _ _) ⟨#[],rfl,.nil⟩ ⟨λ_ _=> .inl rfl,λ_ h=> .inl h⟩
 unfold wpOp
 simp only[ho]
 cases SH:o.guard with
 |none=>
  rw[SH]at hgd
  simp[oG]at hgd
  have hw:Region.wanted o (yielded ops a.tmps)=true:=by simp[Region.wanted,SH]
  rw[aaJ hw]
  refine .inl (go ?_)
  unfold Ex at hx
  rw[<-hgd]at hx
  exact hx
 | some jw =>
  obtain⟨j,want⟩:=jw
  rw[SH]at hgd
  simp only[oG]at hgd
  split at hgd
  ·rename_i oj hj
   split at hgd
   ·rename_i t ht
    have hgx:x.guard=some (t,want):=by simpa using hgd.symm
    have qn:ops[j]?=some oj:=by simpa using hj
    unfold Ex at hx
    rw[hgx]at hx
    rcases hx with⟨b,KC,rq,FG⟩|⟨KC,rq,FG⟩
    ·have hb:=VR.ofRaw (hs.env t _ KC)
     have AO:a.tmps[t]?=some (.bool b):=by
      unfold Array.getD at hb
      split at hb
      ·rename_i hlt
       rw[abH hlt]
       simpa using hb
      ·cases hb
     have hy:yielded ops a.tmps j=some b:=by simp[yielded,qn,ht,AO]
     have hw:Region.wanted o (yielded ops a.tmps)=(b==want):=by
      simp only[Region.wanted,SH,hy]
      cases b<;>cases want<;>rfl
     rw[hw]
     by_cases hbw:b=want
     ·rw[aaJ (by simp[hbw])]
      exact .inl (go (rq hbw))
     ·rw[aaC (by simpa using hbw)]
      have HI:b=!want:=by cases b<;>cases want<;>simp_all
      exact skip (FG HI).1 (FG HI).2
    ·obtain⟨vs,hvs,bW⟩:=hs.env t _ KC
     have hvs0:vs=#[]:=by
      have:=bW.len
      apply ace
      exact aaF (by simpa using this.symm)
     subst hvs0
     have hy:yielded ops a.tmps j=none:=by
      simp only[yielded,qn,abg,ht]
      unfold Array.getD at hvs
      split at hvs
      ·rename_i hlt
       rw[abH hlt]
       have:a.tmps[t]= .tuple #[]:=by simpa using hvs
       rw[this]
      ·rename_i hlt
       rw[acK (by omega)]
     have hw:Region.wanted o (yielded ops a.tmps)=false:=by
      simp only[Region.wanted,SH,hy]
      rfl
     rw[aaC (by rw[hw];simp)]
     exact skip rq FG
   ·cases hgd
  ·cases hgd
theorem yX(hC:aI C P){ops:Array Oper}{i:Nat}{o:Oper}{x:aS}(ho:ops[i]?=some o)(hd:So n o.dst=true)(hop:cOp P o.op=some x.op)(hgd:oG ops.toList o.guard=some x.guard)(Xk:x.dst=o.dst){env:Env}{rows:Rows}{ρ:Pl}{T:Nat->Prop}{a:Act}{w:World}
  {Q':Exit->Act->World->Prop}{next:Act->World->Prop}{l:List aS}{K:Env->Rows->Prop}(hs:eQ n ρ T env rows a w)(hg:eS C w T)(h:dR C (x::l) env rows K)
  (hn:∀env' aa ρ' T' a' w',dR C l env' aa K->eQ n ρ' T' env' aa a' w'->Step ρ T rows w ρ' T' aa w'->next a' w'):wpOp P ops Q' i next a w:=by
 have lz:=BN hd
 have go:∀(h:dX C env rows x.op λd rows=>dR C l (put o.dst d env) rows K),o.wp P a w next Q':=by
  intro h
  refine BM hs hg hC hop h ?_
  intro d aa ρ' T' v w' hk ib hst hv _
  exact hn _ aa ρ' T' _ w' hk (ib.put hv lz) hst
 have skip:∀(h:dR C l (put o.dst (.cd []) env) rows K),next (a.put o.dst undef) w:=by
  intro h
  exact hn _ rows ρ T _ w h (hs.put ⟨#[],rfl,.nil⟩ lz) (Step.refl _ _ _ _)
 unfold wpOp
 simp only[ho]
 obtain⟨dst,xo,g⟩:=x
 simp only at hop hgd Xk
 subst Xk
 cases SH:o.guard with
 |none=>
  rw[SH]at hgd
  simp[oG]at hgd
  subst hgd
  have hw:Region.wanted o (yielded ops a.tmps)=true:=by simp[Region.wanted,SH]
  rw[aaJ hw]
  exact .inl (go h)
 | some jw =>
  obtain⟨j,want⟩:=jw
  rw[SH]at hgd
  simp only[oG]at hgd
  split at hgd
  ·rename_i oj hj
   split at hgd
   ·rename_i t ht
    cases hgd
    have qn:ops[j]?=some oj:=by simpa using hj
    obtain⟨d,KC,h⟩:=au h
    have hv:=hs.env t d KC
    split at h
    ·rename_i b
     have hb:=VR.ofRaw hv
     have AO:a.tmps[t]?=some (.bool b):=by
      unfold Array.getD at hb
      split at hb
      ·rename_i hlt
       rw[abH hlt]
       simpa using hb
      ·cases hb
     have hy:yielded ops a.tmps j=some b:=by simp[yielded,qn,ht,AO]
     have hw:Region.wanted o (yielded ops a.tmps)=(b==want):=by
      simp only[Region.wanted,SH,hy]
      cases b<;>cases want<;>rfl
     rw[hw]
     by_cases hbw:b=want
     ·rw[aaJ (by simp[hbw])]
      exact .inl (go (h.1 hbw))
     ·rw[aaC (by simpa using hbw)]
      exact skip (h.2 (by cases b<;>cases want<;>simp_all))
    ·obtain⟨vs,hvs,bW⟩:=hv
     have hvs0:vs=#[]:=by
      have:=bW.len
      apply ace
      exact aaF (by simpa using this.symm)
     subst hvs0
     have hy:yielded ops a.tmps j=none:=by
      simp only[yielded,qn,abg,ht]
      unfold Array.getD at hvs
      split at hvs
      ·rename_i hlt
       rw[abH hlt]
       have:a.tmps[t]= .tuple #[]:=by simpa using hvs
       rw[this]
      ·rename_i hlt
       rw[acK (by omega)]
     have hw:Region.wanted o (yielded ops a.tmps)=false:=by
      simp only[Region.wanted,SH,hy]
      rfl
     rw[aaC (by rw[hw];simp)]
     exact skip h
    ·exact h.elim
   ·cases hgd
  ·cases hgd
def done(L:Array Bool)(j:Nat):Prop:=L.getD j false=true
theorem dep_spec{ops:Array Oper}{i j:Nat}{o:Oper}(ho:ops[i]?=some o)(h:v7 ops.toList i j=true):∃e∈o.after,Region.binds .any e=true/\e.on=j:=by
 unfold v7 at h
 have:ops.toList[i]?=some o:=by simpa using ho
 rw[this]at h
 obtain⟨e,he,hb⟩:=ab9.1 h
 simp only[aan,ack]at hb
 exact⟨e,by simpa using he,hb⟩
theorem gT{ops:Array Oper}{L:Array Bool}{i:Nat}(h:i∈Region.ready .any ops L):(∃o,ops[i]?=some o)/\L.getD i true=false/\∀j,v7 ops.toList i j=true->done L j:=by
 obtain⟨h1,o,ho,h3⟩:=mem_ready.1 h
 refine⟨⟨o,ho⟩,h1,λj hj=>?_⟩
 obtain⟨e,he,hb,rfl⟩:=dep_spec ho hj
 exact h3 e he hb
theorem ua{ops:Array Oper}{L:Array Bool}{i:Nat}(hi:i<ops.size)(h1:L.getD i true=false)(h:∀j,v7 ops.toList i j=true->done L j):i∈Region.ready .any ops L:=by
 refine mem_ready.2 ⟨h1,ops[i],abH hi,λe he hb=>?_⟩
 refine h e.on ?_
 unfold v7
 have:ops.toList[i]?=some ops[i]:=by simp[hi]
 rw[this]
 exact ab9.2 ⟨e,by simpa using he,by simp[hb]⟩
def jg(L:Array Bool)(k:Nat):Nat:=((List.range k).filter λj=>!L.getD j false).length
theorem jh{L:Array Bool}{i k:Nat}(hi:i<k)(hL:i<L.size)(h:L.getD i true=false):jg (L.setIfInBounds i true) k<jg L k:=by
 unfold jg
 have hf:L.getD i false=false:=by
  simp only[Array.getD,hL,dif_pos]at h⊢
  exact h
 have key : ∀ (l : List Nat), i ∈ l -> ((l.filter λj => !(L.setIfInBounds i true).getD j false).length < (l.filter λj => !L.getD j false).length) \/ ¬ l.Nodup := by
  intro l
  induction l with
  |nil=>intro h;cases h
  | cons x l ih =>
   intro hm
   by_cases hx:x=i
   ·subst hx
    by_cases pY:x∈l
    ·right;simp[pY]
    ·left
     have h1:(L.setIfInBounds x true).getD x false=true:=by simp[Array.getD,hL]
     have h2:∀j∈l,(!(L.setIfInBounds x true).getD j false)=!L.getD j false:=by
      intro j hj
      have:x≠j:=λe=>pY (e▸hj)
      rw[getD_set_ne false this]
     rw[ac5,ac5]
     simp only[h1,hf,abw,abT,abR,ade,abP]
     rw[List.filter_congr h2]
     simp
   ·have pY:i∈l:=by
     rcases aaI.1 hm with h|h
     ·exact absurd h.symm hx
     ·exact h
    rcases ih pY with h|h
    ·left
     have h1:(L.setIfInBounds i true).getD x false=L.getD x false:=getD_set_ne false (λe=>hx e.symm)
     rw[ac5,ac5,h1]
     cases hc:(!L.getD x false)
     ·simpa only[ade,abP]using h
     ·simp only[abR,aaP];omega
    ·right;intro hn;exact h (List.nodup_cons.1 hn).2
 rcases key (List.range k) (by simpa using hi)with h|h
 ·exact h
 ·exact absurd List.nodup_range h
theorem pd{L:Array Bool}{i:Nat}(h:L.getD i true=false):¬done L i/\i<L.size:=by
 unfold done
 by_cases hh:i<L.size
 ·refine⟨?_,hh⟩
  simp only[Array.getD,hh,dif_pos]at h⊢
  rw[h];simp
 ·simp[Array.getD,hh]at h
theorem lD{L:Array Bool}{i:Nat}(h:¬done L i)(hi:i<L.size):L.getD i true=false:=by
 unfold done at h
 simp only[Array.getD,hi,dif_pos]at h⊢
 simpa using h
theorem bT{L:Array Bool}{i j:Nat}(hi:i<L.size):done (L.setIfInBounds i true) j↔done L j\/j=i:=by
 unfold done
 by_cases h:i=j
 ·subst h
  simp[Array.getD,hi]
 ·rw[getD_set_ne false h]
  constructor
  ·exact .inl
  ·rintro(h2|h2)
   ·exact h2
   ·exact absurd h2.symm h
theorem H6{ops:Array Oper}{al:List aS}{m i:Nat}{L:Array Bool}(hd:DOK ops.toList al m)(jt:∀i,done L i->∀j,v7 ops.toList i j=true->done L j)(hi:i<ops.size)(hm:m<=i)(hr:∀j,v7 ops.toList i j=true->done L j):
  ∀j,j<i->done L j:=by
 have key:∀(k j:Nat),i-j<=k->j<i->done L j:=by
  intro k
  induction k with
  |zero=>intro j h1 h2;omega
  |succ k ih=>
   intro j h1 h2
   rcases hd.tail i (by simpa using hi) hm j h2 with h|⟨q,hq1,Vo,hq3⟩
   ·exact hr j h
   ·exact jt q (ih q (by omega) hq1) j hq3
 exact λj hj=>key i j (by omega) hj
structure KG (C:aU) (n:Nat) (al:List aS) (m:Nat) (env:Env) (Dd:Nat->D) (R:Nat->Rows) (n9:Pl) (T0:Nat->Prop) (w0:World) (L:Array Bool) (ρ:Pl) (T:Nat->Prop) (a:Act) (w:World):Prop where
 size:a.tmps.size=n
 defers:a.defers=[]
 w8:∀b,T b->b<w.heap.size
 aZ:eS C w T
 w9:∀r,(R m).length<=r->ρ r=none
 rows:∀j,j<=m->lA (mu ρ (R j).length) (R j) w T
 hole:∀j,j<m->¬done L j->∀r,(R j).length<=r->r<(R (j+1)).length->ρ r=none
 base:∀t d,look env t=some d->(∀j,j<m->done L j->bC al j≠some t)->VR (mu ρ (R 0).length) w T d (a.tmps.getD t undef)
 out:∀j,j<m->done L j->∀t,bC al j=some t->VR (mu ρ (R (j+1)).length) w T (Dd j) (a.tmps.getD t undef)
 step:Step n9 T0 (R 0) w0 ρ T (R m) w
theorem FH{a:Act}{dst:Option Nat}{v:Value}{t:Nat}(h:dst≠some t):(a.put dst v).tmps.getD t undef=a.tmps.getD t undef:=by
 cases dst with
 |none=>rfl
 |some d=>
  have hne:d≠t:=λe=>h (by rw[e])
  simp only[Act.put,adZ]
  rw[Array.getElem?_setIfInBounds_ne hne]
theorem PD{a:Act}{v:Value}{t:Nat}(h:t<a.tmps.size):(a.put (some t) v).tmps.getD t undef=v:=by
 simp[Act.put,Array.getD,h]
theorem LH{R:Nat->Rows}{m:Nat}(hR:∀i,i<m->∃new,R (i+1)=R i++new):∀(k i:Nat),i+k<=m->∃new,R (i+k)=R i++new
 |0,i,_=>⟨[],by simp⟩
 |k+1,i,h=>by
  obtain⟨new,h1⟩:=LH hR k i (by omega)
  obtain⟨new2,h2⟩:=hR (i+k) (by omega)
  exact⟨new++new2,by rw[<-abO,h2,h1,aaB]⟩
theorem Xl{R:Nat->Rows}{m i j:Nat}(hR:∀i,i<m->∃new,R (i+1)=R i++new)(Z2:i<=j)(hj:j<=m):∃new,R j=R i++new:=by
 obtain⟨new,h⟩:=LH hR (j-i) i (by omega)
 exact⟨new,by rwa [show i+(j-i)=j by omega]at h⟩
end Go.Am

import Derived.Test.YtgcejocgnfkciaaGreatDoorKi2
import Derived.MapKept
import Derived.LoopN
import Derived.Orders
set_option linter.unusedSimpArgs false
set_option linter.unusedVariables false
namespace Go.Am
variable {C:aX} {P:Program} {n:Nat} {ρ:Pl} {T:Nat->Prop} {env:Env} {rows:Rows} {a:Act} {w:World}
def fw:Pl:=λ_=>none
theorem pK{s:Sh}{d:D}(h:aL s d)(hp:s.pure=true):∀x∈d.flat,∃v,x= .raw v:=by
 induction h with
 |leaf k v hv=>intro x hx;simp[D.flat]at hx;exact⟨v,hx⟩
 |ref d hd=>simp[Sh.pure]at hp
 | agg s l ha hl fG ih =>
  intro x hx
  simp only[D.flat]at hx
  have key:∀(s:Sh) (l:List D),s.isAgg=true->s.pure=true->l.length=s.count->(∀i e d,s.sub i=some e->l[i]?=some d->e.pure=true->∀x∈d.flat,∃v,x= .raw v)->∀x∈au l,∃v,x= .raw v:=by
   intro s
   induction s with
   |leaf _=>intro l h;simp[Sh.isAgg]at h
   |ref=>intro l h;simp[Sh.isAgg]at h
   |nil=>intro l _ _ hl _ x hx;simp[Sh.count]at hl;subst hl;simp[au]at hx
   | cons a b _ ihb =>
    intro l ha hp hl h x hx
    cases l with
    |nil=>simp[au]at hx
    |cons d l=>
     simp only[Sh.pure,aav]at hp
     simp only[au,aaU]at hx
     rcases hx with hx|hx
     ·exact h 0 a d rfl rfl hp.1 x hx
     ·exact ihb l (by simpa[Sh.isAgg]using ha) hp.2 (by simpa[Sh.count]using hl) (λi e d' h1 h2=>h (i+1) e d' (by simpa[Sh.sub]using h1) (by simpa using h2)) x hx
   | ar m e _ =>
    intro l _ hp hl h x hx
    simp[Sh.count]at hl
    clear ih
    have:∀(l:List D) (k:Nat),(∀(i:Nat) (d:D),l[i]?=some d->∀x∈d.flat,∃v,x=D.raw v)->∀x∈au l,∃v,x=D.raw v:=by
     intro l
     induction l with
     |nil=>intro _ _ x hx;simp[au]at hx
     |cons d l ih=>
      intro k h x hx
      simp only[au,aaU]at hx
      rcases hx with hx|hx
      ·exact h 0 d rfl x hx
      ·exact ih k (λi d' jP=>h (i+1) d' (by simpa using jP)) x hx
    exact this l 0 (λi d hd=>h i e d (by simp[Sh.sub];have:=cU hd;omega) hd (by simpa[Sh.pure]using hp)) x hx
  exact key s l ha hp hl (λi e d h1 h2 h3=>ih i e d h1 h2 h3) x hx
theorem jR{s:Sh}{l:List D}(h:∀d∈l,aL s d)(hp:s.pure=true):∀x∈au l,∃v,x= .raw v:=by
 induction l with
 |nil=>intro x hx;simp[au]at hx
 |cons d l ih=>
  intro x hx
  simp only[au,aaU]at hx
  rcases hx with hx|hx
  ·exact pK (h d (by simp)) hp x hx
  ·exact ih (λe he=>h e (by simp[he])) x hx
theorem LR.ofRaw{ρ':Pl}{w':World}{T':Nat->Prop}{d:D}{v:Value}(h:LR ρ w T d v)(hr:∃x,d= .raw x):LR ρ' w' T' d v:=by
 obtain⟨x,rfl⟩:=hr
 cases h
 rename_i h
 exact .raw _ h
theorem aW.ofRaw{ρ':Pl}{w':World}{T':Nat->Prop}{l:List D}{cs:List Value}(h:aW (LR ρ w T) l cs)(hr:∀x∈l,∃v,x= .raw v):aW (LR ρ' w' T') l cs:=
 ⟨h.len,λi x y hx hy=>(h.at_ i x y hx hy).ofRaw (hr x (bH hx))⟩
theorem fc:∀{l:List D},aV l=false->∀d∈l,aT d=false
 |[],_,d,hd=>by simp at hd
 |x::l,h,d,hd=>by
  simp[aV]at h
  rcases aaW.1 hd with rfl|hd
  ·exact h.1
  ·exact fc h.2 d hd
theorem ox{s:Sh}{d:D}(h:aL s d)(hr:aT d=false):∀x∈d.flat,aT x=false:=by
 induction h with
 |leaf k v hv=>intro x hx;simp[D.flat]at hx;subst hx;rfl
 |ref d hd=>rw[b9 hd];intro x hx;simp at hx;subst hx;exact hr
 | agg s l ha hl fG ih =>
  simp only[aT]at hr
  cases hp:s.pure with
  |true=>
   intro x hx
   obtain⟨v,rfl⟩:=pK (aL.agg s l ha hl fG) hp x hx
   rfl
  | false =>
   simp[hp]at hr
   intro x hx
   simp only[D.flat]at hx
   have hm:=fc hr
   have:∀(l:List D),(∀d∈l,∀x∈d.flat,aT x=false)->∀x∈au l,aT x=false:=by
    intro l
    induction l with
    |nil=>intro _ x hx;simp[au]at hx
    |cons d l ih=>
     intro h x hx
     simp only[au,aaU]at hx
     rcases hx with hx|hx
     ·exact h d (by simp) x hx
     ·exact ih (λe he=>h e (by simp[he])) x hx
   refine this l (λd hd=>?_) x hx
   obtain⟨i,hi,rfl⟩:=aa8.1 hd
   obtain⟨e,he⟩:=lY (s:=s) (i:=i) (by omega)
   exact ih i e _ he (aaw hi) (hm _ hd)
theorem K7{s:Sh}{l:List D}(h:∀d∈l,aL s d)(hr:aV l=false):∀x∈au l,aT x=false:=by
 induction l with
 |nil=>intro x hx;simp[au]at hx
 |cons d l ih=>
  simp[aV]at hr
  intro x hx
  simp only[au,aaU]at hx
  rcases hx with hx|hx
  ·exact ox (h d (by simp)) hr.1 x hx
  ·exact ih (λe he=>h e (by simp[he])) hr.2 x hx
theorem LR.closed{d:D}{v:Value}(h:LR ρ w T d v)(hr:aT d=false):LR fw w T d v:=by
 induction h with
 |raw v hv=>exact .raw v hv
 |ptr=>simp[aT]at hr
 |sl=>simp[aT]at hr
 |AE=>simp[aT]at hr
 |nk=>simp[aT]at hr
 |mp=>simp[aT]at hr
 |Ed=>simp[aT]at hr
 |om s l b es clock h1 h2 h3 h4=>exact .om s l b es clock h1 h2 h3 h4
 |pq s ex a cap h1 h2=>exact .pq s ex a cap h1 h2
 | cD s l ex b o cap f h1 hb h2 h3 h4 h5 ih =>
  refine .cD s l ex b o cap f h1 hb h2 (λi d hd=>?_) h4 h5
  simp only[aT]at hr
  cases hp:s.pure with
  |true=>exact(h3 i d hd).ofRaw (jR h1 hp d (bH hd))
  |false=>
   simp[hp]at hr
   exact ih i d hd (K7 h1 hr d (bH hd))
 |b5 s d b o f h1 hb h2 h3 ih=>
  simp only[aT]at hr
  exact .b5 s d b o f h1 hb h2 (λi x hx=>ih i x hx (ox h1 hr x (bH hx)))
theorem qU.closed{d:D}{v:Value}(h:qU ρ w T d v)(hr:aT d=false):qU fw w T d v:=by
 cases d with
 |agg s l=>
  obtain⟨cs,rfl,h1,h2⟩:=h
  have:=ox h1 hr
  simp only[D.flat]at this
  exact⟨cs,rfl,h1,h2.len,λi x y hx hy=>(h2.at_ i x y hx hy).closed (this x (bH hx))⟩
 | _=>exact LR.closed h hr
theorem VR.closed{d:D}{v:Value}(h:VR ρ w T d v)(hr:aT d=false):VR fw w T d v:=by
 cases d with
 |cB l=>
  obtain⟨vs,rfl,h1⟩:=h
  simp only[aT]at hr
  exact⟨vs,rfl,h1.len,λi x y hx hy=>(h1.at_ i x y hx hy).closed (fc hr x (bH hx))⟩
 |agg s l=>exact qU.closed (d:= .agg s l) h hr
 | _=>exact LR.closed h hr
theorem zP:∀{l:List D},je l=true->∀d∈l,b8 d=true
 |[],_,d,hd=>by simp at hd
 |x::l,h,d,hd=>by
  simp[je]at h
  rcases aaW.1 hd with rfl|hd
  ·exact h.1
  ·exact zP h.2 d hd
theorem LR.b8{T':Nat->Prop}{w':World}{d:D}{v:Value}(h:LR ρ w T d v)(hr:b8 d=true):LR ρ w' T' d v:=by
 cases h with
 |raw v hv=>exact .raw v hv
 |ptr s r p L h1 h2=>exact .ptr s r p L h1 h2
 |sl s r p off len ex L cap h1 h2 h3 h4=>exact .sl s r p off len ex L cap h1 h2 h3 h4
 |AE s r p off ex a=>exact .AE s r p off ex a
 |nk n s r p off L h1 h2=>exact .nk n s r p off L h1 h2
 |mp r L h1 h2=>exact .mp r L h1 h2
 |Ed f s r p L h1 h2=>exact .Ed f s r p L h1 h2
 |om=>simp[Am.b8]at hr
 |pq=>simp[Am.b8]at hr
 |cD=>simp[Am.b8]at hr
 |b5=>simp[Am.b8]at hr
theorem Qg{s:Sh}{d:D}(h:aL s d)(hr:b8 d=true):∀x∈d.flat,b8 x=true:=by
 induction h with
 |leaf k v hv=>intro x hx;simp[D.flat]at hx;subst hx;rfl
 |ref d hd=>rw[b9 hd];intro x hx;simp at hx;subst hx;exact hr
 | agg s l ha hl fG ih =>
  simp only[b8]at hr
  cases hp:s.pure with
  |true=>
   intro x hx
   obtain⟨v,rfl⟩:=pK (aL.agg s l ha hl fG) hp x hx
   rfl
  | false =>
   simp[hp]at hr
   intro x hx
   simp only[D.flat]at hx
   have hm:=zP hr
   have:∀(l:List D),(∀d∈l,∀x∈d.flat,b8 x=true)->∀x∈au l,b8 x=true:=by
    intro l
    induction l with
    |nil=>intro _ x hx;simp[au]at hx
    |cons d l ih=>
     intro h x hx
     simp only[au,aaU]at hx
     rcases hx with hx|hx
     ·exact h d (by simp) x hx
     ·exact ih (λe he=>h e (by simp[he])) x hx
   refine this l (λd hd=>?_) x hx
   obtain⟨i,hi,rfl⟩:=aa8.1 hd
   obtain⟨e,he⟩:=lY (s:=s) (i:=i) (by omega)
   exact ih i e _ he (aaw hi) (hm _ hd)
theorem qU.b8{T':Nat->Prop}{w':World}{d:D}{v:Value}(h:qU ρ w T d v)(hr:b8 d=true):qU ρ w' T' d v:=by
 cases d with
 |agg s l=>
  obtain⟨cs,rfl,h1,h2⟩:=h
  have:=Qg h1 hr
  simp only[D.flat]at this
  exact⟨cs,rfl,h1,h2.len,λi x y hx hy=>(h2.at_ i x y hx hy).b8 (this x (bH hx))⟩
 | _=>exact LR.b8 h hr
theorem VR.b8{T':Nat->Prop}{w':World}{d:D}{v:Value}(h:VR ρ w T d v)(hr:b8 d=true):VR ρ w' T' d v:=by
 cases d with
 |cB l=>
  obtain⟨vs,rfl,h1⟩:=h
  simp only[Am.b8]at hr
  exact⟨vs,rfl,h1.len,λi x y hx hy=>(h1.at_ i x y hx hy).b8 (zP hr x (bH hx))⟩
 |agg s l=>exact qU.b8 (d:= .agg s l) h hr
 | _=>exact LR.b8 h hr
theorem Gy{k:Nat}{d:D}(h:d.eN=true):(shift k d).eN=true:=by
 cases d with
 |cD s l e=>simp only[shift];cases s.pure<;>rfl
 |raw v=>exact h
 |agg=>simp[D.eN]at h
 |cB=>simp[D.eN]at h
 | _=>rfl
theorem um(k:Nat):∀(l:List D),(bu k l).length=l.length
 |[]=>rfl
 |d::l=>by simp[bu,um k l]
theorem zQ(k:Nat):∀(l:List D) (i:Nat),(bu k l)[i]?=(l[i]?).map (shift k)
 |[],i=>by simp[bu]
 |d::l,0=>by simp[bu]
 |d::l,i+1=>by simp[bu,zQ k l i]
theorem Qh{k:Nat}{l:List D}(h:∀x∈l,∃v,x= .raw v):l.map (shift k)=l:=by
 have:l.map (shift k)=l.map id:=by
  apply acX
  intro x hx
  obtain⟨v,rfl⟩:=h x hx
  simp[shift]
 rw[this,List.map_id]
theorem Gz{k:Nat}{s:Sh}{d:D}(h:aL s d):aL s (shift k d)/\(shift k d).flat=d.flat.map (shift k):=by
 induction h with
 |leaf j v hv=>exact⟨by simp only[shift];exact .leaf j v hv,by simp[shift,D.flat]⟩
 |ref d hd=>exact⟨.ref _ (Gy hd),by rw[b9 hd,b9 (Gy hd)];rfl⟩
 | agg s l ha hl fG ih =>
  simp only[shift]
  cases hp:s.pure with
  |true=>
   have hr:=pK (aL.agg s l ha hl fG) hp
   simp only[aaY]
   exact⟨.agg s l ha hl fG,(Qh hr).symm⟩
  | false =>
   simp only[aaR]
   refine⟨.agg s _ ha (by rw[um];exact hl) (λi e d hi hd=>?_),?_⟩
   ·rw[zQ]at hd
    cases hx:l[i]? with
    |none=>simp[hx]at hd
    |some x=>
     simp[hx]at hd
     subst hd
     exact(ih i e x hi hx).1
   ·simp only[D.flat]
    have:∀(l:List D),(∀d∈l,(shift k d).flat=d.flat.map (shift k))->au (bu k l)=(au l).map (shift k):=by
     intro l
     induction l with
     |nil=>intro _;simp[bu,au]
     |cons d l ih=>
      intro h
      simp only[bu,au,acg]
      rw[h d (by simp),ih (λe he=>h e (by simp[he]))]
    refine this l (λd hd=>?_)
    obtain⟨i,hi,rfl⟩:=aa8.1 hd
    obtain⟨e,he⟩:=lY (s:=s) (i:=i) (by omega)
    exact(ih i e _ he (aaw hi)).2
theorem Db{k:Nat}{s:Sh}:∀{l:List D},(∀d∈l,aL s d)->(∀d∈bu k l,aL s d)/\au (bu k l)=(au l).map (shift k)
 |[],_=>⟨by simp[bu],by simp[bu,au]⟩
 |d::l,h=>by
  obtain⟨h1,h2⟩:=Db (k:=k) (l:=l) (λe he=>h e (by simp[he]))
  obtain⟨h3,h4⟩:=Gz (k:=k) (h d (by simp))
  refine⟨λx hx=>?_,by simp[bu,au,h2,h4]⟩
  simp only[bu,aaW]at hx
  rcases hx with rfl|hx
  ·exact h3
  ·exact h1 x hx
def gU(k:Nat)(ρ ρ':Pl):Pl:=λr=>if r<k then ρ r else ρ' (r-k)
theorem LR.shift{ρ':Pl}{d:D}{v:Value}(k:Nat)(jS:Pl)(h:LR ρ' w T d v):LR (gU k jS ρ') w T (Am.shift k d) v:=by
 induction h with
 |raw v hv=>exact .raw v hv
 |ptr s r p L h1 h2=>exact .ptr s (r+k) p L (by simp[gU,show¬(r+k<k) by omega,h1]) h2
 |sl s r p off len ex L cap h1 h2 h3 h4=>exact .sl s (r+k) p off len ex L cap (by simp[gU,show¬(r+k<k) by omega,h1]) h2 h3 h4
 |AE s r p off ex a=>exact .AE s (r+k) p off ex a
 |nk n s r p off L h1 h2=>exact .nk n s (r+k) p off L (by simp[gU,show¬(r+k<k) by omega,h1]) h2
 |mp r L h1 h2=>exact .mp (r+k) L (by simp[gU,show¬(r+k<k) by omega,h1]) h2
 |Ed f s r p L h1 h2=>exact .Ed f s (r+k) p L (by simp[gU,show¬(r+k<k) by omega,h1]) h2
 |om s l b es clock h1 h2 h3 h4=>exact .om s l b es clock h1 h2 h3 h4
 |pq s ex a cap h1 h2=>
  simp only[Am.shift,bu]
  cases s.pure<;>exact .pq s ex a cap h1 h2
 | cD s l ex b o cap f h1 hb h2 h3 h4 h5 ih =>
  simp only[Am.shift]
  cases hp:s.pure with
  |true=>exact .cD s l ex b o cap f h1 hb h2 (λi d hd=>(h3 i d hd).ofRaw (jR h1 hp d (bH hd))) h4 h5
  | false =>
   simp only[aaR]
   obtain⟨g1,g2⟩:=Db (k:=k) h1
   have hl:=um k l
   have:LR (gU k jS ρ') w T (.cD s (bu k l) ex) (.slice (some ⟨b,o,none⟩) (bu k l).length cap):=by
    refine .cD s _ ex b o cap f g1 hb (λi d hd=>?_) (λi d hd=>?_) (by omega) (by rw[hl];exact h5)
    ·rw[g2,abl]at hd
     cases hx:(au l)[i]? with
     |none=>simp[hx]at hd
     |some x=>exact h2 i x hx
    ·rw[g2,abl]at hd
     cases hx:(au l)[i]? with
     |none=>simp[hx]at hd
     |some x=>
      simp[hx]at hd
      subst hd
      exact ih i x hx
   rwa [hl]at this
 | b5 s d b o f h1 hb h2 h3 ih =>
  obtain⟨g1,g2⟩:=Gz (k:=k) h1
  simp only[Am.shift]
  refine .b5 s _ b o f g1 hb (λi x hx=>?_) (λi x hx=>?_)
  ·rw[g2,abl]at hx
   cases hy:d.flat[i]? with
   |none=>simp[hy]at hx
   |some y=>exact h2 i y hy
  ·rw[g2,abl]at hx
   cases hy:d.flat[i]? with
   |none=>simp[hy]at hx
   |some y=>
    simp[hy]at hx
    subst hx
    exact ih i y hy
theorem aW.shift{ρ':Pl}{l:List D}{cs:List Value}(k:Nat)(jS:Pl)(h:aW (LR ρ' w T) l cs):aW (LR (gU k jS ρ') w T) (l.map (Am.shift k)) cs:=by
 refine⟨by simp[h.len],λi x y hx hy=>?_⟩
 rw[abl]at hx
 cases hz:l[i]? with
 |none=>simp[hz]at hx
 |some z=>
  simp[hz]at hx
  subst hx
  exact(h.at_ i z y hz hy).shift k jS
theorem qU.shift{ρ':Pl}{d:D}{v:Value}(k:Nat)(jS:Pl)(h:qU ρ' w T d v):qU (gU k jS ρ') w T (Am.shift k d) v:=by
 cases d with
 |agg s l=>
  obtain⟨cs,rfl,h1,h2⟩:=h
  obtain⟨g1,g2⟩:=Gz (k:=k) h1
  have h3:aW (LR ρ' w T) (D.agg s l).flat cs.toList:=by simpa[D.flat]using h2
  have h4:=h3.shift k jS
  rw[<-g2]at h4
  have ha:=(oQ h1).2
  exact qU.Nk g1 ha h4
 |cB l=>cases h
 | _=>exact qU.bB (LR.shift k jS h)
theorem VR.shift{ρ':Pl}{d:D}{v:Value}(k:Nat)(jS:Pl)(h:VR ρ' w T d v):VR (gU k jS ρ') w T (Am.shift k d) v:=by
 cases d with
 | cB l =>
  obtain⟨vs,rfl,h1⟩:=h
  refine⟨vs,rfl,by rw[um];exact h1.len,λi x y hx hy=>?_⟩
  rw[zQ]at hx
  cases hz:l[i]? with
  |none=>simp[hz]at hx
  |some z=>
   simp[hz]at hx
   subst hx
   exact(h1.at_ i z y hz hy).shift k jS
 |agg s l=>exact VR.yZ (qU.shift (d:= .agg s l) k jS h)
 | _=>exact VR.bB (LR.shift k jS h)
theorem op_frzb(hs:eA n ρ T env rows a w)(hG:sN C ρ w T){o:Oper}{k:D->Rows->Prop}{t e:TypeId}{x:Operand}{x':X}{s:Sh}(ho:o.op= .convert t t x)(ht:P.underlying t=some (.slice e))(he8:P.underlying e=some (.int .u8))(h1:cX x=some x')
  (h:dA C env rows (.PZ s x') k):bI P n o ρ T env rows a w k:=by
 obtain⟨d,he,hk⟩:=ak h
 have hv:=bD h1 he hs hG
 split at hk
 ·rename_i t' r off len ex
  obtain⟨rfl,h0,hk⟩:=hk
  obtain⟨row,hl,hk⟩:=ak hk
  obtain⟨hle,hk⟩:=hk
  have lZ:LR ρ w T (.sl t' r [] off len ex) _:=hv
  generalize hx:a.eval x=v at lZ
  cases lZ with
  |AE=>omega
  | sl _ _ _ _ _ _ L cap hL g1 g2 g3 =>
   have hr:=hs.bw.row r row L hl hL
   obtain⟨cur,tt,⟨fr,c1,c0⟩,c2,c3,c4⟩:=hr.cells (LR.Gg g3)
   let w':World:=w.freeze ⟨L.b,cur.size,none⟩ 1
   have hw':∀b,b≠L.b->w'.heap[b]?=w.heap[b]?:=by
    intro b hb
    show(w.freeze ⟨L.b,cur.size,none⟩ 1).heap[b]?=_
    simp only[World.freeze,Nat.succ_ne_zero,ab1,adP]
    rw[aaE (λe=>hb e.symm)]
   have pI:sn w w' L.b:=by
    refine⟨cur,tt,fr,(if fr.1==fr.2 then(cur.size,cur.size+1)else(min fr.1 cur.size,max fr.2 (cur.size+1))),c1,?_,?_⟩
    ·show(w.freeze ⟨L.b,cur.size,none⟩ 1).heap[L.b]?=_
     simp only[World.freeze,Nat.succ_ne_zero,ab1,adP,c1]
     simp
    ·split
     ·exact .inr (aaL _)
     ·rename_i hne
      rcases c0 with c0|c0
      ·rw[c0]at hne;simp at hne
      ·exact .inr (by simp;omega)
   have hsz:w'.heap.size=w.heap.size:=by
    show(w.freeze ⟨L.b,cur.size,none⟩ 1).heap.size=_
    simp[World.freeze]
   obtain⟨g4,g5⟩:=hs.mark (w':=w') hl hL hsz hw' pI rfl rfl rfl
   refine py (v:= .slice (some ⟨L.b,L.off []+off*t'.size,none⟩) len cap) hk g4 g5 (VR.bB (.sl _ _ _ _ _ _ L cap hL g1 g2 g3)) (λ_=>⟨λb hb=>?_,λ_ h=> .inl h⟩) ?_
   ·by_cases e:b=L.b
    ·exact .inr ⟨e▸pI,r,row,L,hl,hL,e.symm⟩
    ·exact .inl (hw' b e)
   ·have hshape:w.shape? L.b=some (tt,cur.size):=by simp[World.shape?,c1]
    simp only[execOp,ho,hx,Sem.run_bind,convert,run_underlying ht,run_underlying he8,Result.andThen_ok,adh,markStringish]
    simp[shape,freeze,Sem.run,Sem.bind,hshape]
    rfl
 ·exact hk.elim
end Go.Am
namespace Go.Am
variable {C:aX} {P:Program} {n:Nat} {ρ:Pl} {T:Nat->Prop} {env:Env} {rows:Rows} {a:Act} {w:World}
def A3(s:Sh):Prop:=(∃c,s= .leaf c)\/(s.isAgg=true/\nB s=true)
theorem sQ{t:TypeId}{s:Sh}(h:sM P t s=true):A3 s:=by
 unfold sM at h
 split at h
 ·exact .inl ⟨.str,by simpa using h⟩
 ·simp only[aav]at h
  exact .inr ⟨h.1.1.1,h.1.1.2⟩
 ·cases h
theorem JM:∀{s:Sh} {i:Nat} {e:Sh},nB s=true->s.sub i=some e->∃k,e= .leaf k
 | .nil,i,e,_,h=>by simp[Sh.sub]at h
 | .cons (.leaf k) b,0,e,_,h=>by simp[Sh.sub]at h;exact⟨k,h.symm⟩
 | .cons (.leaf k) b,i+1,e,hl,h=>JM (s:=b) (by simpa[nB]using hl) (by simpa[Sh.sub]using h)
 | .cons .ref b,_,_,hl,_| .cons .nil b,_,_,hl,_| .cons (.cons _ _) b,_,_,hl,_| .cons (.ar _ _) b,_,_,hl,_=>by simp[nB]at hl
 | .leaf _,_,_,hl,_| .ref,_,_,hl,_| .ar _ _,_,_,hl,_=>by simp[nB]at hl
def Ny(l:List D):Prop:=∀x∈l,∃v k,x= .raw v/\nQ v k=true
theorem ru{s:Sh}{l:List D}(h:nB s=true)(ha:s.isAgg=true)(hs:aL s (.agg s l)):Ny l:=by
 obtain⟨l',e,hlen,fG⟩:=hs.jl ha
 cases e
 intro x hx
 obtain⟨i,hi,rfl⟩:=aa8.1 hx
 obtain⟨e,he⟩:=lY (s:=s) (i:=i) (by omega)
 obtain⟨k,rfl⟩:=JM h he
 obtain⟨v,hv,hk⟩:=mK (fG i _ _ he (aaw hi))
 exact⟨v,k,hv,hk⟩
theorem sU:∀{l:List D},Ny l->au l=l
 |[],_=>rfl
 |x::l,h=>by
  obtain⟨v,k,rfl,_⟩:=h x (by simp)
  simp[au,D.flat,sU (l:=l) λy hy=>h y (by simp[hy])]
theorem x9:∀{l:List D} {cs:List Value},Ny l->aW (LR ρ w T) l cs->cs=l.map AN
 |[],cs,_,h=>aaN (by simpa using h.len.symm)
 |x::l,[],_,h=>by simpa using h.len
 |x::l,c::cs,h,hc=>by
  obtain⟨v,k,rfl,_⟩:=h x (by simp)
  have h1:=VR.ofRaw (VR.bB hc.head)
  have h2:=x9 (l:=l) (λy hy=>h y (by simp[hy])) hc.tail
  simp[AN,h1,h2]
theorem Te:∀{l:List D},Ny l->aW (LR ρ w T) l (l.map AN)
 |[],_=> .nil
 |x::l,h=>by
  obtain⟨v,k,rfl,hk⟩:=h x (by simp)
  exact .cons (.raw v (Ge hk)) (Te (l:=l) λy hy=>h y (by simp[hy]))
theorem ww{s t:Sh}{l:List D}(h:Ny l):kv (.agg t l)= .agg (l.map AN).toArray:=by simp[kv,sU h]
theorem Yg{s:Sh}{d:D}{v:Value}(h:A3 s)(hd:aL s d)(hv:VR ρ w T d v):v=kv d:=by
 rcases h with⟨_,rfl⟩|⟨ha,hl⟩
 ·obtain⟨x,rfl,_⟩:=mK hd
  exact VR.ofRaw hv
 ·obtain⟨l,rfl,_,_⟩:=hd.jl ha
  obtain⟨cs,rfl,_,hc⟩:=hv
  have hr:=ru hl ha hd
  rw[sU hr]at hc
  rw[ww (s:=s) hr,<-x9 hr hc]
theorem Nz{s:Sh}{d:D}(h:A3 s)(hd:aL s d):VR ρ w T d (kv d):=by
 rcases h with⟨_,rfl⟩|⟨ha,hl⟩
 ·obtain⟨x,rfl,hk⟩:=mK hd
  exact VR.raw (Ge hk)
 ·obtain⟨l,rfl,_,_⟩:=hd.jl ha
  have hr:=ru hl ha hd
  rw[ww (s:=s) hr]
  exact⟨_,rfl,hd,by rw[sU hr];simpa using Te hr⟩
theorem GA{x y:Value}{b:Bool}(h:jA (.raw x) (.raw y)=some b):b=true↔x=y:=by
 cases x<;>cases y<;>simp only[jA]at h<;>try cases h
 ·simp
 ·split at h
  ·rename_i hk;cases h;simp[hk]
  ·cases h
 ·simp
  rename_i p q
  constructor
  ·intro h
   obtain⟨⟨p⟩⟩:=p
   obtain⟨⟨q⟩⟩:=q
   simp[ByteArray.toList_eq]at h
   simpa using h
  ·rintro rfl;rfl
theorem Tf:∀{l l':List D} {b:Bool},Ny l->Ny l'->CR l l'=some b->(b=true↔l.map AN=l'.map AN)
 |[],[],b,_,_,h=>by simp[CR]at h;simp[<-h]
 |[],_::_,b,_,_,h=>by simp[CR]at h
 | _::_,[],b,_,_,h=>by simp[CR]at h
 | x :: l, y :: l', b, h1, h2, h => by
  obtain⟨u,_,rfl,_⟩:=h1 x (by simp)
  obtain⟨v,_,rfl,_⟩:=h2 y (by simp)
  simp only[CR,zG]at h
  split at h
  ·rename_i t ht
   split at h
   ·rename_i q hq
    cases h
    have e1:=GA ht
    have e2:=Tf (l:=l) (l':=l') (λy hy=>h1 y (by simp[hy])) (λy hy=>h2 y (by simp[hy])) hq
    simp only[aav,abw,AN,abL,e1,e2]
   ·cases h
  ·cases h
theorem GB{x y:Value}{k:Sc}(hx:nQ x k=true)(hy:nQ y k=true):∃b,jA (.raw x) (.raw y)=some b:=by
 cases k<;>cases x<;>simp[nQ]at hx<;>cases y<;>simp[nQ]at hy
 ·subst hx;subst hy;exact⟨_,by simp only[jA,ab6];rfl⟩
 ·exact⟨_,rfl⟩
 ·exact⟨_,rfl⟩
theorem Tg:∀{s:Sh} {l l':List D},nB s=true->l.length=s.count->l'.length=s.count->(∀i e d,s.sub i=some e->l[i]?=some d->aL e d)->(∀i e d,s.sub i=some e->l'[i]?=some d->aL e d)->∃b,CR l l'=some b
 | .nil,l,l',_,h1,h2,_,_=>by
  have e1:l=[]:=aaN (by simpa[Sh.count]using h1)
  have e2:l'=[]:=aaN (by simpa[Sh.count]using h2)
  exact⟨true,by rw[e1,e2];rfl⟩
 | .cons (.leaf k) b, l, l', hl, h1, h2, h3, h4 => by
  cases l with
  |nil=>simp[Sh.count]at h1
  | cons x l =>
   cases l' with
   |nil=>simp[Sh.count]at h2
   | cons y l' =>
    obtain⟨u,rfl,hu⟩:=mK (h3 0 (.leaf k) x rfl rfl)
    obtain⟨v,rfl,hv⟩:=mK (h4 0 (.leaf k) y rfl rfl)
    obtain⟨t,ht⟩:=GB hu hv
    obtain⟨q,hq⟩:=Tg (s:=b) (l:=l) (l':=l') (by simpa[nB]using hl) (by simpa[Sh.count]using h1) (by simpa[Sh.count]using h2)
     (λi e d he hd=>h3 (i+1) e d (by simpa[Sh.sub]using he) (by simpa using hd)) (λi e d he hd=>h4 (i+1) e d (by simpa[Sh.sub]using he) (by simpa using hd))
    exact⟨t&&q,by simp[CR,zG,ht,hq]⟩
 | .cons .ref b,_,_,hl,_,_,_,_| .cons .nil b,_,_,hl,_,_,_,_| .cons (.cons _ _) b,_,_,hl,_,_,_,_| .cons (.ar _ _) b,_,_,hl,_,_,_,_=>by simp[nB]at hl
 | .leaf _,_,_,hl,_,_,_,_| .ref,_,_,hl,_,_,_,_| .ar _ _,_,_,hl,_,_,_,_=>by simp[nB]at hl
theorem Th{s:Sh}{x y:D}(h:A3 s)(hx:aL s x)(hy:aL s y):∃b,zG x y=some b/\(b=true↔kv x=kv y):=by
 rcases h with⟨_,rfl⟩|⟨ha,hl⟩
 ·obtain⟨u,rfl,hu⟩:=mK hx
  obtain⟨v,rfl,hv⟩:=mK hy
  obtain⟨b,hb⟩:=GB hu hv
  exact⟨b,by simpa[zG]using hb,by simpa[kv]using GA hb⟩
 ·obtain⟨l,rfl,h1,h2⟩:=hx.jl ha
  obtain⟨l',rfl,h3,h4⟩:=hy.jl ha
  obtain⟨b,hb⟩:=Tg hl h1 h3 h2 h4
  have r1:=ru hl ha hx
  have r2:=ru hl ha hy
  refine⟨b,by simpa[zG]using hb,?_⟩
  rw[Tf r1 r2 hb,ww (s:=s) r1,ww (s:=s) r2]
  simp
theorem GC{ks vs:Sh}{k:D}(h:A3 ks)(hk:aL ks k):∀{l:List D} {o:Option Value},(∀d∈l,aL (pV ks vs) d)->yV k l=some o->
  (∀v,firstM l (kv k) v↔o=some v)
 |[],o,_,hm=>by simp[yV]at hm;subst hm;simp[firstM]
 | d :: l, o, hl, hm => by
  obtain⟨l0,rfl,hlen,fG⟩:=(hl d (by simp)).jl rfl
  simp only[yV]at hm
  split at hm
  ·rename_i k' v' he
   have Ns:aL ks k':=by
    unfold Ee at he
    split at he
    ·rename_i heq;cases heq;cases he;exact fG 0 ks _ rfl rfl
    ·cases he
   obtain⟨b,hb,Yh⟩:=Th h hk Ns
   rw[hb]at hm
   intro v
   simp only[firstM,he]
   cases b with
   |true=>
    cases hm
    have e:kv k'=kv k:=(Yh.1 rfl).symm
    simp[e]
   |false=>
    have e:¬kv k'=kv k:=λq=>by have:=Yh.2 q.symm;cases this
    have ih:=GC h hk (l:=l) (o:=o) (λd hd=>hl d (by simp[hd])) hm v
    simp[e,ih]
  ·cases hm
theorem GD{ks:Sh}{k:D}(hs:ks= .leaf .str)(hk:aL ks k):MapKept.IsKey .string (kv k):=by
 subst hs
 obtain⟨v,rfl,hv⟩:=mK hk
 cases v<;>simp[nQ]at hv
 simp[kv,MapKept.IsKey]
def Keys(ks:Sh)(es:List MapEntry):Prop:=∀e∈es,∃kd,aL ks kd/\e.key=kv kd
theorem wx{t:TypeId}{ks:Sh}{k:D}(hok:CS P 40 t ks=true)(h:A3 ks)(hk:aL ks k)(w:World):∀(es:List MapEntry) (i:Nat),Keys ks es->
  ((Instr.findAsking t (kv k) es i).run P w= .ok none w/\∀e∈es,e.key≠kv k)\/∃j e,(Instr.findAsking t (kv k) es i).run P w= .ok (some (i+j,e.val)) w/\es[j]?=some e/\e.key=kv k
 |[],i,_=> .inl ⟨by simp[Instr.findAsking],by simp⟩
 | e :: es, i, hes => by
  obtain⟨kd,Fc,he⟩:=hes e (by simp)
  obtain⟨b,hb,Yh⟩:=Th h hk Fc
  have hq:=x8 (P:=P) (ρ:=fw) (w:=w) (T:=λ_=>True) 40 9960 hok hk Fc (Nz h hk) (Nz h Fc) hb
  have hq':(Op.equal t (kv k) e.key).run P w= .ok b w:=by rw[he];exact hq
  cases b with
  |true=>exact .inr ⟨0,e,by simp[Instr.findAsking,Sem.run_bind,hq',Result.andThen],rfl,by rw[he];exact(Yh.1 rfl).symm⟩
  | false =>
   have hne:e.key≠kv k:=λq=>by have:=Yh.2 (by rw[<-q,he]);cases this
   rcases wx hok h hk w es (i+1) (λx hx=>hes x (by simp[hx]))with⟨h1,h2⟩|⟨j,e',h1,h2,h3⟩
   ·refine .inl ⟨by simp[Instr.findAsking,Sem.run_bind,hq',Result.andThen,h1],λx hx=>?_⟩
    rcases aaW.1 hx with rfl|hx
    ·exact hne
    ·exact h2 x hx
   ·exact .inr ⟨j+1,e',by simp[Instr.findAsking,Sem.run_bind,hq',Result.andThen,h1];omega,by simpa using h2,h3⟩
theorem JN{t:TypeId}{ks:Sh}{k:D}(hok:sM P t ks=true)(hk:aL ks k)(w:World)(es:List MapEntry)(hes:Keys ks es):
  ((Instr.findKey t (kv k) es).run P w= .ok none w/\∀e∈es,e.key≠kv k)\/∃j e,(Instr.findKey t (kv k) es).run P w= .ok (some (j,e.val)) w/\es[j]?=some e/\e.key=kv k:=by
 have h:=sQ hok
 unfold sM at hok
 split at hok
 ·rename_i hu
  have hs:ks= .leaf .str:=by simpa using hok
  rcases MapKept.findNow_spec (GD hs hk) es 0 (λx hx=>by obtain⟨kd,h1,h2⟩:=hes x hx;rw[h2];exact GD hs h1)with⟨h1,h2⟩|⟨j,e,h1,h2,h3⟩
  ·exact .inl ⟨MapKept.run_findKey hu h1,h2⟩
  ·exact .inr ⟨j,e,by simpa using MapKept.run_findKey (w:=w) hu h1,h2,h3⟩
 ·rename_i fs hu
  simp only[aav]at hok
  cases es with
  |nil=>exact .inl ⟨by simp[Instr.findKey,run_underlying hu,Result.andThen,Instr.findNow],by simp⟩
  | cons e es =>
   have hn:Instr.findNow (.struct fs) (kv k) (e::es) 0=none:=by simp[Instr.findNow,Instr.sameNow]
   have:=wx hok.1.2 h hk w (e::es) 0 hes
   simp only[abO]at this
   have e1:(Instr.findKey t (kv k) (e::es)).run P w=(Instr.findAsking t (kv k) (e::es) 0).run P w:=by
    simp[Instr.findKey,run_underlying hu,Result.andThen,hn]
   rw[e1]
   exact this
 ·cases hok
theorem GG{t:TypeId}(h:CU P t=true)(em:Bool)(m:Nat)(v:Value)(w:World):(Instr.checkKey em (m+1) t v).run P w= .ok () w:=by
 unfold CU at h
 split at h
 all_goals first
  |(rename_i hu;unfold Instr.checkKey;simp only[Sem.run_bind,run_underlying hu,Result.andThen_ok];cases v<;>rfl)
  |cases h
theorem uo{t:TypeId}{ks:Sh}{k:D}(hok:sM P t ks=true)(hk:aL ks k)(em:Bool)(w:World):(Instr.checkKey em 10000 t (kv k)).run P w= .ok () w:=by
 unfold sM at hok
 split at hok
 ·rename_i hu
  exact MapKept.run_checkKey hu (GD (by simpa using hok) hk) em 9999
 ·rename_i fs hu
  simp only[aav]at hok
  obtain⟨⟨⟨ha,hl⟩,he⟩,hp⟩:=hok
  obtain⟨l,rfl,hlen,fG⟩:=hk.jl ha
  have hr:=ru hl ha hk
  have Xk:=Nz (ρ:=fw) (w:=w) (T:=λ_=>True) (.inr ⟨ha,hl⟩) hk
  rw[ww (s:=ks) hr]at Xk⊢
  obtain⟨cs,hcs,_,bN⟩:=Xk
  cases hcs
  have he':(!P.stoodInHeld t&&ks.isAgg&&fs.toList.length==ks.count&&P3 P (CS P 39) ks 0 fs.toList)=true:=by
   have:=he
   unfold CS at this
   rw[hu]at this
   exact this
  simp only[aav,acs]at he'
  obtain⟨⟨_,hc⟩,hf⟩:=he'
  rw[show(10000:Nat)=9999+1 from rfl,Instr.checkKey]
  simp only[Sem.run_bind,run_underlying hu,Result.andThen_ok]
  rw[<-Array.forIn_toList]
  have Yi:∀f∈fs.toList,∃v,f.name≠ "_" /\(part f.type (l.map AN).toArray f.offset).run P w= .ok v w/\CU P f.type=true:=by
   have key:∀(gs:List Field) (i:Nat),i+gs.length=ks.count->P3 P (CS P 39) ks i gs=true->(gs.all λf=>CU P f.type)=true->
     ∀f∈gs,∃v,f.name≠ "_" /\(part f.type (l.map AN).toArray f.offset).run P w= .ok v w/\CU P f.type=true:=by
    intro gs
    induction gs with
    |nil=>intro i _ _ _ f hf;simp at hf
    | cons f gs ih =>
     intro i hi hf hp
     simp only[P3,aav]at hf
     obtain⟨⟨⟨f1,f2⟩,f3⟩,f4⟩:=hf
     simp only[aa0]at hi
     simp only[List.all_cons,aav]at hp
     split at f3
     ·rename_i e hse
      simp only[aav,acs]at f3
      obtain⟨⟨f5,f6⟩,f7⟩:=f3
      obtain⟨va,r1,r2,r3⟩:=Gx (P:=P) hk bN hse (aaw (by omega)) f5 f6
      have f1':f.name≠ "_" :=by simpa using f1
      have f2':f.offset=ks.j8 i:=by simpa using f2
      intro g hg
      rcases aaW.1 hg with rfl|hg
      ·exact⟨va,f1',by rw[f2'];exact r1,hp.1⟩
      ·exact ih (i+1) (by omega) f4 hp.2 g hg
     ·cases f3
   exact key fs.toList 0 (by omega) hf hp
  generalize fs.toList=L at Yi
  induction L with
  |nil=>simp
  |cons f L ih=>
   obtain⟨v,h1,h2,h3⟩:=Yi f (by simp)
   have h4:=GG h3 em 9998 v w
   simp only[List.forIn_cons,Sem.run_bind,h1,ne_eq,aea,ab6,h2,Result.andThen_ok,h4,Sem.run_pure]
   exact ih (λg hg=>Yi g (by simp[hg]))
 ·cases hok
theorem A4{v:Value}{k:Sc}(h:nQ v k=true)(m:Nat):Instr.sameBits m v v=true:=by
 cases k<;>cases v<;>simp[nQ]at h<;>simp[Instr.sameBits,MapKept.bytes_beq]
theorem Qi{t:TypeId}{ks:Sh}{k:D}(hok:sM P t ks=true)(hk:aL ks k)(w:World):(Instr.keyThatStays (kv k) (kv k)).run P w= .ok (kv k) w:=by
 have hb : Instr.sameBits 10000 (kv k) (kv k) = true := by
  rcases sQ hok with⟨_,rfl⟩|⟨ha,hl⟩
  ·obtain⟨v,rfl,hv⟩:=mK hk
   exact A4 hv _
  ·obtain⟨l,rfl,hlen,fG⟩:=hk.jl ha
   have hr:=ru hl ha hk
   rw[ww (s:=ks) hr]
   show(_&&_)=true
   simp only[adh,acz,abc]
   intro p hp
   have:∀(l:List D),Ny l->∀p∈(l.map AN).zip (l.map AN),Instr.sameBits 9999 p.1 p.2=true:=by
    intro l
    induction l with
    |nil=>intro _ p hp;simp at hp
    | cons x l ih =>
     intro hr p hp
     simp only[abw,List.zip_cons_cons,aaW]at hp
     rcases hp with rfl|hp
     ·obtain⟨v,k,rfl,hk⟩:=hr x (by simp)
      exact A4 hk _
     ·exact ih (λy hy=>hr y (by simp[hy])) p hp
   exact this l hr p (by simpa using hp)
 simp[Instr.keyThatStays,hb]
theorem pX.push{s:Sh}{l:List D}{es:Array MapEntry}(h:pX s l es){ks:Sh}{kd d:D}{val:Value}{born:Nat}(hs:s.sub 0=some ks)(hk:aL ks kd)(hd:Ee d=some (kd,val))(hn:∀e∈es.toList,e.key≠kv kd):
  pX s (d::l) (es.push ⟨kv kd,val,born⟩):=by
 refine⟨h.pure,λe he=>?_,?_,λk v=>?_⟩
 ·simp only[aeb,aaU,abd]at he
  rcases he with he|rfl
  ·exact h.key e he
  ·exact⟨kd,ks,hs,hk,rfl⟩
 ·simp only[aeb]
  refine List.pairwise_append.2 ⟨h.jQ,by simp,λa ha b hb=>?_⟩
  simp only[abd]at hb
  subst hb
  exact hn a ha
 ·simp only[firstM,hd,aeb,aaU,abd]
  constructor
  ·rintro⟨e,he|rfl,h1,h2⟩
   ·exact .inr ⟨λq=>hn e he (by rw[h1,q]),(h.at_ k v).1 ⟨e,he,h1,h2⟩⟩
   ·exact .inl ⟨h1,h2⟩
  ·rintro(⟨h1,h2⟩|⟨h1,h2⟩)
   ·exact⟨_,.inr rfl,h1,h2⟩
   ·obtain⟨e,he,h3⟩:=(h.at_ k v).2 h2
    exact⟨e,.inl he,h3⟩
theorem pX.modify{s:Sh}{l:List D}{es:Array MapEntry}(h:pX s l es){kd d:D}{val:Value}{j:Nat}{e0:MapEntry}(hd:Ee d=some (kd,val))(hj:es[j]?=some e0)(h0:e0.key=kv kd):
  pX s (d::l) (es.modify j λe=>{e with key:=kv kd,val:=val}):=by
 have kg:∀i:Nat,(es.modify j λe=>{e with key:=kv kd,val:=val})[i]?=if j=i then some {e0 with key:=kv kd,val:=val}else es[i]?:=by
  intro i
  rw[adP]
  split
  ·rename_i e;subst e;simp[hj]
  ·rfl
 have U1:∀e:MapEntry,e∈(es.modify j λe=>{e with key:=kv kd,val:=val}).toList↔∃i:Nat,(es.modify j λe=>{e with key:=kv kd,val:=val})[i]?=some e:=by
  intro e
  rw[List.mem_iff_getElem?]
  simp only[adv]
 have Ti:∀e:MapEntry,e∈es.toList↔∃i:Nat,es[i]?=some e:=by
  intro e
  rw[List.mem_iff_getElem?]
  simp
 have hone:∀(i:Nat) (e:MapEntry),es[i]?=some e->e.key=kv kd->i=j:=by
  intro i e hi he
  have hp:=List.pairwise_iff_getElem.1 h.jQ
  obtain⟨l1,rfl⟩:=aaZ.1 hi
  obtain⟨l2,rfl⟩:=aaZ.1 hj
  rcases adL i j with h1|h1|h1
  ·exact absurd (show(es.toList[i]'(by simpa using l1)).key=(es.toList[j]'(by simpa using l2)).key from he.trans h0.symm) (hp i j (by simpa using l1) (by simpa using l2) h1)
  ·exact h1
  ·exact absurd (show(es.toList[j]'(by simpa using l2)).key=(es.toList[i]'(by simpa using l1)).key from h0.trans he.symm) (hp j i (by simpa using l2) (by simpa using l1) h1)
 refine⟨h.pure,λe he=>?_,?_,λk v=>?_⟩
 ·obtain⟨i,hi⟩:=(U1 e).1 he
  rw[kg]at hi
  split at hi
  ·cases hi
   obtain⟨kd',ks,g1,g2,g3⟩:=h.key e0 ((Ti _).2 ⟨j,hj⟩)
   exact⟨kd',ks,g1,g2,by rw[<-g3,h0]⟩
  ·exact h.key e ((Ti _).2 ⟨i,hi⟩)
 ·have hkeys:(es.modify j λe=>{e with key:=kv kd,val:=val}).toList.map (·.key)=es.toList.map (·.key):=by
   apply ack
   intro i
   simp only[abl,adv,kg]
   split
   ·rename_i e;subst e;simp[hj,h0]
   ·rfl
  have:=h.jQ
  rw[<-List.pairwise_map (f:=λe:MapEntry=>e.key) (R:=λa b=>a≠b)]at this⊢
  rw[hkeys]
  exact this
 ·simp only[firstM,hd]
  constructor
  ·rintro⟨e,he,h1,h2⟩
   obtain⟨i,hi⟩:=(U1 e).1 he
   rw[kg]at hi
   split at hi
   ·cases hi;exact .inl ⟨h1,h2⟩
   ·rename_i hne
    exact .inr ⟨λq=>hne (hone i e hi (by rw[h1,q])).symm,(h.at_ k v).1 ⟨e,(Ti _).2 ⟨i,hi⟩,h1,h2⟩⟩
  ·rintro(⟨h1,h2⟩|⟨h1,h2⟩)
   ·exact⟨_,(U1 _).2 ⟨j,by rw[kg,aaM rfl]⟩,h1,h2⟩
   ·obtain⟨e,he,h3,h4⟩:=(h.at_ k v).2 h2
    obtain⟨i,hi⟩:=(Ti e).1 he
    refine⟨e,(U1 _).2 ⟨i,?_⟩,h3,h4⟩
    rw[kg,aaE]
    ·exact hi
    ·intro q
     subst q
     rw[hj]at hi
     cases hi
     exact h1 (by rw[<-h3,h0])
theorem GH{s:Sh}(h:Ef s=true):A3 s:=by
 unfold Ef at h
 split at h
 ·exact .inl ⟨_,rfl⟩
 ·simp only[aav]at h
  exact .inr h
theorem dV_kv{s:Sh}{e:D}(h:A3 s)(he:aL s e):dV s (kv e)=e:=by
 rcases h with⟨_,rfl⟩|⟨ha,hl⟩
 ·obtain⟨u,rfl,_⟩:=mK he
  rfl
 ·obtain⟨l,rfl,_,_⟩:=he.jl ha
  have hr:=ru hl ha he
  have e1:(l.map AN).map D.raw=l:=by
   rw[aes]
   refine(acX λx hx=>?_).trans (List.map_id l)
   obtain⟨v,_,rfl,_⟩:=hr x hx
   rfl
  rw[ww (s:=s) hr]
  cases s<;>simp[Sh.isAgg,nB]at ha hl<;>simp[dV,Value.cells]<;>simpa using e1
theorem qU.ofVR{s:Sh}{d:D}{v:Value}(hd:aL s d)(h:VR ρ w T d v):qU ρ w T d v:=by
 cases d with
 |cB l=>cases hd<;>simp_all[D.eN]
 |agg=>exact h
 | _=>exact h
theorem zero_kv{t:TypeId}{vs:Sh}{z:D}(hk:A3 vs)(hs:sh P t=some vs)(hz:zero P t=some z):aL vs z/\∀w,(zeroValue t).run P w= .ok (kv z) w:=by
 obtain⟨h1,v0,h2,h3,h4⟩:=kf hs hz
 refine⟨h1,?_⟩
 have hv : v0 = kv z := by
  have hb : (match (generalizing := false) v0 with | .agg _ => z.isAgg | .tuple _ => false | _ => !z.isAgg) = true := by
   unfold zero at hz
   split at hz
   ·split at hz
    ·rename_i i hi
     split at hz
     ·rename_i v hv
      obtain⟨Gr,hdz⟩:=Gq hz
      have hb:=(acS.1 Gr).2
      rw[hdz]at hb
      have e0:v0=v:=by
       have:=h2 default
       simp[zeroValue,typeInfo,hi,hv]at this
       exact this.symm
      subst e0
      exact hb
     ·cases hz
    ·cases hz
   ·cases hz
  have h5:=h4 fw default (λ_=>True)
  rcases hk with⟨c,rfl⟩|⟨ha,hl⟩
  ·obtain⟨zx,rfl,hk⟩:=mK h1
   have h6:=x9 (l:=[D.raw zx]) (λx hx=>by simp at hx;exact⟨zx,c,hx,hk⟩) (by simpa[D.flat]using h5)
   cases v0<;>simp_all[D.isAgg,Value.cells,AN,kv]
  ·obtain⟨l,rfl,_,_⟩:=h1.jl ha
   have hr:=ru hl ha h1
   have h6:=x9 hr (by simpa[D.flat,sU hr]using h5)
   rw[ww (s:=vs) hr,<-h6]
   cases v0<;>first|(simp[Value.cells];done)|(simp[D.isAgg]at hb)
 rw[<-hv]
 exact h2
theorem GI{ks vs:Sh}:∀{l:List D} {k v:Value},(∀d∈l,aL (pV ks vs) d)->firstM l k v->∃e,aL vs e/\v=kv e
 |[],_,_,_,h=>h.elim
 | d :: l, k, v, hl, h => by
  obtain⟨l0,rfl,hlen,fG⟩:=(hl d (by simp)).jl rfl
  simp only[firstM]at h
  split at h
  ·rename_i k' v' he
   rcases h with⟨_,rfl⟩|⟨_,h⟩
   ·unfold Ee at he
    split at he
    ·rename_i heq
     cases heq
     cases he
     exact⟨_,fG 1 vs _ rfl rfl,rfl⟩
    ·cases he
   ·exact GI (λd hd=>hl d (by simp[hd])) h
  ·exact h.elim
theorem zS:∀{s:Sh},nB s=true->s.pure=true
 | .nil,_=>rfl
 | .cons (.leaf _) b,h=>by simp[Sh.pure,zS (s:=b) (by simpa[nB]using h)]
 | .cons .ref b,h| .cons .nil b,h| .cons (.cons _ _) b,h| .cons (.ar _ _) b,h=>by simp[nB]at h
 | .leaf _,h| .ref,h| .ar _ _,h=>by simp[nB]at h
theorem Yj{t:TypeId}{ks vs:Sh}(hok:sM P t ks=true)(hv:Ef vs=true):(pV ks vs).pure=true:=by
 have h1:ks.pure=true:=by
  rcases sQ hok with⟨_,rfl⟩|⟨_,h⟩
  ·rfl
  ·exact zS h
 have h2:vs.pure=true:=by
  rcases GH hv with⟨_,rfl⟩|⟨_,h⟩
  ·rfl
  ·exact zS h
 simp[Sh.pure,h1,h2]
theorem zU{t:TypeId}{ks vs:Sh}(h:Nd P t=some (ks,vs)):∃kt et,P.underlying t=some (.map kt et)/\sh P kt=some ks/\sh P et=some vs/\sM P kt ks=true/\Ef vs=true:=by
 unfold Nd mapT at h
 obtain⟨⟨kt,et⟩,h1,h⟩:=aD h
 split at h1
 ·rename_i hu
  cases h1
  obtain⟨ks',h2,h⟩:=aD h
  obtain⟨vs',h3,h⟩:=aD h
  obtain⟨h4,h⟩:=cx h
  cases h
  simp only[aav]at h4
  exact⟨_,_,hu,h2,h3,h4.1,h4.2⟩
 ·cases h1
section ops
variable (hs:eA n ρ T env rows a w) (hG:sN C ρ w T) {o:Oper} {k:D->Rows->Prop}
include hs hG
omit hG in
theorem op_mkm{t kt:TypeId}{ks vs:Sh}(ho:o.op= .makeMap t none)(hok:sM P kt ks=true)(hvs:Ef vs=true)(h:dA C env rows (.mkm ks vs) k):bI P n o ρ T env rows a w k:=by
 obtain⟨g1,g2⟩:=hs.pushMap (w':={w with heap:=w.heap.push (.map #[] 0)}) (pV ks vs) (Yj hok hvs) rfl rfl rfl rfl
 refine py (v:= .map (some w.heap.size)) h g1 g2 (VR.bB (.mp rows.length ⟨w.heap.size,pV ks vs,0,true⟩ (by simp[tX]) rfl)) (λ_=>⟨λb hb=> .inl (sO hb),λ_ h=> .inl h⟩) ?_
 simp only[execOp,ho]
 rfl
theorem op_mset{t kt et:TypeId}{ks vs:Sh}{m x v:Operand}{m' x' v':X}(ho:o.op= .mapUpdate t m x v)(hu:P.underlying t=some (.map kt et))(hok:sM P kt ks=true)(hvs:Ef vs=true)
  (h1:cX m=some m')(h2:cX x=some x')(h3:cX v=some v')(h:dA C env rows (.pU ks vs m' x' v') k):bI P n o ρ T env rows a w k:=by
 obtain⟨dm,he1,hk⟩:=ak h
 have hvm:=bD h1 he1 hs hG
 split at hk
 ·rename_i r
  obtain⟨kd,uW,hk⟩:=ak hk
  obtain⟨dv,he3,hk⟩:=ak hk
  have hvk:=bD h2 uW hs hG
  have hvv:=bD h3 he3 hs hG
  obtain⟨hf,hfv,hk⟩:=hk
  obtain⟨row,hl,hk⟩:=ak hk
  obtain⟨hsh,hk⟩:=hk
  have IY:=(hvk.cells hf).1
  have hVs:=(hvv.cells hfv).1
  have ek:=Yg (sQ hok) IY hvk
  have ev':=Yg (GH hvs) hVs hvv
  have U2:LR ρ w T (.mp r) _:=hvm
  generalize hm:a.eval m=vm at U2
  cases U2 with
  | mp _ L hL hmp =>
   have hrow:=hs.bw.row r row L hl hL
   obtain⟨es,clock,hb,hR⟩:=hrow.pY hmp
   have Yk:Keys ks es.toList:=λe he=>by
    obtain⟨kd',ks',g1,g2,g3⟩:=hR.key e he
    rw[hsh]at g1
    cases g1
    exact⟨kd',g2,g3⟩
   have gJ:∀d∈D.agg (pV ks vs) [kd,dv]::row.els,aL row.sh d:=by
    intro d hd
    rcases aaW.1 hd with rfl|hd
    ·rw[hsh]
     refine .agg _ _ rfl rfl λi e d hi hd=>?_
     match i,hi,hd with
     |0,hi,hd=>simp[Sh.sub]at hi hd;subst hi;subst hd;exact IY
     |1,hi,hd=>simp[Sh.sub]at hi hd;subst hi;subst hd;exact hVs
     |i+2,hi,hd=>simp[Sh.sub]at hi
    ·exact hrow.els d hd
   have hlt:L.b<w.heap.size:=hrow.lt
   have fin:∀es' clock',pX row.sh (D.agg (pV ks vs) [kd,dv]::row.els) es'->(Instr.mapUpdate t (.map (some L.b)) (kv kd) (kv dv)).run P w= .ok () {w with heap:=w.heap.setIfInBounds L.b (.map es' clock')}->bI P n o ρ T env rows a w k:=by
    intro es' clock' SZ hrun
    obtain⟨u1,u2⟩:=hs.XR (w':={w with heap:=w.heap.setIfInBounds L.b (.map es' clock')}) hl hL _ es' clock' hmp gJ SZ (by simp[hlt]) (λb hb=>by simp[abZ hb]) (by simp) rfl rfl rfl
    refine⟨_,_,ρ,T,undef,_,hk,u1,u2,?_,.inr ⟨?_,rfl⟩,λhq=>by rw[ho]at hq;cases hq⟩
    ·exact⟨#[],rfl,.nil⟩
    ·simp[execOp,ho,hm,ek,ev',hrun]
   rcases JN hok IY w es.toList Yk with⟨q1,q2⟩|⟨j,e,q1,q2,q3⟩
   ·refine fin _ (clock+1) (hR.push (born:=clock) (by rw[hsh];rfl) IY rfl q2) ?_
    simp[Instr.mapUpdate,run_underlying hu,MapKept.run_getObj_map hb,uo hok IY,q1,MapKept.run_setObj_map _ hb,Result.andThen]
   ·have q2':es[j]?=some e:=by simpa using q2
    refine fin _ clock (hR.modify (d:= .agg (pV ks vs) [kd,dv]) rfl q2' q3) ?_
    simp[Instr.mapUpdate,run_underlying hu,MapKept.run_getObj_map hb,uo hok IY,q1,q2',q3,Qi hok IY,MapKept.run_setObj_map _ hb,Result.andThen]
 ·exact hk.elim
theorem op_mget{t kt et:TypeId}{ks vs:Sh}{ok:Bool}{z:D}{m x:Operand}{m' x':X}(ho:o.op= .lookup t m x ok)(hu:P.underlying t=some (.map kt et))(hok:sM P kt ks=true)(hse:sh P et=some vs)(hz:zero P et=some z)(hzf:z.fits vs=true)(hvs:Ef vs=true)
  (h1:cX m=some m')(h2:cX x=some x')(h:dA C env rows (.M9 ks vs ok z m' x') k):bI P n o ρ T env rows a w k:=by
 obtain⟨dm,he1,hk⟩:=ak h
 obtain⟨kd,uW,hk⟩:=ak hk
 obtain⟨hf,hk⟩:=hk
 obtain⟨els,gJ,hk⟩:=ak hk
 obtain⟨r,hr,hk⟩:=ak hk
 have hvm:=bD h1 he1 hs hG
 have hvk:=bD h2 uW hs hG
 have IY:=(hvk.cells hf).1
 have ek:=Yg (sQ hok) IY hvk
 have bN : ∃ b es clock, a.eval m = .map (some b) /\ w.heap[b]? = some (.map es clock) /\ pX (pV ks vs) els es /\ ∀ d ∈ els, aL (pV ks vs) d := by
  unfold Ga at gJ
  split at gJ
  ·rename_i r' PL
   split at gJ
   ·rename_i row hl
    have U2:LR ρ w T (.mp r') _:=hvm
    generalize hm:a.eval m=vm at U2
    cases U2 with
    | mp _ L hL hmp =>
     have hrow:=hs.bw.row r' row L hl hL
     obtain⟨es,clock,hb,hR⟩:=hrow.pY hmp
     cases hq:(row.sh==pV ks vs)with
     |false=>simp[hq]at gJ
     |true=>
      have hsh:row.sh=pV ks vs:=by simpa using hq
      simp[hq]at gJ
      subst gJ
      exact⟨L.b,es,clock,rfl,hb,by rw[<-hsh];exact hR,λd hd=>by rw[<-hsh];exact hrow.els d hd⟩
   ·cases gJ
  ·rename_i s' l' PL
   have U2:LR ρ w T (.om s' l') _:=hvm
   generalize hm:a.eval m=vm at U2
   cases U2 with
   | om _ _ b es clock g1 g2 g3 g4 =>
    cases hq:(s'==pV ks vs)with
    |false=>simp[hq]at gJ
    |true=>
     have hsh:s'=pV ks vs:=by simpa using hq
     simp[hq]at gJ
     subst gJ
     exact⟨b,es,clock,rfl,g3,by rw[<-hsh];exact g4,λd hd=>by rw[<-hsh];exact g1 d hd⟩
  ·cases gJ
 obtain⟨b,es,clock,hm,hb,hR,hE⟩:=bN
 have hspec:=GC (sQ hok) IY hE hr
 have Yk:Keys ks es.toList:=λe he=>by
  obtain⟨kd',ks',g1,g2,g3⟩:=hR.key e he
  cases g1
  exact⟨kd',g2,g3⟩
 have hKv:=GH hvs
 obtain⟨Tj,z2⟩:=zero_kv hKv hse hz
 rcases JN hok IY w es.toList Yk with⟨q1,q2⟩|⟨j,e,q1,q2,q3⟩
 ·have hnone:r=none:=by
   cases r with
   |none=>rfl
   |some v=>
    obtain⟨e,he,h3,_⟩:=(hR.at_ _ _).2 ((hspec v).2 rfl)
    exact absurd h3 (q2 e he)
  subst hnone
  have hrun:(Instr.lookup t (.map (some b)) (kv kd) ok).run P w= .ok (if ok then .tuple #[kv z,.bool false]else kv z) w:=by
   simp[Instr.lookup,run_underlying hu,MapKept.run_getObj_map hb,uo hok IY,q1,z2,Result.andThen]
  have hvz:VR ρ w T z (kv z):=Nz hKv Tj
  cases ok with
  |false=>
   refine .here hs hk (v:=kv z) hvz ?_
   simp[execOp,ho,hm,ek,hrun]
  |true=>
   refine .here hs hk (v:= .tuple #[kv z,.bool false]) ⟨_,rfl,.cons (qU.ofVR Tj hvz) (.cons (qU.bB (.raw _ rfl)) .nil)⟩ ?_
   simp[execOp,ho,hm,ek,hrun]
 ·have hsome:r=some e.val:=(hspec e.val).1 ((hR.at_ _ _).1 ⟨e,bH q2,q3,rfl⟩)
  subst hsome
  obtain⟨d,hd1,AF⟩:=GI hE ((hR.at_ _ _).1 ⟨e,bH q2,q3,rfl⟩)
  have hvd:VR ρ w T (dV vs e.val) e.val:=by rw[AF,dV_kv hKv hd1];exact Nz hKv hd1
  have K1:aL vs (dV vs e.val):=by rw[AF,dV_kv hKv hd1];exact hd1
  have hrun:(Instr.lookup t (.map (some b)) (kv kd) ok).run P w= .ok (if ok then .tuple #[e.val,.bool true]else e.val) w:=by
   simp[Instr.lookup,run_underlying hu,MapKept.run_getObj_map hb,uo hok IY,q1,Result.andThen]
  cases ok with
  |false=>
   refine .here hs hk (v:=e.val) hvd ?_
   simp[execOp,ho,hm,ek,hrun]
  |true=>
   refine .here hs hk (v:= .tuple #[e.val,.bool true]) ⟨_,rfl,.cons (qU.ofVR K1 hvd) (.cons (qU.bB (.raw _ rfl)) .nil)⟩ ?_
   simp[execOp,ho,hm,ek,hrun]
end ops
end Go.Am
namespace Go.Am
variable {C:aX} {P:Program} {n:Nat} {ρ:Pl} {T:Nat->Prop} {env:Env} {rows:Rows} {a:Act} {w:World}
theorem jT{α β:Type}{f:α->Option β}:∀{l:List α} {l':List β},dC f l=some l'->l'.length=l.length/\∀(i:Nat) (x:α) (y:β),l[i]?=some x->l'[i]?=some y->f x=some y
 |[],l',h=>by simp[dC]at h;subst h;simp
 | x :: l, l', h => by
  simp only[dC]at h
  split at h
  ·rename_i y hy
   split at h
   ·rename_i ys hys
    cases h
    obtain⟨h1,h2⟩:=jT hys
    refine⟨by simp[h1],λi a b ha hb=>?_⟩
    cases i with
    |zero=>simp at ha hb;subst ha;subst hb;exact hy
    |succ i=>exact h2 i a b (by simpa using ha) (by simpa using hb)
   ·cases h
  ·cases h
theorem ur{f:D->Option D}{R:D->Value->Prop}:∀{l l':List D} {cs:List Value},dC f l=some l'->aW (LR ρ w T) (au l) cs->
  (∀d∈l,∃s,aL s d)->(∀d∈l,∀d' s cs,f d=some d'->aL s d->aW (LR ρ w T) d.flat cs->aL s d'/\aW R d'.flat cs)->aW R (au l') cs
 |[],l',cs,h,hc,_,_=>by
  simp[dC]at h;subst h
  have:cs=[]:=aaN (by simpa[au]using hc.len.symm)
  subst this
  exact .nil
 | x :: l, l', cs, h, hc, hs, hf => by
  simp only[dC]at h
  split at h
  ·rename_i y hy
   split at h
   ·rename_i ys hys
    cases h
    simp only[au]at hc⊢
    obtain⟨s,hsx⟩:=hs x (by simp)
    have h1:=hc.take x.flat.length
    have h2:=hc.drop x.flat.length
    rw[aa3]at h1
    rw[abi]at h2
    obtain⟨g1,g2⟩:=hf x (by simp) y s _ hy hsx h1
    have g3:=ur hys h2 (λd hd=>hs d (by simp[hd])) (λd hd=>hf d (by simp[hd]))
    have:=g2.append g3
    rwa [abq]at this
   ·cases h
  ·cases h
theorem jB.Yl(h:jB ρ rows w T){s:Sh}{r:Nat}{p:List Nat}{v:Value}{row:Row}{d:D}(hv:LR ρ w T (.ptr s r p) v)(hl:live rows r=some row)(hg:cF row.els p=some d):
  ∃b o cs,v= .pointer (some ⟨b,o,none⟩)/\aL s d/\aW (LR ρ w T) d.flat cs/\At w b o cs/\P9 ρ T rows b:=by
 cases hv with
 |ptr _ _ _ L hL hp=>
  obtain⟨b,o,cs,h1,h2,h3,h4⟩:=h.KY (.ptr s r p L hL hp) hl hg
  cases h1
  exact⟨L.b,L.off p,cs,rfl,h2,h3,h4,.inr ⟨r,row,L,hl,hL,rfl⟩⟩
theorem zV (hr : jB ρ rows w T) : ∀ (k : Nat) (d d' : D) (s : Sh) (cs : List Value), view rows k d = some d' -> aL s d -> aW (LR ρ w T) d.flat cs ->
  aL s d'/\aW (LR fw w (P9 ρ T rows)) d'.flat cs
 |0,d,d',s,cs,h,_,_=>by simp[view]at h
 | k + 1, d, d', s, cs, h, hsh, hc => by
  have ih:=λd d' s cs=>zV hr k d d' s cs
  cases d with
  |raw v=>
   simp[view]at h
   subst h
   exact⟨hsh,hc.ofRaw (by simp[D.flat])⟩
  |nk=>simp[view]at h
  |Ed=>simp[view]at h
  | ptr t r p =>
   have uY:(D.ptr t r p).eN=true:=rfl
   rw[b9 uY]at hc
   have wy:=hc.len
   match cs,wy with
   | [v], _ =>
    have hv:=hc.head
    have A5:s= .ref:=by
     cases hsh with
     |ref=>rfl
    subst A5
    simp only[view]at h
    split at h
    ·rename_i row hl
     split at h
     ·rename_i d0 hg
      obtain⟨b,o',cs',hx,m1,m2,m3⟩:=hr.Yl hv hl hg
      cases hp:t.pure with
      |true=>
       simp[hp]at h
       subst h
       refine⟨.ref _ rfl,?_⟩
       rw[b9 rfl,hx]
       exact aW.single (LR.zJ m1 m3.2 (m2.ofRaw (pK m1 hp)) m3.1)
      | false =>
       simp only[hp,aaR]at h
       split at h
       ·rename_i d1 hd1
        cases h
        obtain⟨q1,q2⟩:=ih d0 d1 t cs' hd1 m1 m2
        refine⟨.ref _ rfl,?_⟩
        rw[b9 rfl,hx]
        exact aW.single (LR.zJ q1 m3.2 q2 m3.1)
       ·cases h
     ·cases h
    ·cases h
  | b5 d0 =>
   have uY:(D.b5 d0).eN=true:=rfl
   rw[b9 uY]at hc
   have wy:=hc.len
   match cs,wy with
   | [v], _ =>
    have hv:=hc.head
    simp only[view]at h
    cases hh:aT d0 with
    |true=>simp[hh]at h
    |false=>
     simp[hh]at h
     subst h
     refine⟨hsh,?_⟩
     rw[b9 uY]
     exact aW.single ((hv.closed hh).mono (λ_ _ e=>e) (λ_ _=>rfl) (λ_ hb=> .inl hb))
  |cB=>simp[view]at h
  | mp r =>
   have uY:(D.mp r).eN=true:=rfl
   rw[b9 uY]at hc
   have wy:=hc.len
   match cs,wy with
   | [v], _ =>
    have hv:=hc.head
    have A5:s= .ref:=by
     cases hsh with
     |ref=>rfl
    subst A5
    simp only[view]at h
    split at h
    ·rename_i row hl
     cases h
     refine⟨.ref _ rfl,?_⟩
     rw[b9 rfl]
     cases hv with
     |mp _ L hL hm=>
      have hrow:=hr.row r row L hl hL
      obtain⟨es,clock,h1,h2⟩:=hrow.pY hm
      exact aW.single (.om _ _ _ es clock hrow.els (.inr ⟨r,row,L,hl,hL,rfl⟩) h1 h2)
    ·cases h
  | om t l =>
   have uY:(D.om t l).eN=true:=rfl
   rw[b9 uY]at hc
   have wy:=hc.len
   match cs,wy with
   | [v], _ =>
    have hv:=hc.head
    have A5:s= .ref:=by
     cases hsh with
     |ref=>rfl
    subst A5
    simp only[view]at h
    cases h
    refine⟨.ref _ rfl,?_⟩
    rw[b9 rfl]
    cases hv with
    |om _ _ b es clock h1 hb h2 h3=>exact aW.single (.om _ _ _ es clock h1 (.inl hb) h2 h3)
  | agg t l =>
   obtain⟨rfl,ha⟩:=oQ hsh
   simp only[view]at h
   cases hp:s.pure with
   |true=>
    simp[hp]at h
    subst h
    exact⟨hsh,hc.ofRaw (pK hsh hp)⟩
   | false =>
    simp only[hp,aaR]at h
    split at h
    ·rename_i l' mC
     cases h
     obtain⟨l2,e2,hlen,fG⟩:=hsh.jl ha
     cases e2
     obtain⟨g1,g2⟩:=jT mC
     have hex:∀d∈l,∃e,aL e d:=by
      intro d hd
      obtain⟨i,hi,rfl⟩:=aa8.1 hd
      obtain⟨e,he⟩:=lY (s:=s) (i:=i) (by omega)
      exact⟨e,fG i e _ he (aaw hi)⟩
     simp only[D.flat]at hc
     have Xl:=ur (R:=LR fw w (P9 ρ T rows)) mC hc hex (λd _ d' s cs h1 h2 h3=>ih d d' s cs h1 h2 h3)
     refine⟨.agg s l' ha (by omega) (λi e d' hi jP=>?_),by simpa[D.flat]using Xl⟩
     have En:i<l.length:=by have:=cU jP;omega
     have hd:=aaw En
     have hv:=g2 i _ d' hd jP
     have sJ:=fG i e _ hi hd
     obtain⟨q1,q2,q3⟩:=hsh.part ha hi
     --its own cells
     have Ym:∃c,aW (LR ρ w T) (l[i]).flat c:=by
      rw[fT hd]at hc
      have:=(hc.drop (au (l.take i)).length).take (l[i]).flat.length
      rw[abi,aa3]at this
      exact⟨_,this⟩
     obtain⟨c,FN⟩:=Ym
     exact(ih _ _ e c hv sJ FN).1
    ·cases h
  | cD t l ex =>
   have uY:(D.cD t l ex).eN=true:=rfl
   rw[b9 uY]at hc
   have wy:=hc.len
   match cs,wy with
   | [v], _ =>
    have hv:=hc.head
    have A5:s= .ref:=by
     cases hsh with
     |ref=>rfl
    subst A5
    have key:∀l',(∀d∈l',aL t d)->l'.length=l.length->(∀c,aW (LR ρ w T) (au l) c->aW (LR fw w (P9 ρ T rows)) (au l') c)->d'= .cD t l' ex->aL .ref d'/\aW (LR fw w (P9 ρ T rows)) d'.flat [v]:=by
     intro l' h1 h2 h3 h4
     subst h4
     refine⟨.ref _ rfl,?_⟩
     rw[b9 rfl]
     refine aW.single ?_
     cases hv with
     |pq _ _ ad cap c1 c2=>
      have:l'=[]:=aaN (by simpa using h2)
      subst this
      exact .pq _ _ _ _ c1 c2
     |cD _ _ _ b o' cap f c1 hb c2 c3 c4 c5=>
      obtain⟨q1,q2⟩:=AU (d:=default) c2 c3
      rw[<-h2]
      exact LR.Nl h1 (.inl hb) (h3 _ q1) q2 (by omega) (by rw[h2];exact c5)
    have gJ:∀d∈l,aL t d:=by
     cases hv with
     |pq=>simp
     |cD _ _ _ _ _ _ _ c1=>exact c1
    simp only[view]at h
    cases hp:t.pure with
    |true=>
     simp[hp]at h
     exact key l gJ rfl (λc hc=>hc.ofRaw (jR gJ hp)) h.symm
    | false =>
     simp only[hp,aaR]at h
     split at h
     ·rename_i l' mC
      cases h
      obtain⟨g1,g2⟩:=jT mC
      refine key l' (λd' jP=>?_) g1 (λc hc=>ur (R:=LR fw w (P9 ρ T rows)) mC hc (λd hd=>⟨t,gJ d hd⟩) (λd _ d' s cs h1 h2 h3=>ih d d' s cs h1 h2 h3)) rfl
      obtain⟨i,hi,rfl⟩:=aa8.1 jP
      have En:i<l.length:=by omega
      have hd:=aaw En
      have hv2:=g2 i _ _ hd (aaw hi)
      have Ym:∃c,aW (LR ρ w T) (l[i]).flat c:=by
       cases hv with
       |pq=>simp at En
       |cD _ _ _ b o' cap f c1 hb c2 c3 c4 c5=>
        obtain⟨q1,q2⟩:=AU (d:=default) c2 c3
        rw[fT hd]at q1
        have:=(q1.drop (au (l.take i)).length).take (l[i]).flat.length
        rw[abi,aa3]at this
        exact⟨_,this⟩
      obtain⟨c,FN⟩:=Ym
      exact(ih _ _ t c hv2 (gJ _ (abQ En)) FN).1
     ·cases h
  | sl t r p off len ex =>
   have uY:(D.sl t r p off len ex).eN=true:=rfl
   rw[b9 uY]at hc
   have wy:=hc.len
   match cs,wy with
   | [v], _ =>
    have hv:=hc.head
    have A5:s= .ref:=by
     cases hsh with
     |ref=>rfl
    subst A5
    simp only[view]at h
    split at h
    ·rename_i l hl
     cases Gp:(l.length==len)with
     |false=>rw[Gp]at h;simp at h
     | true =>
      rw[Gp]at h
      simp only[abn,aaR]at h
      have hlen:l.length=len:=by simpa using Gp
      obtain⟨ad,cap,c,hH⟩:=hr.holds (s:=t) hv hl rfl hlen (by simp[fh])
      have hexc:ex=true->cap=len:=by
       intro hx
       have lZ:=hv
       rw[hH.hv]at lZ
       cases lZ with
       |sl _ _ _ _ _ _ _ _ _ _ c2 _=>exact c2 hx
       |AE=>rfl
      have key:∀l',(∀d∈l',aL t d)->l'.length=l.length->aW (LR fw w (P9 ρ T rows)) (au l') c->d'= .cD t l' ex->aL .ref d'/\aW (LR fw w (P9 ρ T rows)) d'.flat [v]:=by
       intro l' h1 h2 h3 h4
       subst h4
       refine⟨.ref _ rfl,?_⟩
       rw[b9 rfl,hH.hv]
       refine aW.single ?_
       by_cases hz:len=0
       ·have:l'=[]:=aaN (by omega)
        subst this
        rw[hz]
        exact .pq _ _ _ _ (λhx=>by rw[hexc hx,hz]) hH.nil
       ·obtain⟨b,o',Xh,hB⟩:=hH.adr hz
        have IX:At w b o' c:=by
         intro j x hx
         obtain⟨b2,o2',e1,e2⟩:=hH.at_ j x hx
         rw[Xh]at e1
         cases e1
         exact e2
        rw[Xh]
        have e:len=l'.length:=by omega
        have hcap:=hH.hcap
        rw[e]
        exact LR.Nl h1 hB h3 IX (by omega) (λhx=>by rw[hexc hx,e])
      cases hp:t.pure with
      |true=>
       simp[hp]at h
       exact key l hH.els rfl (hH.hcs.ofRaw (jR hH.els hp)) h.symm
      | false =>
       simp only[hp,aaR]at h
       split at h
       ·rename_i l' mC
        cases h
        obtain⟨g1,g2⟩:=jT mC
        refine key l' (λd' jP=>?_) g1 (ur (R:=LR fw w (P9 ρ T rows)) mC hH.hcs (λd hd=>⟨t,hH.els d hd⟩) (λd _ d' s cs h1 h2 h3=>ih d d' s cs h1 h2 h3)) rfl
        obtain⟨i,hi,rfl⟩:=aa8.1 jP
        have En:i<l.length:=by omega
        have hd:=aaw En
        have hv2:=g2 i _ _ hd (aaw hi)
        have Ym:∃c,aW (LR ρ w T) (l[i]).flat c:=by
         have q1:=hH.hcs
         rw[fT hd]at q1
         have:=(q1.drop (au (l.take i)).length).take (l[i]).flat.length
         rw[abi,aa3]at this
         exact⟨_,this⟩
        obtain⟨cc,FN⟩:=Ym
        exact(ih _ _ t cc hv2 (hH.els _ (abQ En)) FN).1
       ·cases h
    ·cases h
theorem K8(hr:jB ρ rows w T){k:Nat}{d d':D}{v:Value}(h:view rows k d=some d')(hv:VR ρ w T d v):VR fw w (P9 ρ T rows) d' v:=by
 cases d with
 |agg s l=>
  obtain⟨cs,rfl,h1,h2⟩:=hv
  obtain⟨g1,g2⟩:=zV hr k _ d' s cs.toList h h1 (by simpa[D.flat]using h2)
  exact VR.yZ (qU.Nk g1 (oQ h1).2 g2)
 |cB l=>cases k<;>simp[view]at h
 | _=>
  have hl:=LR.leaf hv
  obtain⟨g1,g2⟩:=zV hr k _ d' .ref [v] h (.ref _ hl) (by rw[b9 hl];exact aW.single hv)
  have mC:=g1.pW rfl
  rw[b9 mC]at g2
  exact VR.bB g2.head
structure Dc (K:D->Rows->Prop) (ρ:Pl) (T:Nat->Prop) (rows:Rows) (w:World) (e:Ending) (w':World):Prop where
 ex:∃v d aa ρ' T',e= .returned v/\K d aa/\jB ρ' aa w' T'/\(∀r,aa.length<=r->ρ' r=none)/\(∀b,T' b->b<w'.heap.size)/\Step ρ T rows w ρ' T' aa w'/\VR ρ' w' T' d v
def aP(G:Nat->Option D)(P:Program)(f:FuncId)(A:j9):Prop:=
 ∀ds rows K,A ds rows K->∀(ρ:Pl) (w:World) (T:Nat->Prop) (args:Array Value),jB ρ rows w T->(∀r,rows.length<=r->ρ r=none)->(∀b,T b->b<w.heap.size)->
  aW (VR ρ w T) ds args.toList->(∀g d,G g=some d->LR fw w T (.b5 d) (.pointer (some ⟨g,0,none⟩)))->Calls P f args w (Dc K ρ T rows w)
def Fn.run(F:Fn):j9:=λds rows K=>bf (F ds rows) λr=>K r.1 r.2
structure BackQ (K:D->Rows->Prop) (ρ:Pl) (T:Nat->Prop) (rows:Rows) (w:World) (e:Ending) (w':World):Prop where
 ex:∃v d aa ρ' T',e= .returned v/\K d aa/\jB ρ' aa w' T'/\(∀r,aa.length<=r->ρ' r=none)/\(∀b,T' b->b<w'.heap.size)/\Step ρ T rows w ρ' T' aa w'/\VR ρ' w' T' d v/\QH ρ rows w w'/\∀b,T' b->T b\/w.heap.size<=b
def K9(G:Nat->Option D)(P:Program)(f:FuncId)(A:j9):Prop:=
 ∀ds rows K,A ds rows K->∀(ρ:Pl) (w:World) (T:Nat->Prop) (args:Array Value),jB ρ rows w T->(∀r,rows.length<=r->ρ r=none)->(∀b,T b->b<w.heap.size)->
  aW (VR ρ w T) ds args.toList->(∀g d,G g=some d->LR fw w T (.b5 d) (.pointer (some ⟨g,0,none⟩)))->Calls P f args w (BackQ K ρ T rows w)
def aJ(C:aX)(P:Program):Prop:=(∀f F,C.fn f=some F->aP C.aY P f (Fn.run F))/\(∀f A,C.dO f=some A->aP C.aY P f A)/\(∀f q,C.P1 f=some q->K9 C.aY P f (Na q))
theorem aJ.quiet{C:aX}{P:Program}(h:aJ C P):aJ C.quiet P:=⟨h.1,(λf A hA=>by cases hA),h.2.2⟩
end Go.Am
namespace Go.Am
variable {C:aX} {P:Program} {n:Nat} {ρ:Pl} {T:Nat->Prop} {env:Env} {rows:Rows} {a:Act} {w:World}
theorem sq(k:Nat):∀(l:Rows),(ab k l).length=l.length
 |[]=>rfl
 |some ⟨s,els⟩::l=>by simp[ab,sq k l]
 |none::l=>by simp[ab,sq k l]
theorem zW(k:Nat):∀(l:Rows) (r:Nat) (row:Row),live (ab k l) r=some row->∃row',live l r=some row'/\row=⟨row'.sh,bif row'.sh.pure then row'.els else bu k row'.els⟩
 |[],r,row,h=>by simp[ab,live]at h
 |some ⟨s,els⟩::l,0,row,h=>by
  simp[ab,live]at h
  exact⟨⟨s,els⟩,by simp[live],h.symm⟩
 |some ⟨s,els⟩::l,r+1,row,h=>by
  have:=zW k l r row (by simpa[ab,live]using h)
  simpa[live]using this
 |none::l,0,row,h=>by simp[ab,live]at h
 |none::l,r+1,row,h=>by
  have:=zW k l r row (by simpa[ab,live]using h)
  simpa[live]using this
theorem JP(hs:eA n ρ T env rows a w){ρ':Pl}{T0 T' Xg:Nat->Prop}{aa:Rows}{w':World}(hst:Step fw T0 [] w ρ' T' aa w')(lS:∀r,aa.length<=r->ρ' r=none)
  (hdist:∀r r' row row' L L',live aa r=some row->live aa r'=some row'->ρ' r=some L->ρ' r'=some L'->r≠r'->L.b≠L'.b)
  (t1:∀b,T b->Xg b)(t2:∀b,Xg b->T b\/w.heap.size<=b)(t3:∀b,Xg b->b<w'.heap.size)
  (iE:∀r row L,live aa r=some row->ρ' r=some L->mF (gU rows.length ρ ρ') ⟨row.sh,bif row.sh.pure then row.els else bu rows.length row.els⟩ L w' Xg):
  eA n (gU rows.length ρ ρ') Xg env (rows++ab rows.length aa) a w'/\Step ρ T rows w (gU rows.length ρ ρ') Xg (rows++ab rows.length aa) w':=by
 have hkeep:∀b,b<w.heap.size->w'.heap[b]?=w.heap[b]?:=λb hb=>hst.keep b hb (by intro r row L hl;simp[live]at hl)
 have hTw:∀b,T b->w'.heap[b]?=w.heap[b]?:=λb hb=>hkeep b (hs.vL b hb)
 have pJ:∀r L,ρ r=some L->gU rows.length ρ ρ' r=some L:=by
  intro r L hL
  have:r<rows.length:=by
   rcases aa1 r rows.length with h|h
   ·exact h
   ·rw[hs.vM r h]at hL;cases hL
  simp[gU,this,hL]
 have hnb:∀r row L,live aa r=some row->ρ' r=some L->w.heap.size<=L.b:=by
  intro r row L h1 h2
  rcases hst.fresh r row L h1 h2 with⟨r0,pZ,L0,h3,_⟩|h3
  ·simp[live]at h3
  ·exact h3
 have zI:∀r row L,live (rows++ab rows.length aa) r=some row->gU rows.length ρ ρ' r=some L->
   (r<rows.length/\live rows r=some row/\ρ r=some L)\/(rows.length<=r/\∃row',live aa (r-rows.length)=some row'/\ρ' (r-rows.length)=some L/\row=⟨row'.sh,bif row'.sh.pure then row'.els else bu rows.length row'.els⟩):=by
  intro r row L h1 h2
  by_cases hr:r<rows.length
  ·left
   refine⟨hr,?_,by simpa[gU,hr]using h2⟩
   unfold live at h1⊢
   rwa [aaQ hr]at h1
  ·right
   have h1':live (ab rows.length aa) (r-rows.length)=some row:=by
    unfold live at h1⊢
    rwa [aaT (by omega)]at h1
   obtain⟨row',h3,h4⟩:=zW _ _ _ _ h1'
   exact⟨by omega,row',h3,by simpa[gU,hr]using h2,h4⟩
 refine⟨⟨⟨?_,?_⟩,hs.env.mono pJ hTw t1,hs.size,t3,?_,hs.defers⟩,⟨pJ,t1,λb hb=>(t2 b hb).imp_right .inl,hst.size,λb hb _=>hkeep b hb,?_,hst.os,hst.tape,hst.output,by simp,λr hr=>by simp[gU,hr]⟩⟩
 ·intro r row L h1 h2
  rcases zI r row L h1 h2 with⟨h3,h4,h5⟩|⟨h3,row',h4,h5,rfl⟩
  ·have hr:=hs.bw.row r row L h4 h5
   refine hr.mono pJ hTw t1 (hkeep _ hr.lt) (λh=>?_)
   rcases t2 _ h with h|h
   ·exact hr.nu h
   ·have:=hr.lt;omega
  ·exact iE _ row' L h4 h5
 ·intro r r' row row' L L' h1 h2 h3 h4 hne
  rcases zI r row L h1 h3 with⟨g1,g2,g3⟩|⟨g1,q1,g2,g3,_⟩
  ·rcases zI r' row' L' h2 h4 with⟨k1,k2,k3⟩|⟨k1,q2,k2,k3,_⟩
   ·exact hs.bw.jQ r r' row row' L L' g2 k2 g3 k3 hne
   ·have:=(hs.bw.row r row L g2 g3).lt
    have:=hnb _ _ _ k2 k3
    omega
  ·rcases zI r' row' L' h2 h4 with⟨k1,k2,k3⟩|⟨k1,q2,k2,k3,_⟩
   ·have:=(hs.bw.row r' row' L' k2 k3).lt
    have:=hnb _ _ _ g2 g3
    omega
   ·exact hdist _ _ q1 q2 L L' g2 k2 g3 k3 (by omega)
 ·intro r hr
  rw[aax,sq]at hr
  simp only[gU,show¬r<rows.length by omega,ab1]
  exact lS _ (by omega)
 ·intro r row L h1 h2
  rcases zI r row L h1 h2 with⟨h3,h4,h5⟩|⟨h3,row',h4,h5,rfl⟩
  ·exact .inl ⟨r,row,L,h4,h5,rfl⟩
  ·exact .inr (hnb _ _ _ h4 h5)
theorem p8:∀{l:Rows} {r:Nat} {row:Row},a8 l=true->live l r=some row->row.sh.pure=true
 |[],r,row,_,h=>by simp[live]at h
 |some ⟨s,els⟩::l,0,row,hn,h=>by
  simp[live]at h
  subst h
  simp[a8]at hn
  exact hn.1
 |some ⟨s,els⟩::l,r+1,row,hn,h=>by
  simp[a8]at hn
  exact p8 (r:=r) hn.2 (by simpa[live]using h)
 |none::l,0,row,hn,h=>by simp[live]at h
 |none::l,r+1,row,hn,h=>p8 (l:=l) (r:=r) (by simpa[a8]using hn) (by simpa[live]using h)
def Yn(C:aX)(n:Nat)(ρ:Pl)(T:Nat->Prop)(env:Env)(rows:Rows)(a:Act)(w:World)(o:Oper)(k:D->Rows->Prop)(next:Act->World->Prop):Prop:=
 ∀d aa ρ' T' v w',k d aa->eA n ρ' T' env aa a w'->Step ρ T rows w ρ' T' aa w'->VR ρ' w' T' d v->((∀f,C.dO f=none)->gz o.op=true->QH ρ rows w w'/\∀b,T' b->T b\/w.heap.size<=b)->next (a.put o.dst v) w'
theorem bI.wp{o:Oper}{k:D->Rows->Prop}{next:Act->World->Prop}{Q:Exit->Act->World->Prop}(h:bI P n o ρ T env rows a w k)(hc:Yn C n ρ T env rows a w o k next):o.wp P a w next Q:=by
 obtain⟨d,aa,ρ',T',v,w',h1,h2,h3,h4,h5,h6⟩:=h
 unfold Oper.wp
 rcases h5 with h5|⟨h5,rfl⟩
 ·rw[h5];exact hc d aa ρ' T' v w' h1 h2 h3 h4 (λ_=>h6)
 ·rw[h5];exact hc d aa ρ' T' undef w' h1 h2 h3 h4 (λ_=>h6)
theorem U5(hr:jB ρ rows w T){k:Nat}:∀{ds ds':List D} {vs:List Value},dC (view rows k) ds=some ds'->aW (VR ρ w T) ds vs->aW (VR fw w (P9 ρ T rows)) ds' vs:=by
 intro ds ds' vs h hv
 obtain⟨g1,g2⟩:=jT h
 refine⟨by rw[g1,hv.len],λi x y hx hy=>?_⟩
 have hi:i<ds.length:=by have:=cU hx;omega
 have hd:=aaw hi
 exact K8 hr (g2 i _ x hd hx) (hv.at_ i _ y hd hy)
theorem GJ(hs:eA n ρ T env rows a w)(NA:∀g d,C.aY g=some d->LR fw w T (.b5 d) (.pointer (some ⟨g,0,none⟩)))(hC:aJ C P){o:Oper}{k:D->Rows->Prop}{next:Act->World->Prop}{Q:Exit->Act->World->Prop}
  {f:FuncId}{ds:List D}{vs:Array Value}(hvl:aW (VR ρ w T) ds vs.toList)(hrun:(execOp a.eval o).run P w= .ok (.enter f vs) w)(k2:AO C rows f ds k)(hk:Yn C n ρ T env rows a w o k next):o.wp P a w next Q:=by
 unfold Oper.wp
 rw[hrun,Oper.upon_enter]
 unfold AO at k2
 cases hA:C.fn f with
 | none =>
  rw[hA]at k2
  obtain⟨A,Xm,k3⟩:=ak k2
  have hold:∀{ρ' T' aa w'},Step ρ T rows w ρ' T' aa w'->∀b,T b->w'.heap[b]?=w.heap[b]?:=λhst b hb=>
   hst.keep b (hs.vL b hb) (λr row L g1 g2 e=>(hs.bw.row r row L g1 g2).nu (e▸hb))
  unfold aX.Nb at Xm
  cases hr:C.dO f with
  |some A'=>
   rw[hr]at Xm
   cases Xm
   refine(hC.2.1 f A hr ds rows k k3 ρ w T vs hs.bw hs.vM hs.vL hvl NA).mono ?_
   rintro e w' ⟨v,d,aa,ρ',T',rfl,Fc,hrows,lS,yA,hst,Xk⟩
   exact hk d aa ρ' T' v w' Fc ⟨hrows,hs.env.mono hst.pl (hold hst) hst.tt,hs.size,yA,lS,hs.defers⟩ hst Xk (λhn=>by rw[hn]at hr;cases hr)
  | none =>
   rw[hr]at Xm
   cases hq:C.P1 f with
   |none=>rw[hq]at Xm;cases Xm
   |some q=>
    rw[hq]at Xm
    cases Xm
    refine(hC.2.2 f q hq ds rows k k3 ρ w T vs hs.bw hs.vM hs.vL hvl NA).mono ?_
    rintro e w' ⟨v,d,aa,ρ',T',rfl,Fc,hrows,lS,yA,hst,Xk,hqh,htn⟩
    exact hk d aa ρ' T' v w' Fc ⟨hrows,hs.env.mono hst.pl (hold hst) hst.tt,hs.size,yA,lS,hs.defers⟩ hst Xk (λ_ _=>⟨hqh,htn⟩)
 |some A=>
 rw[hA]at k2
 simp only at k2
 have hM:=hC.1 f A hA
 cases hh:aV ds with
 | true =>
  obtain⟨ds',hview,hA'⟩:=ak (k2.1 hh)
  have hkeep:∀{ρ' T' aa w'} {T0:Nat->Prop},Step fw T0 [] w ρ' T' aa w'->∀b,b<w.heap.size->w'.heap[b]?=w.heap[b]?:=λhst b hb=>hst.keep b hb (by intro r row L hl;simp[live]at hl)
  have hargs:=U5 hs.bw hview hvl
  refine(hM ds' [] (λd aa=>(b8 d&&a8 aa)=true/\k (shift rows.length d) (rows++ab rows.length aa)) hA' fw w (P9 ρ T rows) _ ⟨by intro r row L hl;simp[live]at hl,by intro r r' row row' L L' hl;simp[live]at hl⟩ (λ_ _=>rfl) ?_ hargs ?_).mono ?_
  ·rintro b (h|⟨r,row,L,g1,g2,rfl⟩)
   ·exact hs.vL b h
   ·exact(hs.bw.row r row L g1 g2).lt
  ·intro g d hd
   exact(NA g d hd).mono (λ_ _ h=>h) (λ_ _=>rfl) (λb hb=> .inl hb)
  ·rintro e w' ⟨v,d,aa,ρ',T',rfl,⟨hno,Fc⟩,hrows,lS,yA,hst,Xk⟩
   simp only[aav]at hno
   have iE:∀r row L,live aa r=some row->ρ' r=some L->mF (gU rows.length ρ ρ') ⟨row.sh,bif row.sh.pure then row.els else bu rows.length row.els⟩ L w' T:=by
    intro r row L g1 g2
    have hr:=hrows.row r row L g1 g2
    have hp:=p8 hno.2 g1
    rw[hp]
    refine⟨hr.sh,λhT=>?_,hr.els,λhm=>?_,hr.pY⟩
    rotate_left
    ·obtain⟨cur,t,q1,q2,q3,q4⟩:=hr.cells hm
     exact⟨cur,t,q1,q2,q3,q4.ofRaw (jR hr.els hp)⟩
    rcases hst.fresh r row L g1 g2 with⟨r0,pZ,L0,h3,_⟩|h3
    ·simp[live]at h3
    ·have:=hs.vL _ hT;omega
   obtain⟨g1,g2⟩:=JP hs hst lS hrows.jQ (λ_ h=>h) (λ_ h=> .inl h) (λb hb=>ab2 (hs.vL b hb) hst.size) iE
   refine hk _ _ _ _ v w' Fc g1 g2 ?_ (λ_ _=>⟨λb hb=> .inl (hkeep hst b hb),λ_ h=> .inl h⟩)
   exact((Xk.b8 (T':=T) (w':=w') hno.1).shift rows.length ρ)
 | false =>
  have hA':=k2.2 hh
  have hkeep:∀{ρ' T' aa w'} {T0:Nat->Prop},Step fw T0 [] w ρ' T' aa w'->∀b,b<w.heap.size->w'.heap[b]?=w.heap[b]?:=λhst b hb=>hst.keep b hb (by intro r row L hl;simp[live]at hl)
  have hargs:aW (VR fw w T) ds vs.toList:=⟨hvl.len,λi x y hx hy=>(hvl.at_ i x y hx hy).closed (fc hh x (bH hx))⟩
  refine(hM ds [] (λd aa=>k (shift rows.length d) (rows++ab rows.length aa)) hA' fw w T _ ⟨by intro r row L hl;simp[live]at hl,by intro r r' row row' L L' hl;simp[live]at hl⟩ (λ_ _=>rfl) hs.vL hargs NA).mono ?_
  rintro e w' ⟨v,d,aa,ρ',T',rfl,Fc,hrows,lS,yA,hst,Xk⟩
  have iE:∀r row L,live aa r=some row->ρ' r=some L->mF (gU rows.length ρ ρ') ⟨row.sh,bif row.sh.pure then row.els else bu rows.length row.els⟩ L w' T':=by
   intro r row L g1 g2
   have hr:=hrows.row r row L g1 g2
   cases hp:row.sh.pure with
   |true=>
    refine⟨hr.sh,hr.nu,hr.els,λhm=>?_,hr.pY⟩
    obtain⟨cur,t,q1,q2,q3,q4⟩:=hr.cells hm
    exact⟨cur,t,q1,q2,q3,q4.ofRaw (jR hr.els hp)⟩
   | false =>
    simp only[aaR]
    obtain⟨z1,z2⟩:=Db (k:=rows.length) hr.els
    refine⟨hr.sh,hr.nu,z1,λhm=>?_,λhm=>?_⟩
    ·obtain⟨cur,t,q1,q2,q3,q4⟩:=hr.cells hm
     have q5:=q4.shift rows.length ρ
     have zl:(au (bu rows.length row.els)).length=(au row.els).length:=by rw[z2,aaC]
     exact⟨cur,t,q1,q2,by rw[zl];exact q3,by simp only[zl];rw[z2];exact q5⟩
    ·obtain⟨es,clock,h1,h2⟩:=hr.pY hm
     rw[h2.pure]at hp
     cases hp
  obtain⟨g1,g2⟩:=JP hs hst lS hrows.jQ hst.tt hst.tnew0 yA iE
  exact hk _ _ _ _ v w' Fc g1 g2 (Xk.shift rows.length ρ) (λ_ _=>⟨λb hb=> .inl (hkeep hst b hb),hst.tnew0⟩)
theorem De{f:FuncId}{fn:Func}{o:Oper}{c:Call}(ho:o.op= .call c)(hf:P.funcs[f]?=some fn)(hb:fn.body.isSome=true)(hn:(fn.name != "runtime.NumGoroutine")=true)
  {caps:Array Value}(hc:(c.callee= .value (.func f)/\caps=#[])\/∃t,c.callee= .value (.tmp t)/\a.eval (.tmp t)= .func (.func f) #[] caps):(execOp a.eval o).run P w= .ok (.enter f (c.args.map a.eval++caps)) w:=by
 have Qj:¬fn.name= "runtime.NumGoroutine" :=by simpa using hn
 cases hq:fn.body with
 |none=>simp[hq]at hb
 |some b=>
  rcases hc with⟨hc,rfl⟩|⟨t,hc,ht⟩
  ·simp[execOp,ho,resolve,hc,Act.eval,Deferred.ofValue,invoke,callFunc,hf,Qj,hq]
  ·simp[execOp,ho,resolve,hc,ht,Deferred.ofValue,invoke,callFunc,hf,Qj,hq]
theorem op_call(hs:eA n ρ T env rows a w)(hG:sN C ρ w T)(NA:∀g d,C.aY g=some d->LR fw w T (.b5 d) (.pointer (some ⟨g,0,none⟩)))(hC:aJ C P){o:Oper}{k:D->Rows->Prop}{next:Act->World->Prop}{Q:Exit->Act->World->Prop}
  {c:Call}{f:FuncId}{fn:Func}{l':List X}(ho:o.op= .call c)(hc:c.callee= .value (.func f))(hf:P.funcs[f]?=some fn)(hb:fn.body.isSome=true)(hn:(fn.name != "runtime.NumGoroutine")=true)
  (h1:XG c.args.toList=some l')(h:dA C env rows (.call f l') k)(hk:Yn C n ρ T env rows a w o k next):o.wp P a w next Q:=by
 obtain⟨ds,hds,k2⟩:=ak h
 have hv:=sP hs hG h1 hds
 exact GJ hs NA hC (by simpa using hv) (De ho hf hb hn (.inl ⟨hc,rfl⟩)) k2 hk
theorem GK{f:Nat}:∀{l:List Nat},KU f l=true->f∈l
 |[],h=>by cases h
 | x :: l, h => by
  unfold KU at h
  cases hb:(x==f)with
  |true=>
   have:x=f:=by simpa using hb
   subst this;exact adE ..
  |false=>rw[hb]at h;exact List.mem_cons_of_mem _ (GK h)
theorem JQ{c:Call}{f:Nat}(h:f∈SU P c):∃fn,P.funcs[f]?=some fn/\fn.body.isSome=true/\(fn.name != "runtime.NumGoroutine")=true:=by
 unfold SU at h
 have h2:=(List.mem_filter.1 h).2
 split at h2
 ·rename_i fn hf
  simp only[aav]at h2
  exact⟨fn,hf,h2.1.2,h2.2⟩
 ·cases h2
theorem Yo(hs:eA n ρ T env rows a w)(hG:sN C ρ w T)(NA:∀g d,C.aY g=some d->LR fw w T (.b5 d) (.pointer (some ⟨g,0,none⟩)))(hC:aJ C P){o:Oper}{k:D->Rows->Prop}{next:Act->World->Prop}{Q:Exit->Act->World->Prop}
  {c:Call}{t:Nat}{l':List X}(ho:o.op= .call c)(hc:c.callee= .value (.tmp t))(h1:XG c.args.toList=some l')(h:dA C env rows (.pS (SU P c) (.tmp t) l') k)(hk:Yn C n ρ T env rows a w o k next):o.wp P a w next Q:=by
 obtain⟨d,hd,h2⟩:=ak h
 have hv0:=bD (x:= .tmp t) rfl hd hs hG
 split at h2
 ·rename_i f c1 c2
  obtain⟨rfl,rfl,hf,h3⟩:=h2
  obtain⟨ds,hds,k2⟩:=ak h3
  have hv:=sP hs hG h1 hds
  obtain⟨fn,g1,g2,g3⟩:=JQ (GK hf)
  exact GJ hs NA hC (by simpa using hv) (De ho g1 g2 g3 (.inr ⟨t,hc,hv0.ofRaw⟩)) k2 hk
 ·rename_i f s r p
  obtain⟨hf,h3⟩:=h2
  obtain⟨ds,hds,k2⟩:=ak h3
  have hv:=sP hs hG h1 hds
  obtain⟨fn,g1,g2,g3⟩:=JQ (GK hf)
  have lZ:LR ρ w T (.Ed f s r p) _:=hv0
  generalize hx:a.eval (.tmp t)=v at lZ
  cases lZ with
  |Ed _ _ _ _ L hL hp=>exact GJ hs NA hC (vs:=c.args.map a.eval++#[.pointer (some ⟨L.b,L.off p,none⟩)]) (by simpa using hv.append (.single (VR.bB (.ptr s r p L hL hp)))) (De ho g1 g2 g3 (.inr ⟨t,hc,hx⟩)) k2 hk
 ·exact h2.elim
theorem op_lena(hs:eA n ρ T env rows a w){o:Oper}{k:D->Rows->Prop}{c:Call}{x:Operand}{t e:TypeId}{m:Nat}{ts:List TypeId}(ho:o.op= .call c)(hc:c.callee= .builtin .len)(ha:c.args.toList=[x])
  (hts:c.argTypes.toList=t::ts)(hu:P.underlying t=some (.array m e))(h:dA C env rows (.mv (.const (.int .i64 m))) k):bI P n o ρ T env rows a w k:=by
 have hk:k (.raw (.int .i64 m)) rows:=h
 have hargs:c.args=#[x]:=by apply aca;simpa using ha
 have X1:c.argTypes[0]?=some t:=by
  have:c.argTypes.toList[0]?=some t:=by rw[hts];rfl
  simpa using this
 refine .here hs hk (VR.raw rfl) ?_
 rw[ia ho hc]
 simp[builtin,Builtin.len_,hargs,X1,run_underlying hu,goInt]
theorem wA(hs:eA n ρ T env rows a w)(NA:∀g d,C.aY g=some d->LR fw w T (.b5 d) (.pointer (some ⟨g,0,none⟩)))(hC:aJ C P){o:Oper}{ao:nh}{k:D->Rows->Prop}{next:Act->World->Prop}{Q:Exit->Act->World->Prop}
  (hc:cOp P o.op=some ao)(h:dA C env rows ao k)(hk:Yn C n ρ T env rows a w o k next):o.wp P a w next Q:=by
 unfold cOp at hc
 split at hc
 case h_2=>cases hc;exact h.elim
 rename_i a0 hc0
 cases hc
 replace hc:=hc0
 clear hc0
 have hG:sN C ρ w T:=λg d hd=>(NA g d hd).mono (by intro r L h;cases h) (λ_ _=>rfl) (λ_ h=>h)
 cases hop:o.op with
 |move x=>
  rw[hop]at hc
  obtain⟨x',h1,h2⟩:=aD hc
  cases h2
  exact(op_mv hs hG (.inl hop) h1 h).wp hk
 |assign x=>
  rw[hop]at hc
  obtain⟨x',h1,h2⟩:=aD hc
  cases h2
  exact(op_mv hs hG (.inr hop) h1 h).wp hk
 |pick x y z=>
  rw[hop]at hc
  obtain⟨x',h1,hc⟩:=aD hc
  obtain⟨y',h2,hc⟩:=aD hc
  obtain⟨z',h3,hc⟩:=aD hc
  cases hc
  exact(op_pick hs hG hop h1 h2 h3 h).wp hk
 |alloc t=>
  rw[hop]at hc
  obtain⟨s,h1,hc⟩:=aD hc
  obtain⟨z,h2,hc⟩:=aD hc
  obtain⟨_,hc⟩:=cx hc
  cases hc
  exact(X6 hs hop h1 h2 h).wp hk
 |box t x=>
  rw[hop]at hc
  obtain⟨s,h1,hc⟩:=aD hc
  obtain⟨x',h2,hc⟩:=aD hc
  cases hc
  exact(op_box hs hG hop h2 h).wp hk
 | build t parts =>
  rw[hop]at hc
  obtain⟨s,h1,hc⟩:=aD hc
  obtain⟨z,h2,hc⟩:=aD hc
  obtain⟨ps,h3,hc⟩:=aD hc
  split at hc
  ·rename_i fs hu
   obtain⟨h4,hc⟩:=cx hc
   cases hc
   simp only[aav,acs]at h4
   obtain⟨⟨⟨⟨_,h5⟩,h6⟩,h7⟩,h8⟩:=h4
   exact(UW hs hG hop h1 h2 hu h3 h5 h6 h7 h8 h).wp hk
  ·rename_i m e hu
   obtain⟨se,h4,hc⟩:=aD hc
   obtain⟨h5,hc⟩:=cx hc
   cases hc
   simp only[aav,acs]at h5
   exact(UX hs hG hop h1 h2 hu h3 h5.1.2 h4 h5.2 h).wp hk
  ·cases hc
 | buildSlice t m parts =>
  rw[hop]at hc
  obtain⟨e,h1,hc⟩:=aD hc
  obtain⟨s,h2,hc⟩:=aD hc
  obtain⟨z,h3,hc⟩:=aD hc
  obtain⟨ps,h4,hc⟩:=aD hc
  obtain⟨h5,hc⟩:=cx hc
  cases hc
  simp only[aav]at h5
  have hu:P.underlying t=some (.slice e):=by
   unfold yY at h1
   split at h1
   ·cases h1;assumption
   ·cases h1
  exact(UY hs hG hop hu h2 h3 h4 (by simpa using h5.1.2) (abz h5.2) h).wp hk
 |load t x=>
  rw[hop]at hc
  obtain⟨s,h1,hc⟩:=aD hc
  obtain⟨x',h2,hc⟩:=aD hc
  obtain⟨h3,hc⟩:=cx hc
  cases hc
  exact(op_load hs hG hop h1 h3 h2 h).wp hk
 |store t x y=>
  rw[hop]at hc
  obtain⟨s,h1,hc⟩:=aD hc
  obtain⟨x',h2,hc⟩:=aD hc
  obtain⟨y',h3,hc⟩:=aD hc
  cases hc
  exact(X7 hs hG hop h1 h2 h3 h).wp hk
 |nilCheck x=>
  rw[hop]at hc
  obtain⟨x',h2,hc⟩:=aD hc
  cases hc
  exact(op_nilc hs hG hop h2 h).wp hk
 | binOp op t x y u =>
  rw[hop]at hc
  obtain⟨x',h1,hc⟩:=aD hc
  obtain⟨y',h2,hc⟩:=aD hc
  split at hc
  ·cases hc;exact(XS hs hG hop h1 h2 h).wp hk
  ·cases hc;exact(XS hs hG hop h1 h2 h).wp hk
  ·rename_i hu
   split at hc
   ·cases hc;exact(XT hs hG (neg:=false) hop rfl hu h1 h2 h).wp hk
   ·cases hc;exact(XT hs hG (neg:=true) hop rfl hu h1 h2 h).wp hk
   ·cases hc
  ·obtain⟨s,h3,hc⟩:=aD hc
   obtain⟨h4,hc⟩:=cx hc
   simp only[aav,acT]at h4
   split at hc
   ·cases hc;exact(K6 hs hG (neg:=false) hop rfl h3 h4.1 h4.2 h1 h2 h).wp hk
   ·cases hc;exact(K6 hs hG (neg:=true) hop rfl h3 h4.1 h4.2 h1 h2 h).wp hk
   ·cases hc
  ·obtain⟨s,h3,hc⟩:=aD hc
   obtain⟨h4,hc⟩:=cx hc
   simp only[aav,acT]at h4
   split at hc
   ·cases hc;exact(K6 hs hG (neg:=false) hop rfl h3 h4.1 h4.2 h1 h2 h).wp hk
   ·cases hc;exact(K6 hs hG (neg:=true) hop rfl h3 h4.1 h4.2 h1 h2 h).wp hk
   ·cases hc
  ·rename_i hu
   split at hc
   ·cases hc;exact(Nx hs hG (neg:=false) hop rfl hu h1 h2 h).wp hk
   ·cases hc;exact(Nx hs hG (neg:=true) hop rfl hu h1 h2 h).wp hk
   ·cases hc
  ·rename_i hu
   split at hc
   ·cases hc;exact(Td hs hG (neg:=false) hop rfl hu h1 h2 h).wp hk
   ·cases hc;exact(Td hs hG (neg:=true) hop rfl hu h1 h2 h).wp hk
   ·cases hc
  ·cases hc
 | sliceToArrayPointer t x =>
  rw[hop]at hc
  simp only[cOp0]at hc
  split at hc
  ·rename_i m e hu
   obtain⟨s,h1,hc⟩:=aD hc
   obtain⟨x',h2,hc⟩:=aD hc
   cases hc
   exact(op_s2a hs hG hop hu h2 h).wp hk
  ·cases hc
 |unOp op t x=>
  rw[hop]at hc
  obtain⟨x',h2,hc⟩:=aD hc
  cases hc
  exact(op_un hs hG hop h2 h).wp hk
 | convert s t x =>
  rw[hop]at hc
  obtain⟨x',h1,hc⟩:=aD hc
  split at hc
  ·rename_i nv NB;cases hc;exact(op_conv hs hG hop nv NB h1 h).wp hk
  ·rename_i nv NB;cases hc;exact(XU hs hG hop nv NB h1 h).wp hk
  ·rename_i nv NB
   split at hc
   ·rename_i Yp;cases hc;exact(op_s2b hs hG hop nv NB Yp h1 h).wp hk
   ·cases hc
  ·rename_i nv NB
   split at hc
   ·rename_i Yp;cases hc;exact(op_b2s hs hG hop nv Yp NB h1 h).wp hk
   ·cases hc
  ·rename_i nv NB
   obtain⟨hst,hc⟩:=cx hc
   obtain⟨s',h2,hc⟩:=aD hc
   obtain⟨hs8,hc⟩:=cx hc
   have cQ:s=t:=by simpa using hst
   split at hc
   ·rename_i Yp
    cases hc
    rw[cQ]at hop
    exact(op_frzb hs hG hop NB Yp h1 h).wp hk
   ·cases hc
  ·cases hc
 | makeSlice t l c =>
  rw[hop]at hc
  obtain⟨e,h1,hc⟩:=aD hc
  obtain⟨s,h2,hc⟩:=aD hc
  obtain⟨z,h3,hc⟩:=aD hc
  obtain⟨l',h4,hc⟩:=aD hc
  obtain⟨c',h5,hc⟩:=aD hc
  obtain⟨h6,hc⟩:=cx hc
  cases hc
  have hu:P.underlying t=some (.slice e):=by
   unfold yY at h1
   split at h1
   ·cases h1;assumption
   ·cases h1
  exact(op_mks hs hG hop hu h2 h3 h4 h5 h).wp hk
 | makeFunc fn first cap =>
  rw[hop]at hc
  cases fn with
  | func f =>
   obtain⟨h1,hc⟩:=cx hc
   split at hc
   ·rename_i x hx
    obtain⟨x',h2,hc⟩:=aD hc
    cases hc
    exact(op_mkf hs hG hop h1 hx h2 h).wp hk
   ·cases hc
  | _=>cases hc
 | makeMap t r =>
  rw[hop]at hc
  cases r with
  |none=>
   obtain⟨⟨ks,vs⟩,h1,hc⟩:=aD hc
   cases hc
   obtain⟨kt,et,hu,h2,h3,h4,h5⟩:=zU h1
   exact(op_mkm hs hop h4 h5 h).wp hk
  |some _=>cases hc
 |mapUpdate t m x v=>
  rw[hop]at hc
  obtain⟨⟨ks,vs⟩,h1,hc⟩:=aD hc
  obtain⟨m',h6,hc⟩:=aD hc
  obtain⟨x',h7,hc⟩:=aD hc
  obtain⟨v',h8,hc⟩:=aD hc
  cases hc
  obtain⟨kt,et,hu,h2,h3,h4,h5⟩:=zU h1
  exact(op_mset hs hG hop hu h4 h5 h6 h7 h8 h).wp hk
 | lookup t m x ok =>
  rw[hop]at hc
  obtain⟨⟨kt0,et0⟩,h0,hc⟩:=aD hc
  obtain⟨⟨ks,vs⟩,h1,hc⟩:=aD hc
  obtain⟨z,h5',hc⟩:=aD hc
  obtain⟨m',h6,hc⟩:=aD hc
  obtain⟨x',h7,hc⟩:=aD hc
  obtain⟨hz,hc⟩:=cx hc
  cases hc
  obtain⟨kt,et,hu,h2,h3,h4,h5⟩:=zU h1
  have e0:et0=et:=by
   unfold mapT at h0
   rw[hu]at h0
   cases h0
   rfl
  subst e0
  exact(op_mget hs hG hop hu h4 h3 h5' hz h5 h6 h7 h).wp hk
 | fieldAddr t x i =>
  rw[hop]at hc
  obtain⟨s,h1,hc⟩:=aD hc
  obtain⟨x',h2,hc⟩:=aD hc
  split at hc
  ·rename_i fs hu
   split at hc
   ·rename_i f e hf he
    obtain⟨h3,hc⟩:=cx hc
    cases hc
    simp only[aav,acs]at h3
    obtain⟨⟨h4,h5⟩,h6⟩:=h3
    split at h5
    ·rename_i inf hi
     exact(XV hs hG hop hu hf he h4 hi (by simpa using h5) (by simpa using h6) h2 h).wp hk
    ·cases h5
   ·cases hc
  ·cases hc
 | field t x i =>
  rw[hop]at hc
  obtain⟨s,h1,hc⟩:=aD hc
  obtain⟨x',h2,hc⟩:=aD hc
  split at hc
  ·rename_i fs hu
   split at hc
   ·rename_i f e hf he
    obtain⟨h3,hc⟩:=cx hc
    cases hc
    simp only[aav,acs]at h3
    exact(XW hs hG hop hu hf he h3.1.1 h3.1.2 h3.2 h2 h).wp hk
   ·cases hc
  ·cases hc
 | indexAddr t x i =>
  rw[hop]at hc
  obtain⟨x',h1,hc⟩:=aD hc
  obtain⟨i',h2,hc⟩:=aD hc
  split at hc
  ·rename_i m e hu
   obtain⟨s,h3,hc⟩:=aD hc
   cases hc
   exact(UQ hs hG hop hu h3 h1 h2 h).wp hk
  ·rename_i e hu
   obtain⟨s,h3,hc⟩:=aD hc
   cases hc
   exact(UR hs hG hop hu h3 h1 h2 h).wp hk
  ·cases hc
 | index t x i =>
  rw[hop]at hc
  obtain⟨x',h1,hc⟩:=aD hc
  obtain⟨i',h2,hc⟩:=aD hc
  split at hc
  ·rename_i m e hu
   obtain⟨s,h3,hc⟩:=aD hc
   obtain⟨h4,hc⟩:=cx hc
   cases hc
   exact(XY hs hG hop hu h3 h4 h1 h2 h).wp hk
  ·rename_i hu
   cases hc
   exact(US hs hG hop hu h1 h2 h).wp hk
  ·cases hc
 | slice t x lo hi mx =>
  rw[hop]at hc
  obtain⟨x',h1,hc⟩:=aD hc
  obtain⟨lo',h2,hc⟩:=aD hc
  obtain⟨hi',h3,hc⟩:=aD hc
  obtain⟨mx',h4,hc⟩:=aD hc
  have hmn:(mx'.isNone||hi'.isSome)=true->(mx.isSome=true->hi.isSome=true):=by
   intro hq hm
   cases mx with
   |none=>simp at hm
   | some m =>
    cases hi with
    |some _=>rfl
    |none=>
     simp[Nc]at h3
     subst h3
     simp only[Nc]at h4
     split at h4
     ·cases h4;simp at hq
     ·cases h4
  split at hc
  ·rename_i m e hu
   obtain⟨s,h5,hc⟩:=aD hc
   obtain⟨h6,hc⟩:=cx hc
   cases hc
   exact(UU hs hG hop hu h5 h1 h2 h3 h4 (hmn h6) h).wp hk
  ·rename_i e hu
   obtain⟨s,h5,hc⟩:=aD hc
   obtain⟨h6,hc⟩:=cx hc
   cases hc
   exact(X2 hs hG hop hu h5 h1 h2 h3 h4 (hmn h6) h).wp hk
  ·rename_i hu
   obtain⟨h6,hc⟩:=cx hc
   cases hc
   have:mx=none:=by
    cases mx with
    |none=>rfl
    |some m=>
     simp only[Nc]at h4
     split at h4
     ·cases h4;simp at h6
     ·cases h4
   subst this
   exact(U0 hs hG hop hu h1 h2 h3 h).wp hk
  ·cases hc
 |extract x i=>
  rw[hop]at hc
  obtain⟨x',h2,hc⟩:=aD hc
  cases hc
  exact(op_ext hs hG hop h2 h).wp hk
 | call c =>
  rw[hop]at hc
  have eI:XI P c=some ao:=hc
  unfold XI at eI
  split at eI
  ·rename_i f qX
   obtain⟨fn,h1,eI⟩:=aD eI
   cases PK:fn.body.isSome with
   |true=>
    rw[PK]at eI
    obtain⟨h2,eI⟩:=cx eI
    obtain⟨l,h3,eI⟩:=aD eI
    cases eI
    exact op_call hs hG NA hC hop qX h1 PK h2 h3 h hk
   | false =>
    rw[PK]at eI
    simp only[aaR]at eI
    cases hix:(fn.name==AR&&fn.origin== "")with
    | true =>
     rw[hix]at eI
     simp only[aav,acs]at hix
     simp only[aaY]at eI
     split at eI
     ·rename_i x y hx
      obtain⟨x',h3,eI⟩:=aD eI
      obtain⟨y',h4,eI⟩:=aD eI
      cases eI
      exact(op_idxb hs hG hop qX h1 PK hix.1 hix.2 hx h3 h4 h).wp hk
     ·cases eI
    | false =>
     rw[hix]at eI
     obtain⟨h2,eI⟩:=cx eI
     simp only[aav,acs]at h2
     split at eI
     ·rename_i x t hx ht
      split at eI
      ·rename_i e hu
       obtain⟨h3,eI⟩:=cx eI
       obtain⟨x',h4,eI⟩:=aD eI
       cases eI
       exact(op_mnz hs hG hop qX h1 PK h2.1 h2.2 hx ht hu (by simpa using h3) h4 h).wp hk
      ·cases eI
     ·cases eI
  ·rename_i t qX
   obtain⟨l,h1,eI⟩:=aD eI
   cases eI
   exact Yo hs hG NA hC hop qX h1 h hk
  ·rename_i qX
   split at eI
   ·rename_i x t ts hx ht
    obtain⟨x',h1,eI⟩:=aD eI
    split at eI
    ·rename_i e hu;cases eI;exact(op_len hs hG hop qX hx ht hu h1 h).wp hk
    ·rename_i hu;cases eI;exact(UT hs hG hop qX hx ht hu h1 h).wp hk
    ·rename_i m e hu;cases eI;exact(op_lena hs hop qX hx ht hu h).wp hk
    ·cases eI
   ·cases eI
  ·rename_i qX
   split at eI
   ·rename_i x y t u hx ht
    obtain⟨x',h1,eI⟩:=aD eI
    obtain⟨y',h2,eI⟩:=aD eI
    obtain⟨e,h3,eI⟩:=aD eI
    obtain⟨s,h4,eI⟩:=aD eI
    obtain⟨z,h5,eI⟩:=aD eI
    obtain⟨h6,eI⟩:=cx eI
    simp only[aav]at h6
    have hu:P.underlying t=some (.slice e):=by
     unfold yY at h3
     split at h3
     ·cases h3;assumption
     ·cases h3
    split at eI
    ·rename_i e' nv
     obtain⟨_,eI⟩:=cx eI
     cases eI
     exact(JJ hs hG hop qX hx ht hu (.inl ⟨e',nv⟩) h4 h5 h1 h2 h).wp hk
    ·rename_i nv
     obtain⟨_,eI⟩:=cx eI
     cases eI
     exact(JJ hs hG hop qX hx ht hu (.inr nv) h4 h5 h1 h2 h).wp hk
    ·rename_i kd nv
     cases eI
     exact(Qf hs hG hop qX hx ht hu nv h4 h5 (by simpa using h6.1) h1 h2 h).wp hk
    ·cases eI
   ·cases eI
  ·rename_i qX
   split at eI
   ·rename_i x y t u hx ht
    obtain⟨x',h1,eI⟩:=aD eI
    obtain⟨y',h2,eI⟩:=aD eI
    obtain⟨e,h3,eI⟩:=aD eI
    obtain⟨s,h4,eI⟩:=aD eI
    obtain⟨h6,eI⟩:=cx eI
    have hu:P.underlying t=some (.slice e):=by
     unfold yY at h3
     split at h3
     ·cases h3;assumption
     ·cases h3
    split at eI
    ·obtain⟨_,eI⟩:=cx eI
     cases eI
     exact(Tb hs hG hop qX hx ht hu h4 h1 h2 h).wp hk
    ·obtain⟨_,eI⟩:=cx eI
     cases eI
     exact(Tb hs hG hop qX hx ht hu h4 h1 h2 h).wp hk
    ·cases eI
   ·cases eI
  ·rename_i qX
   split at eI
   ·rename_i x t hx ht
    obtain⟨x',h1,eI⟩:=aD eI
    obtain⟨e,h3,eI⟩:=aD eI
    obtain⟨s,h4,eI⟩:=aD eI
    obtain⟨z,h5,eI⟩:=aD eI
    obtain⟨h6,eI⟩:=cx eI
    have hu:P.underlying t=some (.slice e):=by
     unfold yY at h3
     split at h3
     ·cases h3;assumption
     ·cases h3
    simp only[aav]at h6
    cases eI
    exact(op_clr hs hG hop qX hx ht hu h4 h5 h1 h).wp hk
   ·cases eI
  ·rename_i qX
   obtain⟨l,h1,eI⟩:=aD eI
   cases eI
   exact(JL hs hG (mx:=false) hop qX h1 h).wp hk
  ·rename_i qX
   obtain⟨l,h1,eI⟩:=aD eI
   cases eI
   exact(JL hs hG (mx:=true) hop qX h1 h).wp hk
  ·cases eI
 | _=>rw[hop]at hc;cases hc
end Go.Am
namespace Go.Am
variable {C:aX} {P:Program} {n:Nat} {ρ:Pl} {T:Nat->Prop} {env:Env} {rows:Rows} {a:Act} {w:World}
def ei(C:aX)(w:World)(T:Nat->Prop):Prop:=∀g d,C.aY g=some d->LR fw w T (.b5 d) (.pointer (some ⟨g,0,none⟩))
theorem Step.stable(hr:jB ρ rows w T)(ht:∀b,T b->b<w.heap.size){ρ':Pl}{T':Nat->Prop}{aa:Rows}{w':World}(h:Step ρ T rows w ρ' T' aa w'):∀b,T b->w'.heap[b]?=w.heap[b]?:=by
 intro b hb
 refine h.keep b (ht b hb) ?_
 rintro r row L h1 h2 rfl
 exact(hr.row r row L h1 h2).nu hb
theorem ei.step(hg:ei C w T)(hs:eA n ρ T env rows a w){ρ':Pl}{T':Nat->Prop}{aa:Rows}{w':World}(h:Step ρ T rows w ρ' T' aa w'):ei C w' T':=
 λg d hd=>(hg g d hd).mono (λ_ _ h=>h) (h.stable hs.bw hs.vL) h.tt
theorem Df{all:List Oper}{o:Oper}{l:List Oper}{al:List aS}(h:wl P n all (o::l)=some al):
  ∃ao g r,P4 n o.dst=true/\cOp P o.op=some ao/\lQ all o.guard=some g/\wl P n all l=some r/\al=⟨o.dst,ao,g⟩::r:=by
 simp only[wl]at h
 obtain⟨h0,h⟩:=cx h
 obtain⟨ao,h1,h⟩:=aD h
 obtain⟨g,h2,h⟩:=aD h
 obtain⟨r,h3,h⟩:=aD h
 cases h
 exact⟨ao,g,r,h0,h1,h2,h3,rfl⟩
theorem ya{dst:Option Nat}(h:P4 n dst=true):∀t,dst=some t->t<n:=by
 intro t ht
 subst ht
 simp only[P4]at h
 exact adT.mp h
theorem U6 (hC : aJ C P) (ops : Array Oper) {Q' : Exit -> Act -> World -> Prop} : ∀ (l : List Oper) (i : Nat), ops.toList.drop i = l -> ∀ (al : List aS), wl P n ops.toList l = some al ->
  ∀(env:Env) (rows:Rows) (ρ:Pl) (T:Nat->Prop) (a:Act) (w:World) (K:Env->Rows->Prop),dD C al env rows K->eA n ρ T env rows a w->ei C w T->
  (∀env' aa ρ' T' a' w',K env' aa->eA n ρ' T' env' aa a' w'->Step ρ T rows w ρ' T' aa w'->Q' .normal a' w')->wpOps P ops Q' (List.range' i l.length) a w:=by
 intro l
 induction l with
 |nil=>
  intro i _ al hc env rows ρ T a w K h hs hg hK
  simp[wl]at hc
  subst hc
  exact hK env rows ρ T a w h hs (Step.refl _ _ _ _)
 | cons o l ih =>
  intro i hi al hc env rows ρ T a w K h hs hg hK
  obtain⟨ao,g,r,h0,h1,h2,h3,rfl⟩:=Df hc
  have ho:ops[i]?=some o:=by
   have:=abt (λq=>q[0]?) hi
   simpa using this
  have JR:ops.toList.drop (i+1)=l:=by
   have:=abt List.tail hi
   simpa using this
  have hd:=ya h0
  simp only[aa0,aej,wpOps,ho]
  have go:∀(h:dA C env rows ao (λd rows=>dD C r (put o.dst d env) rows K)),o.wp P a w (wpOps P ops Q' (List.range' (i+1) l.length)) Q':=by
   intro h
   refine wA hs hg hC h1 h ?_
   intro d aa ρ' T' v w' hk gh hst hv _
   exact ih (i+1) JR r h3 _ aa ρ' T' _ w' K hk (gh.put hv hd) (hg.step hs hst) (λmL mN PM T2 a2 w2 Qc uZ Qk=>hK mL mN PM T2 a2 w2 Qc uZ (hst.trans Qk))
  have skip:∀(h:dD C r (put o.dst (.cB []) env) rows K),wpOps P ops Q' (List.range' (i+1) l.length) (a.put o.dst undef) w:=by
   intro h
   have hv:VR ρ w T (.cB []) undef:=⟨#[],rfl,.nil⟩
   exact ih (i+1) JR r h3 _ rows ρ T _ w K h (hs.put hv hd) hg hK
  cases hgd:o.guard with
  |none=>
   rw[hgd]at h2
   simp[lQ]at h2
   subst h2
   have hw:Region.wanted o (yielded ops a.tmps)=true:=by simp[Region.wanted,hgd]
   rw[aaM hw]
   exact .inl (go h)
  | some jw =>
   obtain⟨j,want⟩:=jw
   rw[hgd]at h2
   simp only[lQ]at h2
   split at h2
   ·rename_i oj hj
    split at h2
    ·rename_i t ht
     cases h2
     have mJ:ops[j]?=some oj:=by simpa using hj
     obtain⟨d,Gl,h⟩:=ak h
     have hv:=hs.env t d Gl
     split at h
     ·rename_i b
      have hb:=VR.ofRaw hv
      have yB:a.tmps[t]?=some (.bool b):=by
       unfold Array.getD at hb
       split at hb
       ·rename_i hlt
        rw[abx hlt]
        simpa using hb
       ·cases hb
      have hy:yielded ops a.tmps j=some b:=by simp[yielded,mJ,ht,yB]
      have hw:Region.wanted o (yielded ops a.tmps)=(b==want):=by
       simp only[Region.wanted,hgd,hy]
       cases b<;>cases want<;>rfl
      rw[hw]
      by_cases U7:b=want
      ·subst U7
       rw[aaM (by simp)]
       exact .inl (go (h.1 rfl))
      ·rw[aaE (by simpa using U7)]
       exact skip (h.2 (by cases b<;>cases want<;>simp_all))
     ·obtain⟨vs,hvs,bN⟩:=hv
      have Ql:vs=#[]:=by
       have:=bN.len
       apply aca
       exact aaN (by simpa using this.symm)
      subst Ql
      have hy:yielded ops a.tmps j=none:=by
       simp only[yielded,mJ,abf,ht]
       unfold Array.getD at hvs
       split at hvs
       ·rename_i hlt
        rw[abx hlt]
        have:a.tmps[t]= .tuple #[]:=by simpa using hvs
        rw[this]
       ·rename_i hlt
        rw[acB (by omega)]
      have hw:Region.wanted o (yielded ops a.tmps)=false:=by
       simp only[Region.wanted,hgd,hy]
       rfl
      rw[aaE (by rw[hw];simp)]
      exact skip h
     ·exact h.elim
    ·cases h2
   ·cases h2
def Qm:fE->Exit
 | .normal=> .normal
 | .exit i=> .exit i
 | .ret=> .ret
def Post(n:Nat)(ρ:Pl)(T:Nat->Prop)(rows:Rows)(w:World)(Q:fE->Env->Rows->Prop)(Q':Exit->Act->World->Prop):Prop:=
 ∀e env' aa ρ' T' a' w',Q e env' aa->eA n ρ' T' env' aa a' w'->Step ρ T rows w ρ' T' aa w'->Q' (Qm e) a' w'
end Go.Am
namespace Go.Am
variable {C:aX} {P:Program} {n:Nat} {ρ:Pl} {T:Nat->Prop} {env:Env} {rows:Rows} {a:Act} {w:World}
def NC(rows:Rows)(f:(D->Rows->Prop)->Prop):Prop:=∀k,f k->∃d new,k d (rows++new)/\f (λd2 r2=>d2=d/\r2=rows++new)
theorem br(rows:Rows)(d:D):NC rows (λk=>k d rows):=λk h=>⟨d,[],by simpa using h,rfl,by simp⟩
theorem rv(rows new:Rows)(d:D):NC rows (λk=>k d (rows++new)):=λk h=>⟨d,new,h,rfl,rfl⟩
theorem aM(rows:Rows):NC rows (λ_=>False):=λ_ h=>h.elim
theorem bj{rows:Rows}{f:(D->Rows->Prop)->Prop}(p:Prop)(h:NC rows f):NC rows (λk=>p/\f k):=by
 intro k ⟨hp,hf⟩
 obtain⟨d,new,h1,h2⟩:=h k hf
 exact⟨d,new,h1,hp,h2⟩
theorem aR{α:Type}{rows:Rows}{x:Option α}{f:α->(D->Rows->Prop)->Prop}(h:∀a,NC rows (f a)):NC rows (λk=>bf x (λa=>f a k)):=by
 intro k hk
 cases x with
 |none=>exact hk.elim
 |some a=>exact h a k hk
theorem det_if{rows:Rows}{f g:(D->Rows->Prop)->Prop}(b:Bool)(hf:NC rows f)(hg:NC rows g):NC rows (λk=>(b=true->f k)/\(b=false->g k)):=by
 intro k hk
 cases b with
 |true=>
  obtain⟨d,new,h1,h2⟩:=hf k (hk.1 rfl)
  refine⟨d,new,h1,λ_=>h2,λh=>?_⟩
  cases h
 |false=>
  obtain⟨d,new,h1,h2⟩:=hg k (hk.2 rfl)
  refine⟨d,new,h1,λh=>?_,λ_=>h2⟩
  cases h
theorem zX{rows:Rows}{f:Nat->Nat->Nat->(D->Rows->Prop)->Prop}(l h m:Int)(n:Nat)(hf:∀a b c,NC rows (f a b c)):NC rows (λk=>mD l h m n λa b c=>f a b c k):=
 bj _ (bj _ (bj _ (bj _ (hf _ _ _))))
theorem Yq(rows:Rows)(op:BinOp)(x y:Value):NC rows (λk=>cz op x y λd=>k d rows):=by
 unfold cz
 intro k h
 split at h
 all_goals first
  |exact h.elim
  |exact br rows _ k h
  |exact bj _ (br rows _) k h
  |exact bj _ (bj _ (br rows _)) k h
theorem det_aUn(rows:Rows)(op:UnOp)(x:Value):NC rows (λk=>aUn op x λd=>k d rows):=by
 unfold aUn
 intro k h
 split at h
 all_goals first
  |exact h.elim
  |exact br rows _ k h
theorem FO(hN:∀f,C.dO f=none)(o:nh)(hq:lR o=true):NC rows (dA C env rows o):=by
 cases o with
 |mv x=>exact aR λd=>br rows d
 | pick c x y =>
  refine aR λd=>?_
  cases d with
  |raw v=>
   cases v with
   |bool t=>exact aR λd=>br rows d
   | _=>exact aM rows
  | _=>exact aM rows
 | bin op x y =>
  refine aR λd=>?_
  cases d with
  |raw v=>
   refine aR λd2=>?_
   cases d2 with
   |raw u=>exact Yq rows op v u
   | _=>exact aM rows
  | _=>exact aM rows
 | Xe s neg x y =>
  refine aR λd=>?_
  cases d with
  |agg s1 l=>
   refine aR λd2=>?_
   cases d2 with
   |agg s2 l'=>exact bj _ (bj _ (aR λb=>br rows _))
   | _=>exact aM rows
  | _=>exact aM rows
 | beq neg x y =>
  refine aR λd=>?_
  cases d with
  | raw v =>
   cases v with
   | bool t =>
    refine aR λd2=>?_
    cases d2 with
    |raw u=>
     cases u with
     |bool t2=>exact br rows _
     | _=>exact aM rows
    | _=>exact aM rows
   | _=>exact aM rows
  | _=>exact aM rows
 |un op x=>
  refine aR λd=>?_
  cases d with
  |raw v=>exact det_aUn rows op v
  | _=>exact aM rows
 | conv kd x =>
  refine aR λd=>?_
  cases d with
  |raw v=>
   cases v with
   |int k n=>exact br rows _
   | _=>exact aM rows
  | _=>exact aM rows
 | Jy x =>
  refine aR λd=>?_
  cases d with
  |raw v=>
   cases v with
   |string b=>exact br rows _
   | _=>exact aM rows
  | _=>exact aM rows
 |alloc s z=>exact rv rows _ _
 |mkm ks vs=>exact rv rows _ _
 |M9 ks vs ok z m x=>exact aR λd=>aR λd2=>bj _ (aR λl=>aR λo=>br rows _)
 |box s x=>exact aR λd=>bj _ (rv rows _ _)
 |build s z ps=>exact aR λl=>br rows _
 |cP s m z ps=>exact aR λl=>rv rows _ _
 |load s x=>
  refine aR λd=>?_
  cases d with
  |ptr s' r p=>exact bj _ (aR λrow=>aR λd=>br rows d)
  |b5 d=>exact bj _ (br rows _)
  |nk m t r p off=>exact bj _ (aR λl=>bj _ (br rows _))
  | _=>exact aM rows
 |nt x=>
  refine aR λd=>?_
  cases d with
  |ptr s' r p=>exact br rows _
  |b5 d=>exact br rows _
  | _=>exact aM rows
 | b7 s x i =>
  refine aR λd=>?_
  cases d with
  |ptr s' r p=>exact bj _ (aR λe=>br rows _)
  |b5 d=>
   cases d with
   |agg s' l=>exact bj _ (aR λe=>br rows _)
   | _=>exact aM rows
  | _=>exact aM rows
 |field s x i=>
  refine aR λd=>?_
  cases d with
  |agg s' l=>exact bj _ (aR λe=>br rows _)
  | _=>exact aM rows
 | wg m s x i =>
  refine aR λd=>aR λd2=>?_
  cases d2 with
  | raw v =>
   cases v with
   | int kd j =>
    cases d with
    |ptr s' r p=>exact bj _ (bj _ (bj _ (br rows _)))
    |b5 d=>
     cases d with
     |agg s' l=>exact bj _ (bj _ (bj _ (aR λd=>br rows _)))
     | _=>exact aM rows
    | _=>exact aM rows
   | _=>exact aM rows
  | _=>exact aM rows
 | eO s x i =>
  refine aR λd=>aR λd2=>?_
  cases d2 with
  | raw v =>
   cases v with
   |int kd j=>
    cases d with
    |sl t r p off len ex=>exact bj _ (bj _ (bj _ (br rows _)))
    |cD t l ex=>exact bj _ (bj _ (bj _ (aR λd=>br rows _)))
    | _=>exact aM rows
   | _=>exact aM rows
  | _=>exact aM rows
 | index m s x i =>
  refine aR λd=>?_
  cases d with
  | agg t l =>
   refine aR λd2=>?_
   cases d2 with
   |raw v=>
    cases v with
    |int kd j=>exact bj _ (bj _ (bj _ (aR λd=>br rows _)))
    | _=>exact aM rows
   | _=>exact aM rows
  | _=>exact aM rows
 | ue x i =>
  refine aR λd=>?_
  cases d with
  | raw v =>
   cases v with
   | string b =>
    refine aR λd2=>?_
    cases d2 with
    |raw u=>
     cases u with
     |int kd j=>exact bj _ (aR λc=>br rows _)
     | _=>exact aM rows
    | _=>exact aM rows
   | _=>exact aM rows
  | _=>exact aM rows
 | zE m s x lo hi mx =>
  refine aR λd=>aR λl=>aR λh=>aR λc=>zX _ _ _ _ λa b e=>?_
  cases d with
  |ptr t r p=>exact bj _ (br rows _)
  |b5 d=>
   cases d with
   |agg s' l=>exact bj _ (br rows _)
   | _=>exact aM rows
  | _=>exact aM rows
 | slice s x lo hi mx =>
  refine aR λd=>aR λl=>aR λh=>aR λc=>aR λN=>zX _ _ _ _ λa b e=>?_
  cases d with
  | raw v =>
   cases v with
   | slice ad len cap =>
    cases ad with
    | none =>
     cases len with
     |zero=>cases cap with
      |zero=>exact br rows _
      |succ _=>exact aM rows
     |succ _=>exact aM rows
    |some _=>exact aM rows
   | _=>exact aM rows
  |sl t r p off len ex=>exact bj _ (br rows _)
  |cD t l ex=>exact bj _ (br rows _)
  | _=>exact aM rows
 | CQ x lo hi =>
  refine aR λd=>?_
  cases d with
  |raw v=>
   cases v with
   |string b=>exact aR λl=>aR λh=>zX _ _ _ _ λa b e=>br rows _
   | _=>exact aM rows
  | _=>exact aM rows
 | mks s b z l c =>
  refine aR λd=>?_
  cases d with
  | raw v =>
   cases v with
   | int kd j =>
    refine aR λd2=>?_
    cases d2 with
    |raw u=>
     cases u with
     |int kd j=>exact bj _ (bj _ (bj _ (bj _ (rv rows _ _))))
     | _=>exact aM rows
    | _=>exact aM rows
   | _=>exact aM rows
  | _=>exact aM rows
 |ext x i=>
  refine aR λd=>?_
  cases d with
  |cB l=>exact aR λd=>br rows d
  | _=>exact aM rows
 |len x=>exact aR λd=>aR λm=>br rows _
 | zF x =>
  refine aR λd=>?_
  cases d with
  |raw v=>
   cases v with
   |string b=>exact br rows _
   | _=>exact aM rows
  | _=>exact aM rows
 |wh mx l=>exact aR λds=>aR λr=>br rows _
 |XE x=>exact aR λd=>bj _ (aR λl=>aR λm=>bj _ (aR λbs=>br rows _))
 | s2b x =>
  refine aR λd=>?_
  cases d with
  |raw v=>
   cases v with
   |string b=>exact br rows _
   | _=>exact aM rows
  | _=>exact aM rows
 | call f args =>
  refine aR λds=>?_
  show NC rows (AO C rows f ds)
  unfold AO
  cases C.fn f with
  |some F=>exact det_if _ (aR λds'=>aR λr=>bj _ (rv rows _ _)) (aR λr=>rv rows _ _)
  | none =>
   have e:C.Nb f=(C.P1 f).map Na:=by unfold aX.Nb;rw[hN f]
   rw[e]
   cases C.P1 f with
   |none=>exact aM rows
   |some q=>
    show NC rows (λk=>bf (q ds rows) λr=>k r.1 (rows++r.2))
    exact aR λr=>rv rows _ _
 |fail=>exact aM rows
 | PZ s x =>
  refine aR λd=>?_
  cases d with
  |sl t r p off len ex=>
   cases p with
   |nil=>exact bj _ (bj _ (aR λrow=>bj _ (br rows _)))
   |cons _ _=>exact aM rows
  | _=>exact aM rows
 | yU neg x y =>
  refine aR λd=>aR λd2=>?_
  cases d2 with
  | raw v =>
   cases v with
   | pointer ad =>
    cases ad with
    | none =>
     cases d with
     | raw v =>
      cases v with
      |pointer ad=>
       cases ad with
       |none=>exact br rows _
       |some _=>exact aM rows
      | _=>exact aM rows
     |ptr _ _ _=>exact br rows _
     |b5 _=>exact br rows _
     | _=>exact aM rows
    |some _=>exact aM rows
   | _=>exact aM rows
  | _=>exact aM rows
 |s2a m s x=>
  refine aR λd=>?_
  cases d with
  |sl t r p off len ex=>exact bj _ (bj _ (bj _ (br rows _)))
  |cD t l ex=>exact bj _ (bj _ (bj _ (br rows _)))
  | _=>exact aM rows
 | _=>cases hq
theorem yb{env':Env}:∀{l:List X},(∀x∈l,ev C env x=ev C env' x)->MY C env l=MY C env' l
 |[],_=>rfl
 |x::l,h=>by simp only[MY,h x (by simp),yb (l:=l) (λy hy=>h y (by simp[hy]))]
theorem l6{env':Env}{o:Option X}(h:∀x∈o.toList,ev C env x=ev C env' x):IV C env o=IV C env' o:=by
 cases o with
 |none=>rfl
 |some x=>simp only[IV,h x (by simp)]
theorem ry{env':Env}{sub:Nat->Option Sh}:∀{ps:List (Nat×X)} {z:List D},(∀x∈ps.map (·.2),ev C env x=ev C env' x)->o6 C env sub ps z=o6 C env' sub ps z
 |[],z,_=>rfl
 |(i,x)::ps,z,h=>by
  have hx:=h x (by simp)
  have ih:=λz=>ry (sub:=sub) (ps:=ps) (z:=z) (λy hy=>h y (List.mem_cons_of_mem _ hy))
  simp only[o6,hx,ih]
theorem Dg{env':Env}{o:nh}(h:∀x∈o.xs,ev C env x=ev C env' x)(k:D->Rows->Prop):dA C env rows o k=dA C env' rows o k:=by
 cases o with
 |alloc s z=>rfl
 |mkm ks vs=>rfl
 |pU ks vs m x v=>simp only[dA,h m (by simp[nh.xs]),h x (by simp[nh.xs]),h v (by simp[nh.xs])]
 |M9 ks vs ok z m x=>simp only[dA,h m (by simp[nh.xs]),h x (by simp[nh.xs])]
 |pick c x y=>simp only[dA,h c (by simp[nh.xs]),h x (by simp[nh.xs]),h y (by simp[nh.xs])]
 |build s z ps=>simp only[dA,ry (ps:=ps) h]
 |cP s m z ps=>simp only[dA,ry (ps:=ps) h]
 |zE m s x lo hi mx=>
  simp only[dA,h x (by simp[nh.xs]),l6 (o:=lo) (λy hy=>h y (by simp only[nh.xs,aaW,aaU];exact .inr (.inl (.inl hy)))),l6 (o:=hi) (λy hy=>h y (by simp only[nh.xs,aaW,aaU];exact .inr (.inl (.inr hy)))),l6 (o:=mx) (λy hy=>h y (by simp only[nh.xs,aaW,aaU];exact .inr (.inr hy)))]
 |slice s x lo hi mx=>
  simp only[dA,h x (by simp[nh.xs]),l6 (o:=lo) (λy hy=>h y (by simp only[nh.xs,aaW,aaU];exact .inr (.inl (.inl hy)))),l6 (o:=hi) (λy hy=>h y (by simp only[nh.xs,aaW,aaU];exact .inr (.inl (.inr hy)))),l6 (o:=mx) (λy hy=>h y (by simp only[nh.xs,aaW,aaU];exact .inr (.inr hy)))]
 |CQ x lo hi=>
  simp only[dA,h x (by simp[nh.xs]),l6 (o:=lo) (λy hy=>h y (by simp only[nh.xs,aaW,aaU];exact .inr (.inl hy))),l6 (o:=hi) (λy hy=>h y (by simp only[nh.xs,aaW,aaU];exact .inr (.inr hy)))]
 |wh mx l=>simp only[dA,yb (l:=l) h]
 |call f l=>simp only[dA,yb (l:=l) h]
 |pS fs x l=>simp only[dA,h x (by simp[nh.xs]),yb (l:=l) (λy hy=>h y (by simp[nh.xs,hy]))]
 |fail=>rfl
 |s2a _ _ x|PZ _ x|mnz x|mkf _ x|clr _ _ x=>simp only[dA,h x (by simp[nh.xs])]
 |yU neg x y|M8 neg x y=>simp only[dA,h x (by simp[nh.xs]),h y (by simp[nh.xs])]
 |mv x|un op x|conv kd x|Jy x|box s x|load s x|nt x|b7 s x i|field s x i|ext x i|len x|zF x|XE x|s2b x=>simp only[dA,h x (by simp[nh.xs])]
 |bin op x y|Xe s neg x y|beq neg x y|store s x y|wg m s x y|eO s x y|index m s x y|ue x y|P0 x y|append s b x y|uf s b z x y|copy s x y|mks s b z x y=>simp only[dA,h x (by simp[nh.xs]),h y (by simp[nh.xs])]
end Go.Am
namespace Go.Am
variable {C:aX} {P:Program} {n:Nat}
structure Yr (ops:List Oper) (al:List aS) (m:Nat):Prop where
 le:m<=ops.length
 back:∀i j,v7 ops i j=true->j<i
 quiet:∀i,i<m->∃x o,al[i]?=some x/\ops[i]?=some o/\lR x.op=true/\gz o.op=true/\(∀j,j<m->j≠i->∀t,x.dst=some t->bz al j≠some t)/\(∀t,t∈ov x->∀j,j<m->bz al j=some t->v7 ops i j=true)
structure DOK (ops:List Oper) (al:List aS) (m:Nat):Prop extends Yr ops al m where
 tail:∀i,i<ops.length->m<=i->∀j,j<i->v7 ops i j=true\/∃k,k<i/\j<k/\v7 ops k j=true
structure DOK2 (ops:List Oper) (al:List aS) (m:Nat):Prop extends Yr ops al m where
 tail:∀i,i<ops.length->m<=i->∃x,al[i]?=some x/\∀j,j<i->I3 ops 2 i j=true\/(j<m/\∃y t,al[j]?=some y/\y.guard=none/\y.dst=some t/\x.dst≠some t/\t∉ov x)
theorem Dh{ops:List Oper}{al:List aS}{m:Nat}(h1:Nat.ble m ops.length=true)(h2:((List.range ops.length).all (λi=>match ops[i]? with
  |some o=>o.after.toList.all λe=>!Region.binds .any e||Nat.blt e.on i
  |none=>true))=true)(h3:((List.range m).all (λi=>match al[i]?,ops[i]? with
  |some x,some o=>lR x.op&&gz o.op&&
   (List.range m).all (λj=>j==i||x.dst.isNone||bz al j !=x.dst)&&
   (ov x).all λt=>(List.range m).all λj=>bz al j !=some t||v7 ops i j
  | _,_=>false))=true):Yr ops al m:=by
 refine⟨abz h1,λi j hd=>?_,λi hi=>?_⟩
 ·unfold v7 at hd
  split at hd
  ·rename_i o ho
   have hi:i<ops.length:=cU ho
   have:=abc.1 h2 i (by simpa using hi)
   simp only[ho]at this
   obtain⟨e,he,hb⟩:=acu.1 hd
   simp only[aav,acs]at hb
   have:=abc.1 this e he
   simp only[hb.1,abn,acA]at this
   rw[<-hb.2]
   exact adT.mp this
  ·cases hd
 ·have:=abc.1 h3 i (by simpa using hi)
  split at this
  ·rename_i x o hx ho
   simp only[aav]at this
   obtain⟨⟨⟨q1,q2⟩,q3⟩,q4⟩:=this
   refine⟨x,o,hx,ho,q1,q2,λj hj hne t ht Tl=>?_,λt ht j hj Tl=>?_⟩
   ·have:=abc.1 q3 j (by simpa using hj)
    simp[hne,ht,Tl]at this
   ·have:=abc.1 (abc.1 q4 t ht) j (by simpa using hj)
    simpa[Tl]using this
  ·cases this
theorem ND{ops:List Oper}{al:List aS}{m:Nat}(h:dOK ops al m=true):DOK ops al m:=by
 simp only[dOK,aav]at h
 obtain⟨⟨⟨h1,h2⟩,h3⟩,h4⟩:=h
 refine⟨Dh h1 h2 h3,λi hi hm j hj=>?_⟩
 ·have:=abc.1 h4 i (by simpa using hi)
  have hb:Nat.blt i m=false:=by
   cases hb:Nat.blt i m with
   |false=>rfl
   |true=>have:=adT.mp hb;omega
  rw[hb,acA]at this
  have:=abc.1 this j (by simpa using hj)
  rcases adA.1 this with h|h
  ·exact .inl h
  ·obtain⟨k,hk,hb⟩:=acu.1 h
   simp only[aav]at hb
   exact .inr ⟨k,by simpa using hk,adT.mp hb.1,hb.2⟩
theorem U8{ops:List Oper}{al:List aS}{m:Nat}(h:UN ops al m=true):DOK2 ops al m:=by
 simp only[UN,aav]at h
 obtain⟨⟨⟨h1,h2⟩,h3⟩,h4⟩:=h
 refine⟨Dh h1 h2 h3,λi hi hm=>?_⟩
 have:=abc.1 h4 i (by simpa using hi)
 have hb:Nat.blt i m=false:=by
  cases hb:Nat.blt i m with
  |false=>rfl
  |true=>have:=adT.mp hb;omega
 rw[hb,acA]at this
 split at this
 ·rename_i x hx
  refine⟨x,hx,λj hj=>?_⟩
  have:=abc.1 this j (by simpa using hj)
  rcases adA.1 this with h|h
  ·exact .inl h
  ·right
   simp only[aav]at h
   obtain⟨q1,q2⟩:=h
   refine⟨adT.mp q1,?_⟩
   split at q2
   ·rename_i y hy
    simp only[aav]at q2
    obtain⟨q2,q3⟩:=q2
    split at q3
    ·rename_i t ht
     simp only[aav]at q3
     exact⟨y,t,hy,by simpa using q2,ht,by simpa using q3.1,by simpa using q3.2⟩
    ·cases q3
   ·cases q2
 ·cases this
def Ex(C:aX)(env:Env)(rows:Rows)(x:aS)(d:D)(aa:Rows):Prop:=
 match x.guard with
 |none=>dA C env rows x.op λd2 r2=>d2=d/\r2=aa
 | some (s, want) => (∃ b, look env s = some (.raw (.bool b)) /\ (b = want -> dA C env rows x.op λd2 r2 => d2 = d /\ r2 = aa) /\ (b = !want -> d = .cB [] /\ aa = rows)) \/
   (look env s=some (.cB [])/\d= .cB []/\aa=rows)
theorem ex_of(hN:∀f,C.dO f=none){x:aS}{l:List aS}{env:Env}{rows:Rows}{K:Env->Rows->Prop}(h:dD C (x::l) env rows K)(hq:lR x.op=true):
  ∃d new,Ex C env rows x d (rows++new)/\dD C l (put x.dst d env) (rows++new) K:=by
 obtain⟨dst,o,g⟩:=x
 cases g with
 |none=>
  obtain⟨d,new,h1,h2⟩:=FO hN o hq _ h
  exact⟨d,new,h2,h1⟩
 | some sw =>
  obtain⟨s,want⟩:=sw
  obtain⟨v,hv,h⟩:=ak h
  split at h
  ·rename_i b
   by_cases hb:b=want
   ·obtain⟨d,new,h1,h2⟩:=FO hN o hq _ (h.1 hb)
    refine⟨d,new,.inl ⟨b,hv,λ_=>h2,λh3=>?_⟩,h1⟩
    rw[hb]at h3
    cases want<;>cases h3
   ·have Gr:b=!want:=by cases b<;>cases want<;>simp_all
    refine⟨.cB [],[],.inl ⟨b,hv,λh3=>absurd h3 hb,λ_=>⟨rfl,by simp⟩⟩,?_⟩
    simpa using h.2 Gr
  ·exact⟨.cB [],[],.inr ⟨hv,rfl,by simp⟩,by simpa using h⟩
  ·exact h.elim
def mz(al:List aS)(Dd:Nat->D)(env:Env):Nat->Env
 |0=>env
 |i+1=>put (bz al i) (Dd i) (mz al Dd env i)
theorem GL(al:List aS)(env:Env){D1 D2:Nat->D}:∀(i:Nat),(∀j,j<i->D1 j=D2 j)->mz al D1 env i=mz al D2 env i
 |0,_=>rfl
 |i+1,h=>by simp only[mz,h i (by omega),GL al env i (λj hj=>h j (by omega))]
theorem trace(hN:∀f,C.dO f=none){al:List aS}{env:Env}{rows:Rows}{K:Env->Rows->Prop}:∀(m:Nat),m<=al.length->(∀i,i<m->∃x,al[i]?=some x/\lR x.op=true)->dD C al env rows K->
  ∃(Dd:Nat->D) (R:Nat->Rows),R 0=rows/\(∀i,i<m->∃x new,al[i]?=some x/\R (i+1)=R i++new/\Ex C (mz al Dd env i) (R i) x (Dd i) (R (i+1)))/\dD C (al.drop m) (mz al Dd env m) (R m) K
 |0,_,_,h=>⟨λ_=>default,λ_=>rows,rfl,λi hi=>by omega,by simpa[mz]using h⟩
 | m + 1, hm, hq, h => by
  obtain⟨Dd,R,h1,h2,h3⟩:=trace hN m (by omega) (λi hi=>hq i (by omega)) h
  obtain⟨x,hx,hqx⟩:=hq m (by omega)
  have Ys:al.drop m=x::al.drop (m+1):=by
   have hlt:m<al.length:=by omega
   rw[abF hlt]
   congr 1
   rw[aaw hlt]at hx
   exact abe hx
  rw[Ys]at h3
  obtain⟨d,new,g1,g2⟩:=ex_of hN h3 hqx
  have U9:bz al m=x.dst:=by simp[bz,hx]
  let Dd':Nat->D:=λj=>if j=m then d else Dd j
  let R':Nat->Rows:=λj=>if j=m+1 then R m++new else R j
  have yc:∀i,i<=m->mz al Dd' env i=mz al Dd env i:=λi hi=>GL al env i (λj hj=>by simp only[Dd'];rw[aaE (by omega)])
  have hR:∀i,i<=m->R' i=R i:=λi hi=>by simp only[R'];rw[aaE (by omega)]
  have hRm:R' (m+1)=R m++new:=by simp[R']
  have hDm:Dd' m=d:=by simp[Dd']
  refine⟨Dd',R',by rw[hR 0 (by omega)];exact h1,λi hi=>?_,?_⟩
  ·by_cases MZ:i=m
   ·subst MZ
    refine⟨x,new,hx,by rw[hRm,hR i (by omega)],?_⟩
    rw[yc i (by omega),hR i (by omega),hRm,hDm]
    exact g1
   ·obtain⟨x',new',q1,q2,q3⟩:=h2 i (by omega)
    refine⟨x',new',q1,by rw[hR (i+1) (by omega),hR i (by omega)];exact q2,?_⟩
    have:Dd' i=Dd i:=by simp only[Dd'];rw[aaE MZ]
    rw[yc i (by omega),hR i (by omega),hR (i+1) (by omega),this]
    exact q3
  ·simp only[mz]
   rw[yc m (by omega),hRm,hDm,U9]
   exact g2
theorem wB{al:List aS}{Dd:Nat->D}{env:Env}{t:Nat}:∀(i:Nat),(∀j,j<i->bz al j≠some t)->look (mz al Dd env i) t=look env t
 |0,_=>rfl
 | i + 1, h => by
  have h1:=h i (by omega)
  have ih:=wB (Dd:=Dd) (env:=env) i (λj hj=>h j (by omega))
  simp only[mz]
  cases hd:bz al i with
  |none=>exact ih
  | some s =>
   simp only[put,look]
   have:(s==t)=false:=by
    have:s≠t:=λe=>h1 (by rw[hd,e])
    simpa using this
   rw[this]
   exact ih
theorem wC{al:List aS}{Dd:Nat->D}{env:Env}{t k:Nat}(hk:bz al k=some t):∀(i:Nat),k<i->(∀j,j<i->j≠k->bz al j≠some t)->look (mz al Dd env i) t=some (Dd k)
 |0,h,_=>by omega
 | i + 1, h, hu => by
  by_cases hi:i=k
  ·subst hi
   simp[mz,hk,put,look]
  ·have ih:=wC (Dd:=Dd) (env:=env) hk i (by omega) (λj hj=>hu j (by omega))
   have h1:=hu i (by omega) hi
   simp only[mz]
   cases hd:bz al i with
   |none=>exact ih
   | some s =>
    simp only[put,look]
    have:(s==t)=false:=by
     have:s≠t:=λe=>h1 (by rw[hd,e])
     simpa using this
    rw[this]
    exact ih
def jU(ρ:Pl)(k:Nat):Pl:=λr=>if r<k then ρ r else none
theorem NE{ρ:Pl}{k k':Nat}(h:k<=k'):∀r L,jU ρ k r=some L->jU ρ k' r=some L:=by
 intro r L hr
 unfold jU at hr⊢
 split at hr
 ·rw[aaM (by omega)];exact hr
 ·cases hr
theorem kj{ρ:Pl}{k:Nat}:∀r L,jU ρ k r=some L->ρ r=some L:=by
 intro r L hr
 unfold jU at hr
 split at hr
 ·exact hr
 ·cases hr
def small(env:Env):List Nat->Env
 |[]=>[]
 |t::l=>match look env t with
  |some d=>(t,d)::small env l
  |none=>small env l
theorem p9 {env : Env} : ∀ {l : List Nat} {t : Nat}, t ∈ l -> look (small env l) t = look env t
 | s :: l, t, h => by
  simp only[small]
  by_cases hst:s=t
  ·subst hst
   cases hl:look env s with
   |some d=>simp[look]
   | none =>
    simp only
    by_cases hm:s∈l
    ·rw[p9 hm];exact hl
    ·have:∀(l:List Nat),s∉l->look (small env l) s=none:=by
      intro l
      induction l with
      |nil=>intro _;rfl
      | cons q l ih =>
       intro hq
       simp only[aaW,aeF]at hq
       simp only[small]
       cases hlq:look env q with
       |none=>exact ih hq.2
       |some d=>
        simp only[look]
        have:(q==s)=false:=by simpa using λe=>hq.1 (Eq.symm e)
        rw[this]
        exact ih hq.2
     exact this l hm
  ·have ht:t∈l:=by
    rcases aaW.1 h with h|h
    ·exact absurd h.symm hst
    ·exact h
   cases hl:look env s with
   |none=>exact p9 ht
   |some d=>
    simp only[look]
    have:(s==t)=false:=by simpa using hst
    rw[this]
    exact p9 ht
theorem yd{env:Env}:∀{l:List Nat} {t:Nat} {d:D},look (small env l) t=some d->t∈l/\look env t=some d
 |[],t,d,h=>by simp[small,look]at h
 | s :: l, t, d, h => by
  simp only[small]at h
  cases hl:look env s with
  |none=>
   rw[hl]at h
   obtain⟨h1,h2⟩:=yd h
   exact⟨by simp[h1],h2⟩
  | some x =>
   rw[hl]at h
   simp only[look]at h
   cases hb:(s==t)with
   |true=>
    have:s=t:=by simpa using hb
    subst this
    rw[hb]at h
    simp at h
    exact⟨by simp,by rw[hl,h]⟩
   |false=>
    rw[hb]at h
    obtain⟨h1,h2⟩:=yd (by simpa using h)
    exact⟨by simp[h1],h2⟩
theorem uu:∀{l:List X} {t:Nat},.tmp t∈l->t∈wm l
 | x :: l, t, h => by
  rcases aaW.1 h with h'|h'
  ·subst h';simp[wm]
  ·have ih:=uu h'
   cases x with
   |tmp s=>simp[wm,ih]
   |const _=>simpa[wm]using ih
   |aY _=>simpa[wm]using ih
theorem fL{R R' new:Rows}{r:Nat}(h:R'=R++new)(hr:r<R.length):live R' r=live R r:=by
 subst h
 unfold live
 rw[aaQ hr]
end Go.Am
namespace Go.Am
variable {C:aX} {P:Program} {n:Nat}
theorem wD{all:List Oper}:∀{l:List Oper} {al:List aS},wl P n all l=some al->al.length=l.length/\∀(i:Nat) (o:Oper) (x:aS),l[i]?=some o->al[i]?=some x->
  P4 n o.dst=true/\cOp P o.op=some x.op/\lQ all o.guard=some x.guard/\x.dst=o.dst
 |[],al,h=>by simp[wl]at h;subst h;simp
 |o::l,al,h=>by
  obtain⟨ao,g,r,h0,h1,h2,h3,rfl⟩:=Df h
  obtain⟨g1,g2⟩:=wD h3
  refine⟨by simp[g1],λi o' x hi hx=>?_⟩
  cases i with
  |zero=>simp at hi hx;subst hi;subst hx;exact⟨h0,h1,h2,rfl⟩
  |succ i=>exact g2 i o' x (by simpa using hi) (by simpa using hx)
theorem Step.to{ρ ρ' XO:Pl}{T T' Xg:Nat->Prop}{rows aa Gi:Rows}{w w' w'':World}(h:Step ρ T rows w ρ' T' aa w')(h':Step ρ' T' aa w' XO Xg Gi w''):Step ρ T rows w XO Xg Gi w'':=h.trans h'
theorem ex_wp(hN:∀f,C.dO f=none)(hC:aJ C P){ops:Array Oper}{i:Nat}{o:Oper}{x:aS}(ho:ops[i]?=some o)(hop:cOp P o.op=some x.op)(hgd:lQ ops.toList o.guard=some x.guard){env:Env}{rows aa:Rows}{d:D}{ρ:Pl}{T:Nat->Prop}{a:Act}{w:World}
  {Q':Exit->Act->World->Prop}{next:Act->World->Prop}(hs:eA n ρ T env rows a w)(hg:ei C w T)(hq:gz o.op=true)(hx:Ex C env rows x d aa)
  (hn:∀ρ' T' v w',eA n ρ' T' env aa a w'->Step ρ T rows w ρ' T' aa w'->VR ρ' w' T' d v->(QH ρ rows w w'/\∀b,T' b->T b\/w.heap.size<=b)->next (a.put o.dst v) w'):wpOp P ops Q' i next a w:=by
 have go:∀(h:dA C env rows x.op λd2 r2=>d2=d/\r2=aa),o.wp P a w next Q':=by
  intro h
  refine wA hs hg hC hop h ?_
  rintro d2 r2 ρ' T' v w' ⟨rfl,rfl⟩ gh hst hv hk
  exact hn ρ' T' v w' gh hst hv (hk hN hq)
 have skip:d= .cB []->aa=rows->next (a.put o.dst undef) w:=by
  rintro rfl rfl
  exact hn ρ T undef w hs (Step.refl _ _ _ _) ⟨#[],rfl,.nil⟩ ⟨λ_ _=> .inl rfl,λ_ h=> .inl h⟩
 unfold wpOp
 simp only[ho]
 cases Qn:o.guard with
 |none=>
  rw[Qn]at hgd
  simp[lQ]at hgd
  have hw:Region.wanted o (yielded ops a.tmps)=true:=by simp[Region.wanted,Qn]
  rw[aaM hw]
  refine .inl (go ?_)
  unfold Ex at hx
  rw[<-hgd]at hx
  exact hx
 | some jw =>
  obtain⟨j,want⟩:=jw
  rw[Qn]at hgd
  simp only[lQ]at hgd
  split at hgd
  ·rename_i oj hj
   split at hgd
   ·rename_i t ht
    have hgx:x.guard=some (t,want):=by simpa using hgd.symm
    have mJ:ops[j]?=some oj:=by simpa using hj
    unfold Ex at hx
    rw[hgx]at hx
    rcases hx with⟨b,Gl,qV,zY⟩|⟨Gl,qV,zY⟩
    ·have hb:=VR.ofRaw (hs.env t _ Gl)
     have yB:a.tmps[t]?=some (.bool b):=by
      unfold Array.getD at hb
      split at hb
      ·rename_i hlt
       rw[abx hlt]
       simpa using hb
      ·cases hb
     have hy:yielded ops a.tmps j=some b:=by simp[yielded,mJ,ht,yB]
     have hw:Region.wanted o (yielded ops a.tmps)=(b==want):=by
      simp only[Region.wanted,Qn,hy]
      cases b<;>cases want<;>rfl
     rw[hw]
     by_cases U7:b=want
     ·rw[aaM (by simp[U7])]
      exact .inl (go (qV U7))
     ·rw[aaE (by simpa using U7)]
      have Gr:b=!want:=by cases b<;>cases want<;>simp_all
      exact skip (zY Gr).1 (zY Gr).2
    ·obtain⟨vs,hvs,bN⟩:=hs.env t _ Gl
     have Ql:vs=#[]:=by
      have:=bN.len
      apply aca
      exact aaN (by simpa using this.symm)
     subst Ql
     have hy:yielded ops a.tmps j=none:=by
      simp only[yielded,mJ,abf,ht]
      unfold Array.getD at hvs
      split at hvs
      ·rename_i hlt
       rw[abx hlt]
       have:a.tmps[t]= .tuple #[]:=by simpa using hvs
       rw[this]
      ·rename_i hlt
       rw[acB (by omega)]
     have hw:Region.wanted o (yielded ops a.tmps)=false:=by
      simp only[Region.wanted,Qn,hy]
      rfl
     rw[aaE (by rw[hw];simp)]
     exact skip qV zY
   ·cases hgd
  ·cases hgd
theorem A6(hC:aJ C P){ops:Array Oper}{i:Nat}{o:Oper}{x:aS}(ho:ops[i]?=some o)(hd:P4 n o.dst=true)(hop:cOp P o.op=some x.op)(hgd:lQ ops.toList o.guard=some x.guard)(U9:x.dst=o.dst){env:Env}{rows:Rows}{ρ:Pl}{T:Nat->Prop}{a:Act}{w:World}
  {Q':Exit->Act->World->Prop}{next:Act->World->Prop}{l:List aS}{K:Env->Rows->Prop}(hs:eA n ρ T env rows a w)(hg:ei C w T)(h:dD C (x::l) env rows K)
  (hn:∀env' aa ρ' T' a' w',dD C l env' aa K->eA n ρ' T' env' aa a' w'->Step ρ T rows w ρ' T' aa w'->next a' w'):wpOp P ops Q' i next a w:=by
 have jP:=ya hd
 have go:∀(h:dA C env rows x.op λd rows=>dD C l (put o.dst d env) rows K),o.wp P a w next Q':=by
  intro h
  refine wA hs hg hC hop h ?_
  intro d aa ρ' T' v w' hk gh hst hv _
  exact hn _ aa ρ' T' _ w' hk (gh.put hv jP) hst
 have skip:∀(h:dD C l (put o.dst (.cB []) env) rows K),next (a.put o.dst undef) w:=by
  intro h
  exact hn _ rows ρ T _ w h (hs.put ⟨#[],rfl,.nil⟩ jP) (Step.refl _ _ _ _)
 unfold wpOp
 simp only[ho]
 obtain⟨dst,xo,g⟩:=x
 simp only at hop hgd U9
 subst U9
 cases Qn:o.guard with
 |none=>
  rw[Qn]at hgd
  simp[lQ]at hgd
  subst hgd
  have hw:Region.wanted o (yielded ops a.tmps)=true:=by simp[Region.wanted,Qn]
  rw[aaM hw]
  exact .inl (go h)
 | some jw =>
  obtain⟨j,want⟩:=jw
  rw[Qn]at hgd
  simp only[lQ]at hgd
  split at hgd
  ·rename_i oj hj
   split at hgd
   ·rename_i t ht
    cases hgd
    have mJ:ops[j]?=some oj:=by simpa using hj
    obtain⟨d,Gl,h⟩:=ak h
    have hv:=hs.env t d Gl
    split at h
    ·rename_i b
     have hb:=VR.ofRaw hv
     have yB:a.tmps[t]?=some (.bool b):=by
      unfold Array.getD at hb
      split at hb
      ·rename_i hlt
       rw[abx hlt]
       simpa using hb
      ·cases hb
     have hy:yielded ops a.tmps j=some b:=by simp[yielded,mJ,ht,yB]
     have hw:Region.wanted o (yielded ops a.tmps)=(b==want):=by
      simp only[Region.wanted,Qn,hy]
      cases b<;>cases want<;>rfl
     rw[hw]
     by_cases U7:b=want
     ·rw[aaM (by simp[U7])]
      exact .inl (go (h.1 U7))
     ·rw[aaE (by simpa using U7)]
      exact skip (h.2 (by cases b<;>cases want<;>simp_all))
    ·obtain⟨vs,hvs,bN⟩:=hv
     have Ql:vs=#[]:=by
      have:=bN.len
      apply aca
      exact aaN (by simpa using this.symm)
     subst Ql
     have hy:yielded ops a.tmps j=none:=by
      simp only[yielded,mJ,abf,ht]
      unfold Array.getD at hvs
      split at hvs
      ·rename_i hlt
       rw[abx hlt]
       have:a.tmps[t]= .tuple #[]:=by simpa using hvs
       rw[this]
      ·rename_i hlt
       rw[acB (by omega)]
     have hw:Region.wanted o (yielded ops a.tmps)=false:=by
      simp only[Region.wanted,Qn,hy]
      rfl
     rw[aaE (by rw[hw];simp)]
     exact skip h
    ·exact h.elim
   ·cases hgd
  ·cases hgd
def done(L:Array Bool)(j:Nat):Prop:=L.getD j false=true
theorem Yt{ops:Array Oper}{i j:Nat}{o:Oper}(ho:ops[i]?=some o)(h:v7 ops.toList i j=true):∃e∈o.after,Region.binds .any e=true/\e.on=j:=by
 unfold v7 at h
 have:ops.toList[i]?=some o:=by simpa using ho
 rw[this]at h
 obtain⟨e,he,hb⟩:=acu.1 h
 simp only[aav,acs]at hb
 exact⟨e,by simpa using he,hb⟩
theorem jf{ops:Array Oper}{L:Array Bool}{i:Nat}(h:i∈Region.ready .any ops L):(∃o,ops[i]?=some o)/\L.getD i true=false/\∀j,v7 ops.toList i j=true->done L j:=by
 obtain⟨h1,o,ho,h3⟩:=mem_ready.1 h
 refine⟨⟨o,ho⟩,h1,λj hj=>?_⟩
 obtain⟨e,he,hb,rfl⟩:=Yt ho hj
 exact h3 e he hb
theorem wE{ops:Array Oper}{L:Array Bool}{i:Nat}(hi:i<ops.size)(h1:L.getD i true=false)(h:∀j,v7 ops.toList i j=true->done L j):i∈Region.ready .any ops L:=by
 refine mem_ready.2 ⟨h1,ops[i],abx hi,λe he hb=>?_⟩
 refine h e.on ?_
 unfold v7
 have:ops.toList[i]?=some ops[i]:=by simp[hi]
 rw[this]
 exact acu.2 ⟨e,by simpa using he,by simp[hb]⟩
def jC(L:Array Bool)(k:Nat):Nat:=((List.range k).filter λj=>!L.getD j false).length
theorem jV{L:Array Bool}{i k:Nat}(hi:i<k)(hL:i<L.size)(h:L.getD i true=false):jC (L.setIfInBounds i true) k<jC L k:=by
 unfold jC
 have hf:L.getD i false=false:=by
  simp only[Array.getD,hL,dif_pos]at h⊢
  exact h
 have key : ∀ (l : List Nat), i ∈ l -> ((l.filter λj => !(L.setIfInBounds i true).getD j false).length < (l.filter λj => !L.getD j false).length) \/ ¬ l.Nodup := by
  intro l
  induction l with
  |nil=>intro h;cases h
  | cons x l ih =>
   intro hm
   by_cases hx:x=i
   ·subst hx
    by_cases vN:x∈l
    ·right;simp[vN]
    ·left
     have h1:(L.setIfInBounds x true).getD x false=true:=by simp[Array.getD,hL]
     have h2:∀j∈l,(!(L.setIfInBounds x true).getD j false)=!L.getD j false:=by
      intro j hj
      have:x≠j:=λe=>vN (e▸hj)
      rw[getD_set_ne false this]
     rw[adi,adi]
     simp only[h1,hf,abn,abC,ab6,adn,ab1]
     rw[List.filter_congr h2]
     simp
   ·have vN:i∈l:=by
     rcases aaW.1 hm with h|h
     ·exact absurd h.symm hx
     ·exact h
    rcases ih vN with h|h
    ·left
     have h1:(L.setIfInBounds i true).getD x false=L.getD x false:=getD_set_ne false (λe=>hx e.symm)
     rw[adi,adi,h1]
     cases hc:(!L.getD x false)
     ·simpa only[adn,ab1]using h
     ·simp only[ab6,aa0];omega
    ·right;intro hn;exact h (List.nodup_cons.1 hn).2
 rcases key (List.range k) (by simpa using hi)with h|h
 ·exact h
 ·exact absurd List.nodup_range h
theorem rz{L:Array Bool}{i:Nat}(h:L.getD i true=false):¬done L i/\i<L.size:=by
 unfold done
 by_cases hh:i<L.size
 ·refine⟨?_,hh⟩
  simp only[Array.getD,hh,dif_pos]at h⊢
  rw[h];simp
 ·simp[Array.getD,hh]at h
theorem mO{L:Array Bool}{i:Nat}(h:¬done L i)(hi:i<L.size):L.getD i true=false:=by
 unfold done at h
 simp only[Array.getD,hi,dif_pos]at h⊢
 simpa using h
theorem bJ{L:Array Bool}{i j:Nat}(hi:i<L.size):done (L.setIfInBounds i true) j↔done L j\/j=i:=by
 unfold done
 by_cases h:i=j
 ·subst h
  simp[Array.getD,hi]
 ·rw[getD_set_ne false h]
  constructor
  ·exact .inl
  ·rintro(h2|h2)
   ·exact h2
   ·exact absurd h2.symm h
theorem GM{ops:Array Oper}{al:List aS}{m i:Nat}{L:Array Bool}(hd:DOK ops.toList al m)(jF:∀i,done L i->∀j,v7 ops.toList i j=true->done L j)(hi:i<ops.size)(hm:m<=i)(hr:∀j,v7 ops.toList i j=true->done L j):
  ∀j,j<i->done L j:=by
 have key:∀(k j:Nat),i-j<=k->j<i->done L j:=by
  intro k
  induction k with
  |zero=>intro j h1 h2;omega
  |succ k ih=>
   intro j h1 h2
   rcases hd.tail i (by simpa using hi) hm j h2 with h|⟨q,Va,Qo,hq3⟩
   ·exact hr j h
   ·exact jF q (ih q (by omega) Va) j hq3
 exact λj hj=>key i j (by omega) hj
structure I4 (C:aX) (n:Nat) (al:List aS) (m:Nat) (env:Env) (Dd:Nat->D) (R:Nat->Rows) (jS:Pl) (T0:Nat->Prop) (w0:World) (L:Array Bool) (ρ:Pl) (T:Nat->Prop) (a:Act) (w:World):Prop where
 size:a.tmps.size=n
 defers:a.defers=[]
 vL:∀b,T b->b<w.heap.size
 aY:ei C w T
 vM:∀r,(R m).length<=r->ρ r=none
 rows:∀j,j<=m->jB (jU ρ (R j).length) (R j) w T
 hole:∀j,j<m->¬done L j->∀r,(R j).length<=r->r<(R (j+1)).length->ρ r=none
 base:∀t d,look env t=some d->(∀j,j<m->done L j->bz al j≠some t)->VR (jU ρ (R 0).length) w T d (a.tmps.getD t undef)
 out:∀j,j<m->done L j->∀t,bz al j=some t->VR (jU ρ (R (j+1)).length) w T (Dd j) (a.tmps.getD t undef)
 step:Step jS T0 (R 0) w0 ρ T (R m) w
theorem Eo{a:Act}{dst:Option Nat}{v:Value}{t:Nat}(h:dst≠some t):(a.put dst v).tmps.getD t undef=a.tmps.getD t undef:=by
 cases dst with
 |none=>rfl
 |some d=>
  have hne:d≠t:=λe=>h (by rw[e])
  simp only[Act.put,ad6]
  rw[Array.getElem?_setIfInBounds_ne hne]
theorem NF{a:Act}{v:Value}{t:Nat}(h:t<a.tmps.size):(a.put (some t) v).tmps.getD t undef=v:=by
 simp[Act.put,Array.getD,h]
theorem JT{R:Nat->Rows}{m:Nat}(hR:∀i,i<m->∃new,R (i+1)=R i++new):∀(k i:Nat),i+k<=m->∃new,R (i+k)=R i++new
 |0,i,_=>⟨[],by simp⟩
 |k+1,i,h=>by
  obtain⟨new,h1⟩:=JT hR k i (by omega)
  obtain⟨new2,h2⟩:=hR (i+k) (by omega)
  exact⟨new++new2,by rw[<-acN,h2,h1,aaP]⟩
theorem Vb{R:Nat->Rows}{m i j:Nat}(hR:∀i,i<m->∃new,R (i+1)=R i++new)(UP:i<=j)(hj:j<=m):∃new,R j=R i++new:=by
 obtain⟨new,h⟩:=JT hR (j-i) i (by omega)
 exact⟨new,by rwa [show i+(j-i)=j by omega]at h⟩
end Go.Am

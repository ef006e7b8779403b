import Derived.Test.YtgcejocgnfkciaaGreatDoorKc6
import Derived.Orders
namespace Go.Am
set_option linter.unusedVariables false
set_option linter.unusedSimpArgs false
variable {C:be} {P:Program} {n:Nat} {ρ:Pl} {T:Nat→Prop} {env:Env} {rows:Rows} {a:Act} {w:World}
theorem qL(k:Nat):∀(l:Rows),(ae k l).length=l.length
 |[]=>rfl
 |some ⟨s,els⟩::l=>by simp[ae,qL k l]
 |none::l=>by simp[ae,qL k l]
theorem yb(k:Nat):∀(l:Rows) (r:Nat) (row:Row),live (ae k l) r=some row→∃row',live l r=some row'∧row=⟨row'.sh,bif row'.sh.pure then row'.els else bh k row'.els⟩
 |[],r,row,h=>by simp[ae,live]at h
 |some ⟨s,els⟩::l,0,row,h=>by
  simp[ae,live]at h
  exact⟨⟨s,els⟩,by simp[live],h.symm⟩
 |some ⟨s,els⟩::l,r+1,row,h=>by
  have:=yb k l r row (by simpa[ae,live]using h)
  simpa[live]using this
 |none::l,0,row,h=>by simp[ae,live]at h
 |none::l,r+1,row,h=>by
  have:=yb k l r row (by simpa[ae,live]using h)
  simpa[live]using this
theorem HQ(hs:dO n ρ T env rows a w){ρ':Pl}{T0 T' US:Nat→Prop}{ab:Rows}{w':World}(hst:Step eT T0 [] w ρ' T' ab w')(kq:∀r,ab.length≤r→ρ' r=none)
  (hdist:∀r r' row row' L L',live ab r=some row→live ab r'=some row'→ρ' r=some L→ρ' r'=some L'→r≠r'→L.b≠L'.b)
  (t1:∀b,T b→US b)(t2:∀b,US b→T b∨w.heap.size≤b)(t3:∀b,US b→b<w'.heap.size)
  (iB:∀r row L,live ab r=some row→ρ' r=some L→lH (gu rows.length ρ ρ') ⟨row.sh,bif row.sh.pure then row.els else bh rows.length row.els⟩ L w' US):
  dO n (gu rows.length ρ ρ') US env (rows++ae rows.length ab) a w'∧Step ρ T rows w (gu rows.length ρ ρ') US (rows++ae rows.length ab) w':=by
 have hkeep:∀b,b<w.heap.size→w'.heap[b]?=w.heap[b]?:=fun b hb=>hst.keep b hb (by intro r row L hl;simp[live]at hl)
 have hTw:∀b,T b→w'.heap[b]?=w.heap[b]?:=fun b hb=>hkeep b (hs.uo b hb)
 have sO:∀r L,ρ r=some L→gu rows.length ρ ρ' r=some L:=by
  intro r L hL
  have:r<rows.length:=by
   rcases Nat.lt_or_ge r rows.length with h|h
   ·exact h
   ·rw[hs.ur r h]at hL;cases hL
  simp[gu,this,hL]
 have hnb:∀r row L,live ab r=some row→ρ' r=some L→w.heap.size≤L.b:=by
  intro r row L h1 h2
  rcases hst.fresh r row L h1 h2 with⟨r0,oR,L0,h3,_⟩|h3
  ·simp[live]at h3
  ·exact h3
 have xV:∀r row L,live (rows++ae rows.length ab) r=some row→gu rows.length ρ ρ' r=some L→
   (r<rows.length∧live rows r=some row∧ρ r=some L)∨(rows.length≤r∧∃row',live ab (r-rows.length)=some row'∧ρ' (r-rows.length)=some L∧row=⟨row'.sh,bif row'.sh.pure then row'.els else bh rows.length row'.els⟩):=by
  intro r row L h1 h2
  by_cases hr:r<rows.length
  ·left
   refine⟨hr,?_,by simpa[gu,hr]using h2⟩
   unfold live at h1⊢
   rwa [List.getElem?_append_left hr]at h1
  ·right
   have ZY:live (ae rows.length ab) (r-rows.length)=some row:=by
    unfold live at h1⊢
    rwa [List.getElem?_append_right (by omega)]at h1
   obtain⟨row',h3,h4⟩:=yb _ _ _ _ ZY
   exact⟨by omega,row',h3,by simpa[gu,hr]using h2,h4⟩
 refine⟨⟨⟨?_,?_⟩,hs.env.mono sO hTw t1,hs.size,t3,?_,hs.defers⟩,⟨sO,t1,fun b hb=>(t2 b hb).imp_right .inl,hst.size,fun b hb _=>hkeep b hb,?_,hst.os,hst.tape,hst.output,by simp,fun r hr=>by simp[gu,hr]⟩⟩
 ·intro r row L h1 h2
  rcases xV r row L h1 h2 with⟨h3,h4,h5⟩|⟨h3,row',h4,h5,rfl⟩
  ·have hr:=hs.bD.row r row L h4 h5
   refine hr.mono sO hTw t1 (hkeep _ hr.lt) (fun h=>?_)
   rcases t2 _ h with h|h
   ·exact hr.mj h
   ·have:=hr.lt;omega
  ·exact iB _ row' L h4 h5
 ·intro r r' row row' L L' h1 h2 h3 h4 hne
  rcases xV r row L h1 h3 with⟨g1,g2,g3⟩|⟨g1,q1,g2,g3,_⟩
  ·rcases xV r' row' L' h2 h4 with⟨k1,k2,k3⟩|⟨k1,q2,k2,k3,_⟩
   ·exact hs.bD.jg r r' row row' L L' g2 k2 g3 k3 hne
   ·have:=(hs.bD.row r row L g2 g3).lt
    have:=hnb _ _ _ k2 k3
    omega
  ·rcases xV r' row' L' h2 h4 with⟨k1,k2,k3⟩|⟨k1,q2,k2,k3,_⟩
   ·have:=(hs.bD.row r' row' L' k2 k3).lt
    have:=hnb _ _ _ g2 g3
    omega
   ·exact hdist _ _ q1 q2 L L' g2 k2 g3 k3 (by omega)
 ·intro r hr
  rw[List.length_append,qL]at hr
  simp only[gu,show¬r<rows.length by omega,if_false]
  exact kq _ (by omega)
 ·intro r row L h1 h2
  rcases xV r row L h1 h2 with⟨h3,h4,h5⟩|⟨h3,row',h4,h5,rfl⟩
  ·exact .inl ⟨r,row,L,h4,h5,rfl⟩
  ·exact .inr (hnb _ _ _ h4 h5)
theorem oT:∀{l:Rows} {r:Nat} {row:Row},aS l=true→live l r=some row→row.sh.pure=true
 |[],r,row,_,h=>by simp[live]at h
 |some ⟨s,els⟩::l,0,row,hn,h=>by
  simp[live]at h
  subst h
  simp[aS]at hn
  exact hn.1
 |some ⟨s,els⟩::l,r+1,row,hn,h=>by
  simp[aS]at hn
  exact oT (r:=r) hn.2 (by simpa[live]using h)
 |none::l,0,row,hn,h=>by simp[live]at h
 |none::l,r+1,row,hn,h=>oT (l:=l) (r:=r) (by simpa[aS]using hn) (by simpa[live]using h)
def V4(C:be)(n:Nat)(ρ:Pl)(T:Nat→Prop)(env:Env)(rows:Rows)(a:Act)(w:World)(o:Oper)(k:D→Rows→Prop)(next:Act→World→Prop):Prop:=
 ∀d ab ρ' T' v w',k d ab→dO n ρ' T' env ab a w'→Step ρ T rows w ρ' T' ab w'→VR ρ' w' T' d v→((∀f,C.fU f=none)→fJ o.op=true→QH ρ rows w w'∧∀b,T' b→T b∨w.heap.size≤b)→next (a.put o.dst v) w'
theorem bU.wp{o:Oper}{k:D→Rows→Prop}{next:Act→World→Prop}{Q:Exit→Act→World→Prop}(h:bU P n o ρ T env rows a w k)(hc:V4 C n ρ T env rows a w o k next):o.wp P a w next Q:=by
 obtain⟨d,ab,ρ',T',v,w',h1,h2,h3,h4,h5,h6⟩:=h
 unfold Oper.wp
 rcases h5 with h5|⟨h5,rfl⟩
 ·rw[h5];exact hc d ab ρ' T' v w' h1 h2 h3 h4 (fun _=>h6)
 ·rw[h5];exact hc d ab ρ' T' undef w' h1 h2 h3 h4 (fun _=>h6)
theorem Sq(hr:iV ρ rows w T){k:Nat}:∀{ds ds':List D} {vs:List Value},cW (view rows k) ds=some ds'→aY (VR ρ w T) ds vs→aY (VR eT w (NQ ρ T rows)) ds' vs:=by
 intro ds ds' vs h hv
 obtain⟨g1,g2⟩:=jk h
 refine⟨by rw[g1,hv.len],fun i x y hx hy=>?_⟩
 have hi:i<ds.length:=by have:=cN hx;omega
 have hd:=List.getElem?_eq_getElem hi
 exact Jb hr (g2 i _ x hd hx) (hv.at_ i _ y hd hy)
theorem EV(hs:dO n ρ T env rows a w)(Ln:∀g d,C.aZ g=some d→LR eT w T (.b5 d) (.pointer (some ⟨g,0,none⟩)))(hC:aI C P){o:Oper}{k:D→Rows→Prop}{next:Act→World→Prop}{Q:Exit→Act→World→Prop}
  {f:FuncId}{ds:List D}{vs:Array Value}(hvl:aY (VR ρ w T) ds vs.toList)(hrun:(execOp a.eval o).run P w= .ok (.enter f vs) w)(k2:yY C rows f ds k)(hk:V4 C n ρ T env rows a w o k next):o.wp P a w next Q:=by
 unfold Oper.wp
 rw[hrun,Oper.upon_enter]
 unfold yY at k2
 cases hA:C.fn f with
 | none =>
  rw[hA]at k2
  obtain⟨A,U1,k3⟩:=ah k2
  have hold:∀{ρ' T' ab w'},Step ρ T rows w ρ' T' ab w'→∀b,T b→w'.heap[b]?=w.heap[b]?:=fun hst b hb=>
   hst.keep b (hs.uo b hb) (fun r row L g1 g2 e=>(hs.bD.row r row L g1 g2).mj (e▸hb))
  unfold be.KX at U1
  cases hr:C.fU f with
  |some A'=>
   rw[hr]at U1
   cases U1
   refine(hC.2.1 f A hr ds rows k k3 ρ w T vs hs.bD hs.ur hs.uo hvl Ln).mono ?_
   rintro e w' ⟨v,d,ab,ρ',T',rfl,Dm,hrows,kq,wN,hst,UY⟩
   exact hk d ab ρ' T' v w' Dm ⟨hrows,hs.env.mono hst.pl (hold hst) hst.tt,hs.size,wN,kq,hs.defers⟩ hst UY (fun hn=>by rw[hn]at hr;cases hr)
  | none =>
   rw[hr]at U1
   cases hq:C.Vk f with
   |none=>rw[hq]at U1;cases U1
   |some q=>
    rw[hq]at U1
    cases U1
    refine(hC.2.2 f q hq ds rows k k3 ρ w T vs hs.bD hs.ur hs.uo hvl Ln).mono ?_
    rintro e w' ⟨v,d,ab,ρ',T',rfl,Dm,hrows,kq,wN,hst,UY,hqh,htn⟩
    exact hk d ab ρ' T' v w' Dm ⟨hrows,hs.env.mono hst.pl (hold hst) hst.tt,hs.size,wN,kq,hs.defers⟩ hst UY (fun _ _=>⟨hqh,htn⟩)
 |some A=>
 rw[hA]at k2
 simp only at k2
 have hM:=hC.1 f A hA
 cases hh:aN ds with
 | true =>
  obtain⟨ds',hview,hA'⟩:=ah (k2.1 hh)
  have hkeep:∀{ρ' T' ab w'} {T0:Nat→Prop},Step eT T0 [] w ρ' T' ab w'→∀b,b<w.heap.size→w'.heap[b]?=w.heap[b]?:=fun hst b hb=>hst.keep b hb (by intro r row L hl;simp[live]at hl)
  have hargs:=Sq hs.bD hview hvl
  refine(hM ds' [] (fun d ab=>(bZ d&&aS ab)=true∧k (shift rows.length d) (rows++ae rows.length ab)) hA' eT w (NQ ρ T rows) _ ⟨by intro r row L hl;simp[live]at hl,by intro r r' row row' L L' hl;simp[live]at hl⟩ (fun _ _=>rfl) ?_ hargs ?_).mono ?_
  ·rintro b (h|⟨r,row,L,g1,g2,rfl⟩)
   ·exact hs.uo b h
   ·exact(hs.bD.row r row L g1 g2).lt
  ·intro g d hd
   exact(Ln g d hd).mono (fun _ _ h=>h) (fun _ _=>rfl) (fun b hb=> .inl hb)
  ·rintro e w' ⟨v,d,ab,ρ',T',rfl,⟨hno,Dm⟩,hrows,kq,wN,hst,UY⟩
   simp only[Bool.and_eq_true]at hno
   have iB:∀r row L,live ab r=some row→ρ' r=some L→lH (gu rows.length ρ ρ') ⟨row.sh,bif row.sh.pure then row.els else bh rows.length row.els⟩ L w' T:=by
    intro r row L g1 g2
    have hr:=hrows.row r row L g1 g2
    have hp:=oT hno.2 g1
    rw[hp]
    refine⟨hr.sh,fun hT=>?_,hr.els,fun hm=>?_,hr.oQ⟩
    rotate_left
    ·obtain⟨cur,t,q1,q2,q3,q4⟩:=hr.cells hm
     exact⟨cur,t,q1,q2,q3,q4.ofRaw (jh hr.els hp)⟩
    rcases hst.fresh r row L g1 g2 with⟨r0,oR,L0,h3,_⟩|h3
    ·simp[live]at h3
    ·have:=hs.uo _ hT;omega
   obtain⟨g1,g2⟩:=HQ hs hst kq hrows.jg (fun _ h=>h) (fun _ h=> .inl h) (fun b hb=>Nat.lt_of_lt_of_le (hs.uo b hb) hst.size) iB
   refine hk _ _ _ _ v w' Dm g1 g2 ?_ (fun _ _=>⟨fun b hb=> .inl (hkeep hst b hb),fun _ h=> .inl h⟩)
   exact((UY.bZ (T':=T) (w':=w') hno.1).shift rows.length ρ)
 | false =>
  have hA':=k2.2 hh
  have hkeep:∀{ρ' T' ab w'} {T0:Nat→Prop},Step eT T0 [] w ρ' T' ab w'→∀b,b<w.heap.size→w'.heap[b]?=w.heap[b]?:=fun hst b hb=>hst.keep b hb (by intro r row L hl;simp[live]at hl)
  have hargs:aY (VR eT w T) ds vs.toList:=⟨hvl.len,fun i x y hx hy=>(hvl.at_ i x y hx hy).closed (eI hh x (bN hx))⟩
  refine(hM ds [] (fun d ab=>k (shift rows.length d) (rows++ae rows.length ab)) hA' eT w T _ ⟨by intro r row L hl;simp[live]at hl,by intro r r' row row' L L' hl;simp[live]at hl⟩ (fun _ _=>rfl) hs.uo hargs Ln).mono ?_
  rintro e w' ⟨v,d,ab,ρ',T',rfl,Dm,hrows,kq,wN,hst,UY⟩
  have iB:∀r row L,live ab r=some row→ρ' r=some L→lH (gu rows.length ρ ρ') ⟨row.sh,bif row.sh.pure then row.els else bh rows.length row.els⟩ L w' T':=by
   intro r row L g1 g2
   have hr:=hrows.row r row L g1 g2
   cases hp:row.sh.pure with
   |true=>
    refine⟨hr.sh,hr.mj,hr.els,fun hm=>?_,hr.oQ⟩
    obtain⟨cur,t,q1,q2,q3,q4⟩:=hr.cells hm
    exact⟨cur,t,q1,q2,q3,q4.ofRaw (jh hr.els hp)⟩
   | false =>
    simp only[cond_false]
    obtain⟨z1,z2⟩:=Bb (k:=rows.length) hr.els
    refine⟨hr.sh,hr.mj,z1,fun hm=>?_,fun hm=>?_⟩
    ·obtain⟨cur,t,q1,q2,q3,q4⟩:=hr.cells hm
     have q5:=q4.shift rows.length ρ
     have zl:(au (bh rows.length row.els)).length=(au row.els).length:=by rw[z2,List.length_map]
     exact⟨cur,t,q1,q2,by rw[zl];exact q3,by simp only[zl];rw[z2];exact q5⟩
    ·obtain⟨es,clock,h1,h2⟩:=hr.oQ hm
     rw[h2.pure]at hp
     cases hp
  obtain⟨g1,g2⟩:=HQ hs hst kq hrows.jg hst.tt hst.tnew0 wN iB
  exact hk _ _ _ _ v w' Dm g1 g2 (UY.shift rows.length ρ) (fun _ _=>⟨fun b hb=> .inl (hkeep hst b hb),hst.tnew0⟩)
theorem Bd{f:FuncId}{fn:Func}{o:Oper}{c:Call}(ho:o.op= .call c)(hf:P.funcs[f]?=some fn)(hb:fn.body.isSome=true)(hn:(fn.name != "runtime.NumGoroutine")=true)
  {caps:Array Value}(hc:(c.callee= .value (.func f)∧caps=#[])∨∃t,c.callee= .value (.tmp t)∧a.eval (.tmp t)= .func (.func f) #[] caps):(execOp a.eval o).run P w= .ok (.enter f (c.args.map a.eval++caps)) w:=by
 have NZ:¬fn.name= "runtime.NumGoroutine" :=by simpa using hn
 cases hq:fn.body with
 |none=>simp[hq]at hb
 |some b=>
  rcases hc with⟨hc,rfl⟩|⟨t,hc,ht⟩
  ·simp[execOp,ho,resolve,hc,Act.eval,Deferred.ofValue,invoke,callFunc,hf,NZ,hq]
  ·simp[execOp,ho,resolve,hc,ht,Deferred.ofValue,invoke,callFunc,hf,NZ,hq]
theorem op_call(hs:dO n ρ T env rows a w)(hG:rj C ρ w T)(Ln:∀g d,C.aZ g=some d→LR eT w T (.b5 d) (.pointer (some ⟨g,0,none⟩)))(hC:aI C P){o:Oper}{k:D→Rows→Prop}{next:Act→World→Prop}{Q:Exit→Act→World→Prop}
  {c:Call}{f:FuncId}{fn:Func}{l':List X}(ho:o.op= .call c)(hc:c.callee= .value (.func f))(hf:P.funcs[f]?=some fn)(hb:fn.body.isSome=true)(hn:(fn.name != "runtime.NumGoroutine")=true)
  (h1:Vo c.args.toList=some l')(h:df C env rows (.call f l') k)(hk:V4 C n ρ T env rows a w o k next):o.wp P a w next Q:=by
 obtain⟨ds,hds,k2⟩:=ah h
 have hv:=rn hs hG h1 hds
 exact EV hs Ln hC (by simpa using hv) (Bd ho hf hb hn (.inl ⟨hc,rfl⟩)) k2 hk
theorem EW{f:Nat}:∀{l:List Nat},IY f l=true→f∈l
 |[],h=>by cases h
 | x :: l, h => by
  unfold IY at h
  cases hb:(x==f)with
  |true=>
   have:x=f:=by simpa using hb
   subst this;exact List.mem_cons_self ..
  |false=>rw[hb]at h;exact List.mem_cons_of_mem _ (EW h)
theorem HR{c:Call}{f:Nat}(h:f∈Qb P c):∃fn,P.funcs[f]?=some fn∧fn.body.isSome=true∧(fn.name != "runtime.NumGoroutine")=true:=by
 unfold Qb at h
 have h2:=(List.mem_filter.1 h).2
 split at h2
 ·rename_i fn hf
  simp only[Bool.and_eq_true]at h2
  exact⟨fn,hf,h2.1.2,h2.2⟩
 ·cases h2
theorem V5(hs:dO n ρ T env rows a w)(hG:rj C ρ w T)(Ln:∀g d,C.aZ g=some d→LR eT w T (.b5 d) (.pointer (some ⟨g,0,none⟩)))(hC:aI C P){o:Oper}{k:D→Rows→Prop}{next:Act→World→Prop}{Q:Exit→Act→World→Prop}
  {c:Call}{t:Nat}{l':List X}(ho:o.op= .call c)(hc:c.callee= .value (.tmp t))(h1:Vo c.args.toList=some l')(h:df C env rows (.oK (Qb P c) (.tmp t) l') k)(hk:V4 C n ρ T env rows a w o k next):o.wp P a w next Q:=by
 obtain⟨d,hd,h2⟩:=ah h
 have hv0:=bI (x:= .tmp t) rfl hd hs hG
 split at h2
 ·rename_i f c1 c2
  obtain⟨rfl,rfl,hf,h3⟩:=h2
  obtain⟨ds,hds,k2⟩:=ah h3
  have hv:=rn hs hG h1 hds
  obtain⟨fn,g1,g2,g3⟩:=HR (EW hf)
  exact EV hs Ln hC (by simpa using hv) (Bd ho g1 g2 g3 (.inr ⟨t,hc,hv0.ofRaw⟩)) k2 hk
 ·rename_i f s r p
  obtain⟨hf,h3⟩:=h2
  obtain⟨ds,hds,k2⟩:=ah h3
  have hv:=rn hs hG h1 hds
  obtain⟨fn,g1,g2,g3⟩:=HR (EW hf)
  have kU:LR ρ w T (.A0 f s r p) _:=hv0
  generalize hx:a.eval (.tmp t)=v at kU
  cases kU with
  |A0 _ _ _ _ L hL hp=>exact EV hs Ln hC (vs:=c.args.map a.eval++#[.pointer (some ⟨L.b,L.off p,none⟩)]) (by simpa using hv.append (.single (VR.bG (.ptr s r p L hL hp)))) (Bd ho g1 g2 g3 (.inr ⟨t,hc,hx⟩)) k2 hk
 ·exact h2.elim
theorem op_lena(hs:dO n ρ T env rows a w){o:Oper}{k:D→Rows→Prop}{c:Call}{x:Operand}{t e:TypeId}{m:Nat}{ts:List TypeId}(ho:o.op= .call c)(hc:c.callee= .builtin .len)(ha:c.args.toList=[x])
  (hts:c.argTypes.toList=t::ts)(hu:P.underlying t=some (.array m e))(h:df C env rows (.mv (.const (.int .i64 m))) k):bU P n o ρ T env rows a w k:=by
 have hk:k (.raw (.int .i64 m)) rows:=h
 have hargs:c.args=#[x]:=by apply Array.ext';simpa using ha
 have VJ:c.argTypes[0]?=some t:=by
  have:c.argTypes.toList[0]?=some t:=by rw[hts];rfl
  simpa using this
 refine .here hs hk (VR.raw rfl) ?_
 rw[gB ho hc]
 simp[builtin,Builtin.len_,hargs,VJ,run_underlying hu,goInt]
theorem uY(hs:dO n ρ T env rows a w)(Ln:∀g d,C.aZ g=some d→LR eT w T (.b5 d) (.pointer (some ⟨g,0,none⟩)))(hC:aI C P){o:Oper}{ao:mi}{k:D→Rows→Prop}{next:Act→World→Prop}{Q:Exit→Act→World→Prop}
  (hc:ZV P o.op=some ao)(h:df C env rows ao k)(hk:V4 C n ρ T env rows a w o k next):o.wp P a w next Q:=by
 unfold ZV at hc
 split at hc
 case h_2=>cases hc;exact h.elim
 rename_i a0 hc0
 cases hc
 replace hc:=hc0
 clear hc0
 have hG:rj C ρ w T:=fun g d hd=>(Ln g d hd).mono (by intro r L h;cases h) (fun _ _=>rfl) (fun _ h=>h)
 cases hop:o.op with
 |move x=>
  rw[hop]at hc
  obtain⟨x',h1,h2⟩:=aD hc
  cases h2
  exact(op_mv hs hG (.inl hop) h1 h).wp hk
 |assign x=>
  rw[hop]at hc
  obtain⟨x',h1,h2⟩:=aD hc
  cases h2
  exact(op_mv hs hG (.inr hop) h1 h).wp hk
 |pick x y z=>
  rw[hop]at hc
  obtain⟨x',h1,hc⟩:=aD hc
  obtain⟨y',h2,hc⟩:=aD hc
  obtain⟨z',h3,hc⟩:=aD hc
  cases hc
  exact(op_pick hs hG hop h1 h2 h3 h).wp hk
 |alloc t=>
  rw[hop]at hc
  obtain⟨s,h1,hc⟩:=aD hc
  obtain⟨z,h2,hc⟩:=aD hc
  obtain⟨_,hc⟩:=cx hc
  cases hc
  exact(VN hs hop h1 h2 h).wp hk
 |box t x=>
  rw[hop]at hc
  obtain⟨s,h1,hc⟩:=aD hc
  obtain⟨x',h2,hc⟩:=aD hc
  cases hc
  exact(op_box hs hG hop h2 h).wp hk
 | build t parts =>
  rw[hop]at hc
  obtain⟨s,h1,hc⟩:=aD hc
  obtain⟨z,h2,hc⟩:=aD hc
  obtain⟨ps,h3,hc⟩:=aD hc
  split at hc
  ·rename_i fs hu
   obtain⟨h4,hc⟩:=cx hc
   cases hc
   simp only[Bool.and_eq_true,beq_iff_eq]at h4
   obtain⟨⟨⟨⟨_,h5⟩,h6⟩,h7⟩,h8⟩:=h4
   exact(Si hs hG hop h1 h2 hu h3 h5 h6 h7 h8 h).wp hk
  ·rename_i m e hu
   obtain⟨se,h4,hc⟩:=aD hc
   obtain⟨h5,hc⟩:=cx hc
   cases hc
   simp only[Bool.and_eq_true,beq_iff_eq]at h5
   exact(Sj hs hG hop h1 h2 hu h3 h5.1.2 h4 h5.2 h).wp hk
  ·cases hc
 | buildSlice t m parts =>
  rw[hop]at hc
  obtain⟨e,h1,hc⟩:=aD hc
  obtain⟨s,h2,hc⟩:=aD hc
  obtain⟨z,h3,hc⟩:=aD hc
  obtain⟨ps,h4,hc⟩:=aD hc
  obtain⟨h5,hc⟩:=cx hc
  cases hc
  simp only[Bool.and_eq_true]at h5
  have hu:P.underlying t=some (.slice e):=by
   unfold xf at h1
   split at h1
   ·cases h1;assumption
   ·cases h1
  exact(Sk hs hG hop hu h2 h3 h4 (by simpa using h5.1.2) (Nat.le_of_ble_eq_true h5.2) h).wp hk
 |load t x=>
  rw[hop]at hc
  obtain⟨s,h1,hc⟩:=aD hc
  obtain⟨x',h2,hc⟩:=aD hc
  obtain⟨h3,hc⟩:=cx hc
  cases hc
  exact(op_load hs hG hop h1 h3 h2 h).wp hk
 |store t x y=>
  rw[hop]at hc
  obtain⟨s,h1,hc⟩:=aD hc
  obtain⟨x',h2,hc⟩:=aD hc
  obtain⟨y',h3,hc⟩:=aD hc
  cases hc
  exact(VO hs hG hop h1 h2 h3 h).wp hk
 |nilCheck x=>
  rw[hop]at hc
  obtain⟨x',h2,hc⟩:=aD hc
  cases hc
  exact(op_nilc hs hG hop h2 h).wp hk
 | binOp op t x y u =>
  rw[hop]at hc
  obtain⟨x',h1,hc⟩:=aD hc
  obtain⟨y',h2,hc⟩:=aD hc
  split at hc
  ·cases hc;exact(VA hs hG hop h1 h2 h).wp hk
  ·cases hc;exact(VA hs hG hop h1 h2 h).wp hk
  ·rename_i hu
   split at hc
   ·cases hc;exact(VB hs hG (neg:=false) hop rfl hu h1 h2 h).wp hk
   ·cases hc;exact(VB hs hG (neg:=true) hop rfl hu h1 h2 h).wp hk
   ·cases hc
  ·obtain⟨s,h3,hc⟩:=aD hc
   obtain⟨h4,hc⟩:=cx hc
   simp only[Bool.and_eq_true,Bool.not_eq_true']at h4
   split at hc
   ·cases hc;exact(I9 hs hG (neg:=false) hop rfl h3 h4.1 h4.2 h1 h2 h).wp hk
   ·cases hc;exact(I9 hs hG (neg:=true) hop rfl h3 h4.1 h4.2 h1 h2 h).wp hk
   ·cases hc
  ·obtain⟨s,h3,hc⟩:=aD hc
   obtain⟨h4,hc⟩:=cx hc
   simp only[Bool.and_eq_true,Bool.not_eq_true']at h4
   split at hc
   ·cases hc;exact(I9 hs hG (neg:=false) hop rfl h3 h4.1 h4.2 h1 h2 h).wp hk
   ·cases hc;exact(I9 hs hG (neg:=true) hop rfl h3 h4.1 h4.2 h1 h2 h).wp hk
   ·cases hc
  ·rename_i hu
   split at hc
   ·cases hc;exact(Lj hs hG (neg:=false) hop rfl hu h1 h2 h).wp hk
   ·cases hc;exact(Lj hs hG (neg:=true) hop rfl hu h1 h2 h).wp hk
   ·cases hc
  ·rename_i hu
   split at hc
   ·cases hc;exact(Ql hs hG (neg:=false) hop rfl hu h1 h2 h).wp hk
   ·cases hc;exact(Ql hs hG (neg:=true) hop rfl hu h1 h2 h).wp hk
   ·cases hc
  ·cases hc
 | sliceToArrayPointer t x =>
  rw[hop]at hc
  simp only[cOp0]at hc
  split at hc
  ·rename_i m e hu
   obtain⟨s,h1,hc⟩:=aD hc
   obtain⟨x',h2,hc⟩:=aD hc
   cases hc
   exact(op_s2a hs hG hop hu h2 h).wp hk
  ·cases hc
 |unOp op t x=>
  rw[hop]at hc
  obtain⟨x',h2,hc⟩:=aD hc
  cases hc
  exact(op_un hs hG hop h2 h).wp hk
 | convert s t x =>
  rw[hop]at hc
  obtain⟨x',h1,hc⟩:=aD hc
  split at hc
  ·rename_i uU hu2;cases hc;exact(op_conv hs hG hop uU hu2 h1 h).wp hk
  ·rename_i uU hu2;cases hc;exact(VC hs hG hop uU hu2 h1 h).wp hk
  ·rename_i uU hu2
   split at hc
   ·rename_i hu3;cases hc;exact(op_s2b hs hG hop uU hu2 hu3 h1 h).wp hk
   ·cases hc
  ·rename_i uU hu2
   split at hc
   ·rename_i hu3;cases hc;exact(op_b2s hs hG hop uU hu3 hu2 h1 h).wp hk
   ·cases hc
  ·rename_i uU hu2
   obtain⟨hst,hc⟩:=cx hc
   obtain⟨s',h2,hc⟩:=aD hc
   obtain⟨hs8,hc⟩:=cx hc
   have cM:s=t:=by simpa using hst
   split at hc
   ·rename_i hu3
    cases hc
    rw[cM]at hop
    exact(op_frzb hs hG hop hu2 hu3 h1 h).wp hk
   ·cases hc
  ·cases hc
 | makeSlice t l c =>
  rw[hop]at hc
  obtain⟨e,h1,hc⟩:=aD hc
  obtain⟨s,h2,hc⟩:=aD hc
  obtain⟨z,h3,hc⟩:=aD hc
  obtain⟨l',h4,hc⟩:=aD hc
  obtain⟨c',h5,hc⟩:=aD hc
  obtain⟨h6,hc⟩:=cx hc
  cases hc
  have hu:P.underlying t=some (.slice e):=by
   unfold xf at h1
   split at h1
   ·cases h1;assumption
   ·cases h1
  exact(op_mks hs hG hop hu h2 h3 h4 h5 h).wp hk
 | makeFunc fn first cap =>
  rw[hop]at hc
  cases fn with
  | func f =>
   obtain⟨h1,hc⟩:=cx hc
   split at hc
   ·rename_i x hx
    obtain⟨x',h2,hc⟩:=aD hc
    cases hc
    exact(op_mkf hs hG hop h1 hx h2 h).wp hk
   ·cases hc
  | _=>cases hc
 | makeMap t r =>
  rw[hop]at hc
  cases r with
  |none=>
   obtain⟨⟨ks,vs⟩,h1,hc⟩:=aD hc
   cases hc
   obtain⟨kt,et,hu,h2,h3,h4,h5⟩:=x9 h1
   exact(op_mkm hs hop h4 h5 h).wp hk
  |some _=>cases hc
 |mapUpdate t m x v=>
  rw[hop]at hc
  obtain⟨⟨ks,vs⟩,h1,hc⟩:=aD hc
  obtain⟨m',h6,hc⟩:=aD hc
  obtain⟨x',h7,hc⟩:=aD hc
  obtain⟨v',h8,hc⟩:=aD hc
  cases hc
  obtain⟨kt,et,hu,h2,h3,h4,h5⟩:=x9 h1
  exact(op_mset hs hG hop hu h4 h5 h6 h7 h8 h).wp hk
 | lookup t m x ok =>
  rw[hop]at hc
  obtain⟨⟨kt0,et0⟩,h0,hc⟩:=aD hc
  obtain⟨⟨ks,vs⟩,h1,hc⟩:=aD hc
  obtain⟨z,h5',hc⟩:=aD hc
  obtain⟨m',h6,hc⟩:=aD hc
  obtain⟨x',h7,hc⟩:=aD hc
  obtain⟨hz,hc⟩:=cx hc
  cases hc
  obtain⟨kt,et,hu,h2,h3,h4,h5⟩:=x9 h1
  have e0:et0=et:=by
   unfold mapT at h0
   rw[hu]at h0
   cases h0
   rfl
  subst e0
  exact(op_mget hs hG hop hu h4 h3 h5' hz h5 h6 h7 h).wp hk
 | fieldAddr t x i =>
  rw[hop]at hc
  obtain⟨s,h1,hc⟩:=aD hc
  obtain⟨x',h2,hc⟩:=aD hc
  split at hc
  ·rename_i fs hu
   split at hc
   ·rename_i f e hf he
    obtain⟨h3,hc⟩:=cx hc
    cases hc
    simp only[Bool.and_eq_true,beq_iff_eq]at h3
    obtain⟨⟨h4,h5⟩,h6⟩:=h3
    split at h5
    ·rename_i inf hi
     exact(VD hs hG hop hu hf he h4 hi (by simpa using h5) (by simpa using h6) h2 h).wp hk
    ·cases h5
   ·cases hc
  ·cases hc
 | field t x i =>
  rw[hop]at hc
  obtain⟨s,h1,hc⟩:=aD hc
  obtain⟨x',h2,hc⟩:=aD hc
  split at hc
  ·rename_i fs hu
   split at hc
   ·rename_i f e hf he
    obtain⟨h3,hc⟩:=cx hc
    cases hc
    simp only[Bool.and_eq_true,beq_iff_eq]at h3
    exact(VE hs hG hop hu hf he h3.1.1 h3.1.2 h3.2 h2 h).wp hk
   ·cases hc
  ·cases hc
 | indexAddr t x i =>
  rw[hop]at hc
  obtain⟨x',h1,hc⟩:=aD hc
  obtain⟨i',h2,hc⟩:=aD hc
  split at hc
  ·rename_i m e hu
   obtain⟨s,h3,hc⟩:=aD hc
   cases hc
   exact(Sa hs hG hop hu h3 h1 h2 h).wp hk
  ·rename_i e hu
   obtain⟨s,h3,hc⟩:=aD hc
   cases hc
   exact(Sb hs hG hop hu h3 h1 h2 h).wp hk
  ·cases hc
 | index t x i =>
  rw[hop]at hc
  obtain⟨x',h1,hc⟩:=aD hc
  obtain⟨i',h2,hc⟩:=aD hc
  split at hc
  ·rename_i m e hu
   obtain⟨s,h3,hc⟩:=aD hc
   obtain⟨h4,hc⟩:=cx hc
   cases hc
   exact(VG hs hG hop hu h3 h4 h1 h2 h).wp hk
  ·rename_i hu
   cases hc
   exact(Sd hs hG hop hu h1 h2 h).wp hk
  ·cases hc
 | slice t x lo hi mx =>
  rw[hop]at hc
  obtain⟨x',h1,hc⟩:=aD hc
  obtain⟨lo',h2,hc⟩:=aD hc
  obtain⟨hi',h3,hc⟩:=aD hc
  obtain⟨mx',h4,hc⟩:=aD hc
  have hmn:(mx'.isNone||hi'.isSome)=true→(mx.isSome=true→hi.isSome=true):=by
   intro hq hm
   cases mx with
   |none=>simp at hm
   | some m =>
    cases hi with
    |some _=>rfl
    |none=>
     simp[KY]at h3
     subst h3
     simp only[KY]at h4
     split at h4
     ·cases h4;simp at hq
     ·cases h4
  split at hc
  ·rename_i m e hu
   obtain⟨s,h5,hc⟩:=aD hc
   obtain⟨h6,hc⟩:=cx hc
   cases hc
   exact(Sf hs hG hop hu h5 h1 h2 h3 h4 (hmn h6) h).wp hk
  ·rename_i e hu
   obtain⟨s,h5,hc⟩:=aD hc
   obtain⟨h6,hc⟩:=cx hc
   cases hc
   exact(VK hs hG hop hu h5 h1 h2 h3 h4 (hmn h6) h).wp hk
  ·rename_i hu
   obtain⟨h6,hc⟩:=cx hc
   cases hc
   have:mx=none:=by
    cases mx with
    |none=>rfl
    |some m=>
     simp only[KY]at h4
     split at h4
     ·cases h4;simp at h6
     ·cases h4
   subst this
   exact(Sn hs hG hop hu h1 h2 h3 h).wp hk
  ·cases hc
 |extract x i=>
  rw[hop]at hc
  obtain⟨x',h2,hc⟩:=aD hc
  cases hc
  exact(op_ext hs hG hop h2 h).wp hk
 | call c =>
  rw[hop]at hc
  have dZ:Vq P c=some ao:=hc
  unfold Vq at dZ
  split at dZ
  ·rename_i f pY
   obtain⟨fn,h1,dZ⟩:=aD dZ
   cases Nw:fn.body.isSome with
   |true=>
    rw[Nw]at dZ
    obtain⟨h2,dZ⟩:=cx dZ
    obtain⟨l,h3,dZ⟩:=aD dZ
    cases dZ
    exact op_call hs hG Ln hC hop pY h1 Nw h2 h3 h hk
   | false =>
    rw[Nw]at dZ
    simp only[cond_false]at dZ
    cases hix:(fn.name==y6&&fn.origin== "")with
    | true =>
     rw[hix]at dZ
     simp only[Bool.and_eq_true,beq_iff_eq]at hix
     simp only[cond_true]at dZ
     split at dZ
     ·rename_i x y hx
      obtain⟨x',h3,dZ⟩:=aD dZ
      obtain⟨y',h4,dZ⟩:=aD dZ
      cases dZ
      exact(op_idxb hs hG hop pY h1 Nw hix.1 hix.2 hx h3 h4 h).wp hk
     ·cases dZ
    | false =>
     rw[hix]at dZ
     obtain⟨h2,dZ⟩:=cx dZ
     simp only[Bool.and_eq_true,beq_iff_eq]at h2
     split at dZ
     ·rename_i x t hx ht
      split at dZ
      ·rename_i e hu
       obtain⟨h3,dZ⟩:=cx dZ
       obtain⟨x',h4,dZ⟩:=aD dZ
       cases dZ
       exact(op_mnz hs hG hop pY h1 Nw h2.1 h2.2 hx ht hu (by simpa using h3) h4 h).wp hk
      ·cases dZ
     ·cases dZ
  ·rename_i t pY
   obtain⟨l,h1,dZ⟩:=aD dZ
   cases dZ
   exact V5 hs hG Ln hC hop pY h1 h hk
  ·rename_i pY
   split at dZ
   ·rename_i x t ts hx ht
    obtain⟨x',h1,dZ⟩:=aD dZ
    split at dZ
    ·rename_i e hu;cases dZ;exact(op_len hs hG hop pY hx ht hu h1 h).wp hk
    ·rename_i hu;cases dZ;exact(Se hs hG hop pY hx ht hu h1 h).wp hk
    ·rename_i m e hu;cases dZ;exact(op_lena hs hop pY hx ht hu h).wp hk
    ·cases dZ
   ·cases dZ
  ·rename_i pY
   split at dZ
   ·rename_i x y t u hx ht
    obtain⟨x',h1,dZ⟩:=aD dZ
    obtain⟨y',h2,dZ⟩:=aD dZ
    obtain⟨e,h3,dZ⟩:=aD dZ
    obtain⟨s,h4,dZ⟩:=aD dZ
    obtain⟨z,h5,dZ⟩:=aD dZ
    obtain⟨h6,dZ⟩:=cx dZ
    simp only[Bool.and_eq_true]at h6
    have hu:P.underlying t=some (.slice e):=by
     unfold xf at h3
     split at h3
     ·cases h3;assumption
     ·cases h3
    split at dZ
    ·rename_i e' uU
     obtain⟨_,dZ⟩:=cx dZ
     cases dZ
     exact(HK hs hG hop pY hx ht hu (.inl ⟨e',uU⟩) h4 h5 h1 h2 h).wp hk
    ·rename_i uU
     obtain⟨_,dZ⟩:=cx dZ
     cases dZ
     exact(HK hs hG hop pY hx ht hu (.inr uU) h4 h5 h1 h2 h).wp hk
    ·rename_i kd uU
     cases dZ
     exact(NV hs hG hop pY hx ht hu uU h4 h5 (by simpa using h6.1) h1 h2 h).wp hk
    ·cases dZ
   ·cases dZ
  ·rename_i pY
   split at dZ
   ·rename_i x y t u hx ht
    obtain⟨x',h1,dZ⟩:=aD dZ
    obtain⟨y',h2,dZ⟩:=aD dZ
    obtain⟨e,h3,dZ⟩:=aD dZ
    obtain⟨s,h4,dZ⟩:=aD dZ
    obtain⟨h6,dZ⟩:=cx dZ
    have hu:P.underlying t=some (.slice e):=by
     unfold xf at h3
     split at h3
     ·cases h3;assumption
     ·cases h3
    split at dZ
    ·obtain⟨_,dZ⟩:=cx dZ
     cases dZ
     exact(Qj hs hG hop pY hx ht hu h4 h1 h2 h).wp hk
    ·obtain⟨_,dZ⟩:=cx dZ
     cases dZ
     exact(Qj hs hG hop pY hx ht hu h4 h1 h2 h).wp hk
    ·cases dZ
   ·cases dZ
  ·rename_i pY
   split at dZ
   ·rename_i x t hx ht
    obtain⟨x',h1,dZ⟩:=aD dZ
    obtain⟨e,h3,dZ⟩:=aD dZ
    obtain⟨s,h4,dZ⟩:=aD dZ
    obtain⟨z,h5,dZ⟩:=aD dZ
    obtain⟨h6,dZ⟩:=cx dZ
    have hu:P.underlying t=some (.slice e):=by
     unfold xf at h3
     split at h3
     ·cases h3;assumption
     ·cases h3
    simp only[Bool.and_eq_true]at h6
    cases dZ
    exact(op_clr hs hG hop pY hx ht hu h4 h5 h1 h).wp hk
   ·cases dZ
  ·rename_i pY
   obtain⟨l,h1,dZ⟩:=aD dZ
   cases dZ
   exact(HN hs hG (mx:=false) hop pY h1 h).wp hk
  ·rename_i pY
   obtain⟨l,h1,dZ⟩:=aD dZ
   cases dZ
   exact(HN hs hG (mx:=true) hop pY h1 h).wp hk
  ·cases dZ
 | _=>rw[hop]at hc;cases hc
end Go.Am
namespace Go.Am
set_option linter.unusedVariables false
set_option linter.unusedSimpArgs false
variable {C:be} {P:Program} {n:Nat} {ρ:Pl} {T:Nat→Prop} {env:Env} {rows:Rows} {a:Act} {w:World}
def dM(C:be)(w:World)(T:Nat→Prop):Prop:=∀g d,C.aZ g=some d→LR eT w T (.b5 d) (.pointer (some ⟨g,0,none⟩))
theorem Step.stable(hr:iV ρ rows w T)(ht:∀b,T b→b<w.heap.size){ρ':Pl}{T':Nat→Prop}{ab:Rows}{w':World}(h:Step ρ T rows w ρ' T' ab w'):∀b,T b→w'.heap[b]?=w.heap[b]?:=by
 intro b hb
 refine h.keep b (ht b hb) ?_
 rintro r row L h1 h2 rfl
 exact(hr.row r row L h1 h2).mj hb
theorem dM.step(hg:dM C w T)(hs:dO n ρ T env rows a w){ρ':Pl}{T':Nat→Prop}{ab:Rows}{w':World}(h:Step ρ T rows w ρ' T' ab w'):dM C w' T':=
 fun g d hd=>(hg g d hd).mono (fun _ _ h=>h) (h.stable hs.bD hs.uo) h.tt
theorem Be{all:List Oper}{o:Oper}{l:List Oper}{al:List aT}(h:uN P n all (o::l)=some al):
  ∃ao g r,NK n o.dst=true∧ZV P o.op=some ao∧kn all o.guard=some g∧uN P n all l=some r∧al=⟨o.dst,ao,g⟩::r:=by
 simp only[uN]at h
 obtain⟨h0,h⟩:=cx h
 obtain⟨ao,h1,h⟩:=aD h
 obtain⟨g,h2,h⟩:=aD h
 obtain⟨r,h3,h⟩:=aD h
 cases h
 exact⟨ao,g,r,h0,h1,h2,h3,rfl⟩
theorem wq{dst:Option Nat}(h:NK n dst=true):∀t,dst=some t→t<n:=by
 intro t ht
 subst ht
 simp only[NK]at h
 exact Nat.blt_eq.mp h
theorem Sr (hC : aI C P) (ops : Array Oper) {Q' : Exit → Act → World → Prop} : ∀ (l : List Oper) (i : Nat), ops.toList.drop i = l → ∀ (al : List aT), uN P n ops.toList l = some al →
  ∀(env:Env) (rows:Rows) (ρ:Pl) (T:Nat→Prop) (a:Act) (w:World) (K:Env→Rows→Prop),dt C al env rows K→dO n ρ T env rows a w→dM C w T→
  (∀env' ab ρ' T' a' w',K env' ab→dO n ρ' T' env' ab a' w'→Step ρ T rows w ρ' T' ab w'→Q' .normal a' w')→wpOps P ops Q' (List.range' i l.length) a w:=by
 intro l
 induction l with
 |nil=>
  intro i _ al hc env rows ρ T a w K h hs hg hK
  simp[uN]at hc
  subst hc
  exact hK env rows ρ T a w h hs (Step.refl _ _ _ _)
 | cons o l ih =>
  intro i hi al hc env rows ρ T a w K h hs hg hK
  obtain⟨ao,g,r,h0,h1,h2,h3,rfl⟩:=Be hc
  have ho:ops[i]?=some o:=by
   have:=congrArg (fun q=>q[0]?) hi
   simpa using this
  have HT:ops.toList.drop (i+1)=l:=by
   have:=congrArg List.tail hi
   simpa using this
  have hd:=wq h0
  simp only[List.length_cons,List.range'_succ,wpOps,ho]
  have go:∀(h:df C env rows ao (fun d rows=>dt C r (put o.dst d env) rows K)),o.wp P a w (wpOps P ops Q' (List.range' (i+1) l.length)) Q':=by
   intro h
   refine uY hs hg hC h1 h ?_
   intro d ab ρ' T' v w' hk fD hst hv _
   exact ih (i+1) HT r h3 _ ab ρ' T' _ w' K hk (fD.put hv hd) (hg.step hs hst) (fun lM lN Ny T2 a2 w2 UU tJ N0=>hK lM lN Ny T2 a2 w2 UU tJ (hst.trans N0))
  have skip:∀(h:dt C r (put o.dst (.cA []) env) rows K),wpOps P ops Q' (List.range' (i+1) l.length) (a.put o.dst undef) w:=by
   intro h
   have hv:VR ρ w T (.cA []) undef:=⟨#[],rfl,.nil⟩
   exact ih (i+1) HT r h3 _ rows ρ T _ w K h (hs.put hv hd) hg hK
  cases hgd:o.guard with
  |none=>
   rw[hgd]at h2
   simp[kn]at h2
   subst h2
   have hw:Region.wanted o (yielded ops a.tmps)=true:=by simp[Region.wanted,hgd]
   rw[if_pos hw]
   exact .inl (go h)
  | some jw =>
   obtain⟨j,want⟩:=jw
   rw[hgd]at h2
   simp only[kn]at h2
   split at h2
   ·rename_i oj hj
    split at h2
    ·rename_i t ht
     cases h2
     have mr:ops[j]?=some oj:=by simpa using hj
     obtain⟨d,EC,h⟩:=ah h
     have hv:=hs.env t d EC
     split at h
     ·rename_i b
      have hb:=VR.ofRaw hv
      have wO:a.tmps[t]?=some (.bool b):=by
       unfold Array.getD at hb
       split at hb
       ·rename_i hlt
        rw[Array.getElem?_eq_getElem hlt]
        simpa using hb
       ·cases hb
      have hy:yielded ops a.tmps j=some b:=by simp[yielded,mr,ht,wO]
      have hw:Region.wanted o (yielded ops a.tmps)=(b==want):=by
       simp only[Region.wanted,hgd,hy]
       cases b<;>cases want<;>rfl
      rw[hw]
      by_cases Ss:b=want
      ·subst Ss
       rw[if_pos (by simp)]
       exact .inl (go (h.1 rfl))
      ·rw[if_neg (by simpa using Ss)]
       exact skip (h.2 (by cases b<;>cases want<;>simp_all))
     ·obtain⟨vs,hvs,bY⟩:=hv
      have N2:vs=#[]:=by
       have:=bY.len
       apply Array.ext'
       exact List.eq_nil_of_length_eq_zero (by simpa using this.symm)
      subst N2
      have hy:yielded ops a.tmps j=none:=by
       simp only[yielded,mr,Option.bind_some,ht]
       unfold Array.getD at hvs
       split at hvs
       ·rename_i hlt
        rw[Array.getElem?_eq_getElem hlt]
        have:a.tmps[t]= .tuple #[]:=by simpa using hvs
        rw[this]
       ·rename_i hlt
        rw[Array.getElem?_eq_none (by omega)]
      have hw:Region.wanted o (yielded ops a.tmps)=false:=by
       simp only[Region.wanted,hgd,hy]
       rfl
      rw[if_neg (by rw[hw];simp)]
      exact skip h
     ·exact h.elim
    ·cases h2
   ·cases h2
def N3:fa→Exit
 | .normal=> .normal
 | .exit i=> .exit i
 | .ret=> .ret
def Post(n:Nat)(ρ:Pl)(T:Nat→Prop)(rows:Rows)(w:World)(Q:fa→Env→Rows→Prop)(Q':Exit→Act→World→Prop):Prop:=
 ∀e env' ab ρ' T' a' w',Q e env' ab→dO n ρ' T' env' ab a' w'→Step ρ T rows w ρ' T' ab w'→Q' (N3 e) a' w'
end Go.Am
namespace Go.Am
set_option linter.unusedVariables false
set_option linter.unusedSimpArgs false
variable {C:be} {P:Program} {n:Nat} {ρ:Pl} {T:Nat→Prop} {env:Env} {rows:Rows} {a:Act} {w:World}
def Lo(rows:Rows)(f:(D→Rows→Prop)→Prop):Prop:=∀k,f k→∃d new,k d (rows++new)∧f (fun d2 r2=>d2=d∧r2=rows++new)
theorem br(rows:Rows)(d:D):Lo rows (fun k=>k d rows):=fun k h=>⟨d,[],by simpa using h,rfl,by simp⟩
theorem qf(rows new:Rows)(d:D):Lo rows (fun k=>k d (rows++new)):=fun k h=>⟨d,new,h,rfl,rfl⟩
theorem aM(rows:Rows):Lo rows (fun _=>False):=fun _ h=>h.elim
theorem bj{rows:Rows}{f:(D→Rows→Prop)→Prop}(p:Prop)(h:Lo rows f):Lo rows (fun k=>p∧f k):=by
 intro k ⟨hp,hf⟩
 obtain⟨d,new,h1,h2⟩:=h k hf
 exact⟨d,new,h1,hp,h2⟩
theorem aP{α:Type}{rows:Rows}{x:Option α}{f:α→(D→Rows→Prop)→Prop}(h:∀a,Lo rows (f a)):Lo rows (fun k=>bd x (fun a=>f a k)):=by
 intro k hk
 cases x with
 |none=>exact hk.elim
 |some a=>exact h a k hk
theorem det_if{rows:Rows}{f g:(D→Rows→Prop)→Prop}(b:Bool)(hf:Lo rows f)(hg:Lo rows g):Lo rows (fun k=>(b=true→f k)∧(b=false→g k)):=by
 intro k hk
 cases b with
 |true=>
  obtain⟨d,new,h1,h2⟩:=hf k (hk.1 rfl)
  refine⟨d,new,h1,fun _=>h2,fun h=>?_⟩
  cases h
 |false=>
  obtain⟨d,new,h1,h2⟩:=hg k (hk.2 rfl)
  refine⟨d,new,h1,fun h=>?_,fun _=>h2⟩
  cases h
theorem yc{rows:Rows}{f:Nat→Nat→Nat→(D→Rows→Prop)→Prop}(l h m:Int)(n:Nat)(hf:∀a b c,Lo rows (f a b c)):Lo rows (fun k=>j7 l h m n fun a b c=>f a b c k):=
 bj _ (bj _ (bj _ (bj _ (hf _ _ _))))
theorem V6(rows:Rows)(op:BinOp)(x y:Value):Lo rows (fun k=>bE op x y fun d=>k d rows):=by
 unfold bE
 intro k h
 split at h
 all_goals first
  |exact h.elim
  |exact br rows _ k h
  |exact bj _ (br rows _) k h
  |exact bj _ (bj _ (br rows _)) k h
theorem det_aUn(rows:Rows)(op:UnOp)(x:Value):Lo rows (fun k=>Vl op x fun d=>k d rows):=by
 unfold Vl
 intro k h
 split at h
 all_goals first
  |exact h.elim
  |exact br rows _ k h
theorem DZ(hN:∀f,C.fU f=none)(o:mi)(hq:ko o=true):Lo rows (df C env rows o):=by
 cases o with
 |mv x=>exact aP fun d=>br rows d
 | pick c x y =>
  refine aP fun d=>?_
  cases d with
  |raw v=>
   cases v with
   |bool t=>exact aP fun d=>br rows d
   | _=>exact aM rows
  | _=>exact aM rows
 | bin op x y =>
  refine aP fun d=>?_
  cases d with
  |raw v=>
   refine aP fun d2=>?_
   cases d2 with
   |raw u=>exact V6 rows op v u
   | _=>exact aM rows
  | _=>exact aM rows
 | ZT s neg x y =>
  refine aP fun d=>?_
  cases d with
  |agg s1 l=>
   refine aP fun d2=>?_
   cases d2 with
   |agg s2 l'=>exact bj _ (bj _ (aP fun b=>br rows _))
   | _=>exact aM rows
  | _=>exact aM rows
 | beq neg x y =>
  refine aP fun d=>?_
  cases d with
  | raw v =>
   cases v with
   | bool t =>
    refine aP fun d2=>?_
    cases d2 with
    |raw u=>
     cases u with
     |bool t2=>exact br rows _
     | _=>exact aM rows
    | _=>exact aM rows
   | _=>exact aM rows
  | _=>exact aM rows
 |un op x=>
  refine aP fun d=>?_
  cases d with
  |raw v=>exact det_aUn rows op v
  | _=>exact aM rows
 | conv kd x =>
  refine aP fun d=>?_
  cases d with
  |raw v=>
   cases v with
   |int k n=>exact br rows _
   | _=>exact aM rows
  | _=>exact aM rows
 | En x =>
  refine aP fun d=>?_
  cases d with
  |raw v=>
   cases v with
   |string b=>exact br rows _
   | _=>exact aM rows
  | _=>exact aM rows
 |alloc s z=>exact qf rows _ _
 |ZU ks vs=>exact qf rows _ _
 |KV ks vs ok z m x=>exact aP fun d=>aP fun d2=>bj _ (aP fun l=>aP fun o=>br rows _)
 |box s x=>exact aP fun d=>bj _ (qf rows _ _)
 |build s z ps=>exact aP fun l=>br rows _
 |ib s m z ps=>exact aP fun l=>qf rows _ _
 |load s x=>
  refine aP fun d=>?_
  cases d with
  |ptr s' r p=>exact bj _ (aP fun row=>aP fun d=>br rows d)
  |b5 d=>exact bj _ (br rows _)
  |lF m t r p off=>exact bj _ (aP fun l=>bj _ (br rows _))
  | _=>exact aM rows
 |pW x=>
  refine aP fun d=>?_
  cases d with
  |ptr s' r p=>exact br rows _
  |b5 d=>exact br rows _
  | _=>exact aM rows
 | eN s x i =>
  refine aP fun d=>?_
  cases d with
  |ptr s' r p=>exact bj _ (aP fun e=>br rows _)
  |b5 d=>
   cases d with
   |agg s' l=>exact bj _ (aP fun e=>br rows _)
   | _=>exact aM rows
  | _=>exact aM rows
 |field s x i=>
  refine aP fun d=>?_
  cases d with
  |agg s' l=>exact bj _ (aP fun e=>br rows _)
  | _=>exact aM rows
 | uJ m s x i =>
  refine aP fun d=>aP fun d2=>?_
  cases d2 with
  | raw v =>
   cases v with
   | int kd j =>
    cases d with
    |ptr s' r p=>exact bj _ (bj _ (bj _ (br rows _)))
    |b5 d=>
     cases d with
     |agg s' l=>exact bj _ (bj _ (bj _ (aP fun d=>br rows _)))
     | _=>exact aM rows
    | _=>exact aM rows
   | _=>exact aM rows
  | _=>exact aM rows
 | lG s x i =>
  refine aP fun d=>aP fun d2=>?_
  cases d2 with
  | raw v =>
   cases v with
   |int kd j=>
    cases d with
    |sl t r p off len ex=>exact bj _ (bj _ (bj _ (br rows _)))
    |cF t l ex=>exact bj _ (bj _ (bj _ (aP fun d=>br rows _)))
    | _=>exact aM rows
   | _=>exact aM rows
  | _=>exact aM rows
 | index m s x i =>
  refine aP fun d=>?_
  cases d with
  | agg t l =>
   refine aP fun d2=>?_
   cases d2 with
   |raw v=>
    cases v with
    |int kd j=>exact bj _ (bj _ (bj _ (aP fun d=>br rows _)))
    | _=>exact aM rows
   | _=>exact aM rows
  | _=>exact aM rows
 | sI x i =>
  refine aP fun d=>?_
  cases d with
  | raw v =>
   cases v with
   | string b =>
    refine aP fun d2=>?_
    cases d2 with
    |raw u=>
     cases u with
     |int kd j=>exact bj _ (aP fun c=>br rows _)
     | _=>exact aM rows
    | _=>exact aM rows
   | _=>exact aM rows
  | _=>exact aM rows
 | xR m s x lo hi mx =>
  refine aP fun d=>aP fun l=>aP fun h=>aP fun c=>yc _ _ _ _ fun a b e=>?_
  cases d with
  |ptr t r p=>exact bj _ (br rows _)
  |b5 d=>
   cases d with
   |agg s' l=>exact bj _ (br rows _)
   | _=>exact aM rows
  | _=>exact aM rows
 | slice s x lo hi mx =>
  refine aP fun d=>aP fun l=>aP fun h=>aP fun c=>aP fun N=>yc _ _ _ _ fun a b e=>?_
  cases d with
  | raw v =>
   cases v with
   | slice ad len cap =>
    cases ad with
    | none =>
     cases len with
     |zero=>cases cap with
      |zero=>exact br rows _
      |succ _=>exact aM rows
     |succ _=>exact aM rows
    |some _=>exact aM rows
   | _=>exact aM rows
  |sl t r p off len ex=>exact bj _ (br rows _)
  |cF t l ex=>exact bj _ (br rows _)
  | _=>exact aM rows
 | xS x lo hi =>
  refine aP fun d=>?_
  cases d with
  |raw v=>
   cases v with
   |string b=>exact aP fun l=>aP fun h=>yc _ _ _ _ fun a b e=>br rows _
   | _=>exact aM rows
  | _=>exact aM rows
 | mks s b z l c =>
  refine aP fun d=>?_
  cases d with
  | raw v =>
   cases v with
   | int kd j =>
    refine aP fun d2=>?_
    cases d2 with
    |raw u=>
     cases u with
     |int kd j=>exact bj _ (bj _ (bj _ (bj _ (qf rows _ _))))
     | _=>exact aM rows
    | _=>exact aM rows
   | _=>exact aM rows
  | _=>exact aM rows
 |ext x i=>
  refine aP fun d=>?_
  cases d with
  |cA l=>exact aP fun d=>br rows d
  | _=>exact aM rows
 |len x=>exact aP fun d=>aP fun m=>br rows _
 | xT x =>
  refine aP fun d=>?_
  cases d with
  |raw v=>
   cases v with
   |string b=>exact br rows _
   | _=>exact aM rows
  | _=>exact aM rows
 |uK mx l=>exact aP fun ds=>aP fun r=>br rows _
 |Vi x=>exact aP fun d=>bj _ (aP fun l=>aP fun m=>bj _ (aP fun bs=>br rows _))
 | s2b x =>
  refine aP fun d=>?_
  cases d with
  |raw v=>
   cases v with
   |string b=>exact br rows _
   | _=>exact aM rows
  | _=>exact aM rows
 | call f args =>
  refine aP fun ds=>?_
  show Lo rows (yY C rows f ds)
  unfold yY
  cases C.fn f with
  |some F=>exact det_if _ (aP fun ds'=>aP fun r=>bj _ (qf rows _ _)) (aP fun r=>qf rows _ _)
  | none =>
   have e:C.KX f=(C.Vk f).map KW:=by unfold be.KX;rw[hN f]
   rw[e]
   cases C.Vk f with
   |none=>exact aM rows
   |some q=>
    show Lo rows (fun k=>bd (q ds rows) fun r=>k r.1 (rows++r.2))
    exact aP fun r=>qf rows _ _
 |fail=>exact aM rows
 | NG s x =>
  refine aP fun d=>?_
  cases d with
  |sl t r p off len ex=>
   cases p with
   |nil=>exact bj _ (bj _ (aP fun row=>bj _ (br rows _)))
   |cons _ _=>exact aM rows
  | _=>exact aM rows
 | yU neg x y =>
  refine aP fun d=>aP fun d2=>?_
  cases d2 with
  | raw v =>
   cases v with
   | pointer ad =>
    cases ad with
    | none =>
     cases d with
     | raw v =>
      cases v with
      |pointer ad=>
       cases ad with
       |none=>exact br rows _
       |some _=>exact aM rows
      | _=>exact aM rows
     |ptr _ _ _=>exact br rows _
     |b5 _=>exact br rows _
     | _=>exact aM rows
    |some _=>exact aM rows
   | _=>exact aM rows
  | _=>exact aM rows
 |s2a m s x=>
  refine aP fun d=>?_
  cases d with
  |sl t r p off len ex=>exact bj _ (bj _ (bj _ (br rows _)))
  |cF t l ex=>exact bj _ (bj _ (bj _ (br rows _)))
  | _=>exact aM rows
 | _=>cases hq
theorem wu{env':Env}:∀{l:List X},(∀x∈l,ev C env x=ev C env' x)→KJ C env l=KJ C env' l
 |[],_=>rfl
 |x::l,h=>by simp only[KJ,h x (by simp),wu (l:=l) (fun y hy=>h y (by simp[hy]))]
theorem kZ{env':Env}{o:Option X}(h:∀x∈o.toList,ev C env x=ev C env' x):DX C env o=DX C env' o:=by
 cases o with
 |none=>rfl
 |some x=>simp only[DX,h x (by simp)]
theorem qg{env':Env}{sub:Nat→Option Sh}:∀{ps:List (Nat×X)} {z:List D},(∀x∈ps.map (·.2),ev C env x=ev C env' x)→m9 C env sub ps z=m9 C env' sub ps z
 |[],z,_=>rfl
 |(i,x)::ps,z,h=>by
  have hx:=h x (by simp)
  have ih:=fun z=>qg (sub:=sub) (ps:=ps) (z:=z) (fun y hy=>h y (List.mem_cons_of_mem _ hy))
  simp only[m9,hx,ih]
theorem Bf{env':Env}{o:mi}(h:∀x∈o.xs,ev C env x=ev C env' x)(k:D→Rows→Prop):df C env rows o k=df C env' rows o k:=by
 cases o with
 |alloc s z=>rfl
 |ZU ks vs=>rfl
 |oL ks vs m x v=>simp only[df,h m (by simp[mi.xs]),h x (by simp[mi.xs]),h v (by simp[mi.xs])]
 |KV ks vs ok z m x=>simp only[df,h m (by simp[mi.xs]),h x (by simp[mi.xs])]
 |pick c x y=>simp only[df,h c (by simp[mi.xs]),h x (by simp[mi.xs]),h y (by simp[mi.xs])]
 |build s z ps=>simp only[df,qg (ps:=ps) h]
 |ib s m z ps=>simp only[df,qg (ps:=ps) h]
 |xR m s x lo hi mx=>
  simp only[df,h x (by simp[mi.xs]),kZ (o:=lo) (fun y hy=>h y (by simp only[mi.xs,List.mem_cons,List.mem_append];exact .inr (.inl (.inl hy)))),kZ (o:=hi) (fun y hy=>h y (by simp only[mi.xs,List.mem_cons,List.mem_append];exact .inr (.inl (.inr hy)))),kZ (o:=mx) (fun y hy=>h y (by simp only[mi.xs,List.mem_cons,List.mem_append];exact .inr (.inr hy)))]
 |slice s x lo hi mx=>
  simp only[df,h x (by simp[mi.xs]),kZ (o:=lo) (fun y hy=>h y (by simp only[mi.xs,List.mem_cons,List.mem_append];exact .inr (.inl (.inl hy)))),kZ (o:=hi) (fun y hy=>h y (by simp only[mi.xs,List.mem_cons,List.mem_append];exact .inr (.inl (.inr hy)))),kZ (o:=mx) (fun y hy=>h y (by simp only[mi.xs,List.mem_cons,List.mem_append];exact .inr (.inr hy)))]
 |xS x lo hi=>
  simp only[df,h x (by simp[mi.xs]),kZ (o:=lo) (fun y hy=>h y (by simp only[mi.xs,List.mem_cons,List.mem_append];exact .inr (.inl hy))),kZ (o:=hi) (fun y hy=>h y (by simp only[mi.xs,List.mem_cons,List.mem_append];exact .inr (.inr hy)))]
 |uK mx l=>simp only[df,wu (l:=l) h]
 |call f l=>simp only[df,wu (l:=l) h]
 |oK fs x l=>simp only[df,h x (by simp[mi.xs]),wu (l:=l) (fun y hy=>h y (by simp[mi.xs,hy]))]
 |fail=>rfl
 |s2a _ _ x|NG _ x|mnz x|mkf _ x|clr _ _ x=>simp only[df,h x (by simp[mi.xs])]
 |yU neg x y|KU neg x y=>simp only[df,h x (by simp[mi.xs]),h y (by simp[mi.xs])]
 |mv x|un op x|conv kd x|En x|box s x|load s x|pW x|eN s x i|field s x i|ext x i|len x|xT x|Vi x|s2b x=>simp only[df,h x (by simp[mi.xs])]
 |bin op x y|ZT s neg x y|beq neg x y|store s x y|uJ m s x y|lG s x y|index m s x y|sI x y|NH x y|append s b x y|sJ s b z x y|copy s x y|mks s b z x y=>simp only[df,h x (by simp[mi.xs]),h y (by simp[mi.xs])]
end Go.Am
namespace Go.Am
set_option linter.unusedVariables false
set_option linter.unusedSimpArgs false
variable {C:be} {P:Program} {n:Nat}
structure V7 (ops:List Oper) (al:List aT) (m:Nat):Prop where
 le:m≤ops.length
 back:∀i j,uF ops i j=true→j<i
 quiet:∀i,i<m→∃x o,al[i]?=some x∧ops[i]?=some o∧ko x.op=true∧fJ o.op=true∧(∀j,j<m→j≠i→∀t,x.dst=some t→bF al j≠some t)∧(∀t,t∈nf x→∀j,j<m→bF al j=some t→uF ops i j=true)
structure DOK (ops:List Oper) (al:List aT) (m:Nat):Prop extends V7 ops al m where
 tail:∀i,i<ops.length→m≤i→∀j,j<i→uF ops i j=true∨∃k,k<i∧j<k∧uF ops k j=true
structure DOK2 (ops:List Oper) (al:List aT) (m:Nat):Prop extends V7 ops al m where
 tail:∀i,i<ops.length→m≤i→∃x,al[i]?=some x∧∀j,j<i→G6 ops 2 i j=true∨(j<m∧∃y t,al[j]?=some y∧y.guard=none∧y.dst=some t∧x.dst≠some t∧t∉nf x)
theorem Bg{ops:List Oper}{al:List aT}{m:Nat}(h1:Nat.ble m ops.length=true)(h2:((List.range ops.length).all (fun i=>match ops[i]? with
  |some o=>o.after.toList.all fun e=>!Region.binds .any e||Nat.blt e.on i
  |none=>true))=true)(h3:((List.range m).all (fun i=>match al[i]?,ops[i]? with
  |some x,some o=>ko x.op&&fJ o.op&&
   (List.range m).all (fun j=>j==i||x.dst.isNone||bF al j !=x.dst)&&
   (nf x).all fun t=>(List.range m).all fun j=>bF al j !=some t||uF ops i j
  | _,_=>false))=true):V7 ops al m:=by
 refine⟨Nat.le_of_ble_eq_true h1,fun i j hd=>?_,fun i hi=>?_⟩
 ·unfold uF at hd
  split at hd
  ·rename_i o ho
   have hi:i<ops.length:=cN ho
   have:=List.all_eq_true.1 h2 i (by simpa using hi)
   simp only[ho]at this
   obtain⟨e,he,hb⟩:=List.any_eq_true.1 hd
   simp only[Bool.and_eq_true,beq_iff_eq]at hb
   have:=List.all_eq_true.1 this e he
   simp only[hb.1,Bool.not_true,Bool.false_or]at this
   rw[←hb.2]
   exact Nat.blt_eq.mp this
  ·cases hd
 ·have:=List.all_eq_true.1 h3 i (by simpa using hi)
  split at this
  ·rename_i x o hx ho
   simp only[Bool.and_eq_true]at this
   obtain⟨⟨⟨q1,q2⟩,q3⟩,q4⟩:=this
   refine⟨x,o,hx,ho,q1,q2,fun j hj hne t ht Qs=>?_,fun t ht j hj Qs=>?_⟩
   ·have:=List.all_eq_true.1 q3 j (by simpa using hj)
    simp[hne,ht,Qs]at this
   ·have:=List.all_eq_true.1 (List.all_eq_true.1 q4 t ht) j (by simpa using hj)
    simpa[Qs]using this
  ·cases this
theorem Lp{ops:List Oper}{al:List aT}{m:Nat}(h:dOK ops al m=true):DOK ops al m:=by
 simp only[dOK,Bool.and_eq_true]at h
 obtain⟨⟨⟨h1,h2⟩,h3⟩,h4⟩:=h
 refine⟨Bg h1 h2 h3,fun i hi hm j hj=>?_⟩
 ·have:=List.all_eq_true.1 h4 i (by simpa using hi)
  have hb:Nat.blt i m=false:=by
   cases hb:Nat.blt i m with
   |false=>rfl
   |true=>have:=Nat.blt_eq.mp hb;omega
  rw[hb,Bool.false_or]at this
  have:=List.all_eq_true.1 this j (by simpa using hj)
  rcases Bool.or_eq_true_iff.1 this with h|h
  ·exact .inl h
  ·obtain⟨k,hk,hb⟩:=List.any_eq_true.1 h
   simp only[Bool.and_eq_true]at hb
   exact .inr ⟨k,by simpa using hk,Nat.blt_eq.mp hb.1,hb.2⟩
theorem Su{ops:List Oper}{al:List aT}{m:Nat}(h:RX ops al m=true):DOK2 ops al m:=by
 simp only[RX,Bool.and_eq_true]at h
 obtain⟨⟨⟨h1,h2⟩,h3⟩,h4⟩:=h
 refine⟨Bg h1 h2 h3,fun i hi hm=>?_⟩
 have:=List.all_eq_true.1 h4 i (by simpa using hi)
 have hb:Nat.blt i m=false:=by
  cases hb:Nat.blt i m with
  |false=>rfl
  |true=>have:=Nat.blt_eq.mp hb;omega
 rw[hb,Bool.false_or]at this
 split at this
 ·rename_i x hx
  refine⟨x,hx,fun j hj=>?_⟩
  have:=List.all_eq_true.1 this j (by simpa using hj)
  rcases Bool.or_eq_true_iff.1 this with h|h
  ·exact .inl h
  ·right
   simp only[Bool.and_eq_true]at h
   obtain⟨q1,q2⟩:=h
   refine⟨Nat.blt_eq.mp q1,?_⟩
   split at q2
   ·rename_i y hy
    simp only[Bool.and_eq_true]at q2
    obtain⟨q2,q3⟩:=q2
    split at q3
    ·rename_i t ht
     simp only[Bool.and_eq_true]at q3
     exact⟨y,t,hy,by simpa using q2,ht,by simpa using q3.1,by simpa using q3.2⟩
    ·cases q3
   ·cases q2
 ·cases this
def Ex(C:be)(env:Env)(rows:Rows)(x:aT)(d:D)(ab:Rows):Prop:=
 match x.guard with
 |none=>df C env rows x.op fun d2 r2=>d2=d∧r2=ab
 | some (s, want) => (∃ b, look env s = some (.raw (.bool b)) ∧ (b = want → df C env rows x.op fun d2 r2 => d2 = d ∧ r2 = ab) ∧ (b = !want → d = .cA [] ∧ ab = rows)) ∨
   (look env s=some (.cA [])∧d= .cA []∧ab=rows)
theorem ex_of(hN:∀f,C.fU f=none){x:aT}{l:List aT}{env:Env}{rows:Rows}{K:Env→Rows→Prop}(h:dt C (x::l) env rows K)(hq:ko x.op=true):
  ∃d new,Ex C env rows x d (rows++new)∧dt C l (put x.dst d env) (rows++new) K:=by
 obtain⟨dst,o,g⟩:=x
 cases g with
 |none=>
  obtain⟨d,new,h1,h2⟩:=DZ hN o hq _ h
  exact⟨d,new,h2,h1⟩
 | some sw =>
  obtain⟨s,want⟩:=sw
  obtain⟨v,hv,h⟩:=ah h
  split at h
  ·rename_i b
   by_cases hb:b=want
   ·obtain⟨d,new,h1,h2⟩:=DZ hN o hq _ (h.1 hb)
    refine⟨d,new,.inl ⟨b,hv,fun _=>h2,fun h3=>?_⟩,h1⟩
    rw[hb]at h3
    cases want<;>cases h3
   ·have EG:b=!want:=by cases b<;>cases want<;>simp_all
    refine⟨.cA [],[],.inl ⟨b,hv,fun h3=>absurd h3 hb,fun _=>⟨rfl,by simp⟩⟩,?_⟩
    simpa using h.2 EG
  ·exact⟨.cA [],[],.inr ⟨hv,rfl,by simp⟩,by simpa using h⟩
  ·exact h.elim
def lA(al:List aT)(Dd:Nat→D)(env:Env):Nat→Env
 |0=>env
 |i+1=>put (bF al i) (Dd i) (lA al Dd env i)
theorem EX(al:List aT)(env:Env){D1 D2:Nat→D}:∀(i:Nat),(∀j,j<i→D1 j=D2 j)→lA al D1 env i=lA al D2 env i
 |0,_=>rfl
 |i+1,h=>by simp only[lA,h i (by omega),EX al env i (fun j hj=>h j (by omega))]
theorem trace(hN:∀f,C.fU f=none){al:List aT}{env:Env}{rows:Rows}{K:Env→Rows→Prop}:∀(m:Nat),m≤al.length→(∀i,i<m→∃x,al[i]?=some x∧ko x.op=true)→dt C al env rows K→
  ∃(Dd:Nat→D) (R:Nat→Rows),R 0=rows∧(∀i,i<m→∃x new,al[i]?=some x∧R (i+1)=R i++new∧Ex C (lA al Dd env i) (R i) x (Dd i) (R (i+1)))∧dt C (al.drop m) (lA al Dd env m) (R m) K
 |0,_,_,h=>⟨fun _=>default,fun _=>rows,rfl,fun i hi=>by omega,by simpa[lA]using h⟩
 | m + 1, hm, hq, h => by
  obtain⟨Dd,R,h1,h2,h3⟩:=trace hN m (by omega) (fun i hi=>hq i (by omega)) h
  obtain⟨x,hx,hqx⟩:=hq m (by omega)
  have V8:al.drop m=x::al.drop (m+1):=by
   have hlt:m<al.length:=by omega
   rw[List.drop_eq_getElem_cons hlt]
   congr 1
   rw[List.getElem?_eq_getElem hlt]at hx
   exact Option.some.inj hx
  rw[V8]at h3
  obtain⟨d,new,g1,g2⟩:=ex_of hN h3 hqx
  have Sv:bF al m=x.dst:=by simp[bF,hx]
  let Dd':Nat→D:=fun j=>if j=m then d else Dd j
  let R':Nat→Rows:=fun j=>if j=m+1 then R m++new else R j
  have wv:∀i,i≤m→lA al Dd' env i=lA al Dd env i:=fun i hi=>EX al env i (fun j hj=>by simp only[Dd'];rw[if_neg (by omega)])
  have hR:∀i,i≤m→R' i=R i:=fun i hi=>by simp only[R'];rw[if_neg (by omega)]
  have hRm:R' (m+1)=R m++new:=by simp[R']
  have hDm:Dd' m=d:=by simp[Dd']
  refine⟨Dd',R',by rw[hR 0 (by omega)];exact h1,fun i hi=>?_,?_⟩
  ·by_cases KK:i=m
   ·subst KK
    refine⟨x,new,hx,by rw[hRm,hR i (by omega)],?_⟩
    rw[wv i (by omega),hR i (by omega),hRm,hDm]
    exact g1
   ·obtain⟨x',new',q1,q2,q3⟩:=h2 i (by omega)
    refine⟨x',new',q1,by rw[hR (i+1) (by omega),hR i (by omega)];exact q2,?_⟩
    have:Dd' i=Dd i:=by simp only[Dd'];rw[if_neg KK]
    rw[wv i (by omega),hR i (by omega),hR (i+1) (by omega),this]
    exact q3
  ·simp only[lA]
   rw[wv m (by omega),hRm,hDm,Sv]
   exact g2
theorem uZ{al:List aT}{Dd:Nat→D}{env:Env}{t:Nat}:∀(i:Nat),(∀j,j<i→bF al j≠some t)→look (lA al Dd env i) t=look env t
 |0,_=>rfl
 | i + 1, h => by
  have h1:=h i (by omega)
  have ih:=uZ (Dd:=Dd) (env:=env) i (fun j hj=>h j (by omega))
  simp only[lA]
  cases hd:bF al i with
  |none=>exact ih
  | some s =>
   simp only[put,look]
   have:(s==t)=false:=by
    have:s≠t:=fun e=>h1 (by rw[hd,e])
    simpa using this
   rw[this]
   exact ih
theorem u5{al:List aT}{Dd:Nat→D}{env:Env}{t k:Nat}(hk:bF al k=some t):∀(i:Nat),k<i→(∀j,j<i→j≠k→bF al j≠some t)→look (lA al Dd env i) t=some (Dd k)
 |0,h,_=>by omega
 | i + 1, h, hu => by
  by_cases hi:i=k
  ·subst hi
   simp[lA,hk,put,look]
  ·have ih:=u5 (Dd:=Dd) (env:=env) hk i (by omega) (fun j hj=>hu j (by omega))
   have h1:=hu i (by omega) hi
   simp only[lA]
   cases hd:bF al i with
   |none=>exact ih
   | some s =>
    simp only[put,look]
    have:(s==t)=false:=by
     have:s≠t:=fun e=>h1 (by rw[hd,e])
     simpa using this
    rw[this]
    exact ih
def jt(ρ:Pl)(k:Nat):Pl:=fun r=>if r<k then ρ r else none
theorem Lq{ρ:Pl}{k k':Nat}(h:k≤k'):∀r L,jt ρ k r=some L→jt ρ k' r=some L:=by
 intro r L hr
 unfold jt at hr⊢
 split at hr
 ·rw[if_pos (by omega)];exact hr
 ·cases hr
theorem jA{ρ:Pl}{k:Nat}:∀r L,jt ρ k r=some L→ρ r=some L:=by
 intro r L hr
 unfold jt at hr
 split at hr
 ·exact hr
 ·cases hr
def small(env:Env):List Nat→Env
 |[]=>[]
 |t::l=>match look env t with
  |some d=>(t,d)::small env l
  |none=>small env l
theorem oU {env : Env} : ∀ {l : List Nat} {t : Nat}, t ∈ l → look (small env l) t = look env t
 | s :: l, t, h => by
  simp only[small]
  by_cases hst:s=t
  ·subst hst
   cases hl:look env s with
   |some d=>simp[look]
   | none =>
    simp only
    by_cases hm:s∈l
    ·rw[oU hm];exact hl
    ·have:∀(l:List Nat),s∉l→look (small env l) s=none:=by
      intro l
      induction l with
      |nil=>intro _;rfl
      | cons q l ih =>
       intro hq
       simp only[List.mem_cons,not_or]at hq
       simp only[small]
       cases hlq:look env q with
       |none=>exact ih hq.2
       |some d=>
        simp only[look]
        have:(q==s)=false:=by simpa using fun e=>hq.1 (Eq.symm e)
        rw[this]
        exact ih hq.2
     exact this l hm
  ·have ht:t∈l:=by
    rcases List.mem_cons.1 h with h|h
    ·exact absurd h.symm hst
    ·exact h
   cases hl:look env s with
   |none=>exact oU ht
   |some d=>
    simp only[look]
    have:(s==t)=false:=by simpa using hst
    rw[this]
    exact oU ht
theorem ww{env:Env}:∀{l:List Nat} {t:Nat} {d:D},look (small env l) t=some d→t∈l∧look env t=some d
 |[],t,d,h=>by simp[small,look]at h
 | s :: l, t, d, h => by
  simp only[small]at h
  cases hl:look env s with
  |none=>
   rw[hl]at h
   obtain⟨h1,h2⟩:=ww h
   exact⟨by simp[h1],h2⟩
  | some x =>
   rw[hl]at h
   simp only[look]at h
   cases hb:(s==t)with
   |true=>
    have:s=t:=by simpa using hb
    subst this
    rw[hb]at h
    simp at h
    exact⟨by simp,by rw[hl,h]⟩
   |false=>
    rw[hb]at h
    obtain⟨h1,h2⟩:=ww (by simpa using h)
    exact⟨by simp[h1],h2⟩
theorem sY:∀{l:List X} {t:Nat},.tmp t∈l→t∈uO l
 | x :: l, t, h => by
  rcases List.mem_cons.1 h with h'|h'
  ·subst h';simp[uO]
  ·have ih:=sY h'
   cases x with
   |tmp s=>simp[uO,ih]
   |const _=>simpa[uO]using ih
   |aZ _=>simpa[uO]using ih
theorem fj{R R' new:Rows}{r:Nat}(h:R'=R++new)(hr:r<R.length):live R' r=live R r:=by
 subst h
 unfold live
 rw[List.getElem?_append_left hr]
end Go.Am

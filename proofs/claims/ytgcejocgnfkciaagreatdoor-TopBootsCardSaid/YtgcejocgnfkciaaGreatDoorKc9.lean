import Derived.Test.YtgcejocgnfkciaaGreatDoorKc8
namespace Go.Am
set_option linter.unusedVariables false
set_option linter.unusedSimpArgs false
variable {C:be} {P:Program} {n:Nat}
def undF(al:List aT)(F:List Nat)(L:Array Bool):List Nat:=F.filterMap fun j=>bif L.getD j false then none else bF al j
theorem LD{al:List aT}{F:List Nat}{L:Array Bool}{t:Nat}:t∈undF al F L↔∃j,j∈F∧¬done L j∧bF al j=some t:=by
 unfold undF done
 rw[List.mem_filterMap]
 constructor
 ·rintro⟨j,hj,h⟩
  cases hb:L.getD j false with
  |true=>rw[hb]at h;cases h
  |false=>rw[hb]at h;exact⟨j,hj,by rw[hb];simp,h⟩
 ·rintro⟨j,hj,h1,h2⟩
  refine⟨j,hj,?_⟩
  have:L.getD j false=false:=by simpa using h1
  rw[this];exact h2
def wQ(al:List aT)(F:List Nat)(L:Array Bool)(env:Env):Env:=Lv env (undF al F L)
theorem lc{al:List aT}{F:List Nat}{L:Array Bool}{env:Env}{t:Nat}(h:∀j,j∈F→¬done L j→bF al j≠some t):look (wQ al F L env) t=look env t:=by
 unfold wQ
 rw[ru,if_neg]
 rw[LD]
 rintro⟨j,h1,h2,h3⟩
 exact h j h1 h2 h3
theorem ic{al:List aT}{F:List Nat}{L:Array Bool}{env:Env}{t:Nat}{d:D}(h:look (wQ al F L env) t=some d):look env t=some d∧∀j,j∈F→¬done L j→bF al j≠some t:=by
 unfold wQ at h
 rw[ru]at h
 split at h
 ·cases h
 ·rename_i hn
  refine⟨h,fun j h1 h2 h3=>hn (LD.2 ⟨j,h1,h2,h3⟩)⟩
def jm(env:Env)(t:Nat):Option Nat:=match look env t with
 |some (.ptr _ r _)=>some r
 |some (.sl _ r _ _ _ _)=>some r
 | _=>none
def qM:mi→Bool
 | .alloc _ _=>true
 | .ib _ _ _ _=>true
 | _=>false
structure Wc (al:List aT) (F:List Nat) (L:Array Bool) (b0:Nat) (env:Env) (rows:Rows) (ρ:Pl):Prop where
 hole:∀j,j∈F→¬done L j→∀x t,al[j]?=some x→x.dst=some t→qM x.op=true→∃r,jm env t=some r∧b0≤r∧r<rows.length∧ρ r=none
 jg:∀j j',j∈F→j'∈F→¬done L j→¬done L j'→j≠j'→∀x t x' t',al[j]?=some x→x.dst=some t→qM x.op=true→al[j']?=some x'→x'.dst=some t'→qM x'.op=true→jm env t≠jm env t'
mutual
theorem HX:∀(d:D),Dh d=true→∀x∈d.flat,∃v,x= .raw v
 | .raw v,_,x,hx=>by simp[D.flat]at hx;exact⟨v,hx⟩
 | .agg s l,h,x,hx=>by
  simp only[D.flat]at hx
  exact E3 l (by simpa[Dh]using h) x hx
 | .ptr _ _ _,h,_,_=>by simp[Dh]at h
 | .sl _ _ _ _ _ _,h,_,_=>by simp[Dh]at h
 | .lF _ _ _ _ _,h,_,_=>by simp[Dh]at h
 | .cF _ _ _,h,_,_=>by simp[Dh]at h
 | .b5 _,h,_,_=>by simp[Dh]at h
 | .cA _,h,_,_=>by simp[Dh]at h
 | .mp _,h,_,_=>by simp[Dh]at h
 | .om _ _,h,_,_=>by simp[Dh]at h
theorem E3:∀(l:List D),Qc l=true→∀x∈au l,∃v,x= .raw v
 |[],_,x,hx=>by simp[au]at hx
 |d::l,h,x,hx=>by
  simp only[Qc,Bool.and_eq_true]at h
  simp only[au,List.mem_append]at hx
  rcases hx with hx|hx
  ·exact HX d h.1 x hx
  ·exact E3 l h.2 x hx
end
theorem Jf{o:mi}(h:A4 o=true):ko o=true:=by cases o<;>first|exact h|rfl|(simp[A4]at h)
theorem SE(hN:∀f,C.fU f=none){env:Env}{rows:Rows}{o:mi}{k:D→Rows→Prop}(hf:A4 o=true)(h:df C env rows o k):
  ∃d new,k d (rows++new)∧(qM o=true→new.length=1∧∀t env,jm ((t,d)::env) t=some rows.length):=by
 cases hm:qM o with
 |false=>
  obtain⟨d,new,h1,_⟩:=DZ hN o (Jf hf) _ h
  exact⟨d,new,h1,fun h=>by cases h⟩
 | true =>
  cases o with
  |alloc s z=>exact⟨_,_,h,fun _=>⟨rfl,fun t env=>by simp[jm,look]⟩⟩
  |ib s m z ps=>
   obtain⟨l,_,h2⟩:=ah h
   exact⟨_,_,h2,fun _=>⟨rfl,fun t env=>by simp[jm,look]⟩⟩
  | _=>cases hm
theorem rz{ops:List Oper}{al:List aT}{i:Nat}(h:fOK ops al i=true):∃o x t,ops[i]?=some o∧al[i]?=some x∧A4 x.op=true∧fJ o.op=true∧x.guard=none∧x.dst=some t:=by
 unfold fOK at h
 split at h
 ·rename_i o x ho hx
  simp only[Bool.and_eq_true]at h
  obtain⟨⟨⟨h1,h2⟩,h3⟩,h4⟩:=h
  obtain⟨t,ht⟩:=Option.isSome_iff_exists.1 h4
  exact⟨o,x,t,ho,hx,h1,h2,by simpa using h3,ht⟩
 ·cases h
theorem rA{ops:List Oper}{al:List aT}{prev:Option Nat}{F:List Nat}{i:Nat}(h:okF1 ops al prev F i=true):
  fOK ops al i=true∧i∉F∧(∀j∈F,bF al j≠bF al i)∧(∀c,prev=some c→G6 ops 2 i c=true)∧∀x,al[i]?=some x→∀t∈nf x,∀j,j<ops.length→bF al j=some t→uF ops i j=true:=by
 simp only[okF1,Bool.and_eq_true]at h
 obtain⟨⟨⟨⟨h1,h2⟩,h3⟩,h4⟩,h5⟩:=h
 refine⟨h1,by simpa using h2,fun j hj=>?_,fun c hc=>?_,fun x hx t ht j hj hd=>?_⟩
 ·have:=List.all_eq_true.1 h3 j hj
  simpa using this
 ·subst hc;exact h4
 ·rw[hx]at h5
  have:=List.all_eq_true.1 (List.all_eq_true.1 h5 t ht) j (by simpa using hj)
  simpa[hd]using this
theorem ni{ops:List Oper}{al:List aT}{prev:Option Nat}:∀{l F:List Nat},A5 ops al prev F l=true→∀i∈l,fOK ops al i=true∧(∀c,prev=some c→G6 ops 2 i c=true)∧∀x,al[i]?=some x→∀t∈nf x,∀j,j<ops.length→bF al j=some t→uF ops i j=true
 |[],_,_,i,hi=>by simp at hi
 | k :: l, F, h, i, hi => by
  simp only[A5,Bool.and_eq_true]at h
  rcases List.mem_cons.1 hi with rfl|hi
  ·obtain⟨h1,_,_,h4,h5⟩:=rA h.1
   exact⟨h1,h4,h5⟩
  ·exact ni h.2 i hi
theorem We{al:List aT}{i:Nat}{l:List Nat}{x:aT}(h:al[i]?=some x):RY al (i::l)=x::RY al l:=by
 simp[RY,h]
theorem E4{ops:List Oper}{al:List aT}{L:Array Bool}{b0:Nat}{ρ:Pl}{T:Nat→Prop}{a:Act}{w:World}{prev:Option Nat}{K:Env→Rows→Prop}(hN:∀f,C.fU f=none):∀(fl F:List Nat) (env:Env) (rows:Rows),A5 ops al prev F fl=true→dt C (RY al fl) env rows K→(∀j∈fl,¬done L j)→
  Wc al F L b0 env rows ρ→b0≤rows.length→dO n ρ T (wQ al F L env) rows a w→∃env' ab,K env' ab∧Wc al (F++fl) L b0 env' ab ρ∧dO n ρ T (wQ al (F++fl) L env') ab a w∧∃new,ab=rows++new
 |[],F,env,rows,_,h,_,hI,_,hs=>⟨env,rows,h,by rw[List.append_nil];exact hI,by rw[List.append_nil];exact hs,[],by simp⟩
 | i :: l, F, env, rows, hok, h, Cj, hI, hb, hs => by
  simp only[A5,Bool.and_eq_true]at hok
  obtain⟨h1,hiF,huq,_,_⟩:=rA hok.1
  obtain⟨o,x,t,ho,hx,hfa,_,hg,ht⟩:=rz h1
  have hdi:bF al i=some t:=by simp[bF,hx,ht]
  rw[We hx]at h
  obtain⟨dst,op,g⟩:=x
  simp only at hfa hg ht
  subst hg
  subst ht
  obtain⟨d,new,h2,hmk⟩:=SE hN hfa h
  have hni:¬done L i:=Cj i (.head _)
  have EC:∀j∈F,∀t',bF al j=some t'→look ((t,d)::env) t'=look env t':=by
   intro j hj t' mr
   have hne:t≠t':=fun e=>huq j hj (by rw[mr,hdi,e])
   have:(t==t')=false:=by simpa using hne
   simp[look,this]
  have hho:∀j∈F,∀t',bF al j=some t'→jm ((t,d)::env) t'=jm env t':=by
   intro j hj t' mr
   unfold jm
   rw[EC j hj t' mr]
  have Lu:Wc al (F++[i]) L b0 ((t,d)::env) (rows++new) ρ:=by
   refine⟨fun j hj Ck x' t' hx' wO ZZ=>?_,fun j j' hj mr Ck Jg hne x1 t1 x2 t2 pS KL qj zj ht2 LF=>?_⟩
   ·rcases List.mem_append.1 hj with hj|hj
    ·obtain⟨r,q1,q2,q3,q4⟩:=hI.hole j hj Ck x' t' hx' wO ZZ
     exact⟨r,by rw[hho j hj t' (by simp[bF,hx',wO])];exact q1,q2,by rw[List.length_append];omega,q4⟩
    ·rw[List.mem_singleton.1 hj]at hx'
     rw[hx]at hx'
     cases hx'
     cases wO
     obtain⟨q1,q2⟩:=hmk ZZ
     exact⟨rows.length,q2 _ _,hb,by rw[List.length_append,q1];omega,hs.ur _ (Nat.le_refl _)⟩
   ·have one:∀(j:Nat),j∈F→¬done L j→∀(x1:aT) (t1:Nat),al[j]?=some x1→x1.dst=some t1→qM x1.op=true→qM op=true→jm ((t,d)::env) t1≠jm ((t,d)::env) t:=by
     intro j hj Ck x1 t1 pS KL qj hmo he
     obtain⟨r,q1,q2,q3,q4⟩:=hI.hole j hj Ck x1 t1 pS KL qj
     rw[hho j hj t1 (by simp[bF,pS,KL]),q1,(hmk hmo).2]at he
     cases he
     omega
    rcases List.mem_append.1 hj with hj|hj
    ·rcases List.mem_append.1 mr with mr|mr
     ·rw[hho j hj t1 (by simp[bF,pS,KL]),hho j' mr t2 (by simp[bF,zj,ht2])]
      exact hI.jg j j' hj mr Ck Jg hne x1 t1 x2 t2 pS KL qj zj ht2 LF
     ·rw[List.mem_singleton.1 mr,hx]at zj
      cases zj
      cases ht2
      exact one j hj Ck x1 t1 pS KL qj LF
    ·rw[List.mem_singleton.1 hj,hx]at pS
     cases pS
     cases KL
     rcases List.mem_append.1 mr with mr|mr
     ·exact(one j' mr Jg x2 t2 zj ht2 LF qj).symm
     ·exact absurd ((List.mem_singleton.1 hj).trans (List.mem_singleton.1 mr).symm) hne
  have fD:dO n ρ T (wQ al (F++[i]) L ((t,d)::env)) (rows++new) a w:=by
   have wP:∀r Lc,ρ r=some Lc→r<rows.length:=by
    intro r Lc hr
    rcases Nat.lt_or_ge r rows.length with h1|h1
    ·exact h1
    ·rw[hs.ur r h1]at hr;cases hr
   refine⟨⟨fun r row Lc q1 q2=>?_,fun r r' row row' Lc EZ q1 q2 q3 q4=>?_⟩,fun t' d' hl=>?_,hs.size,hs.uo,fun r hr=>hs.ur r (by rw[List.length_append]at hr;omega),hs.defers⟩
   ·rw[fj rfl (wP r Lc q2)]at q1
    exact hs.bD.row r row Lc q1 q2
   ·rw[fj rfl (wP r Lc q3)]at q1
    rw[fj rfl (wP r' EZ q4)]at q2
    exact hs.bD.jg r r' row row' Lc EZ q1 q2 q3 q4
   ·obtain⟨q1,q2⟩:=ic hl
    have hne:t≠t':=fun e=>q2 i (by simp) hni (by rw[hdi,e])
    have EG:(t==t')=false:=by simpa using hne
    simp only[look,EG,cond_false]at q1
    refine hs.env t' d' ?_
    rw[lc fun j hj hn=>q2 j (by simp[hj]) hn]
    exact q1
  obtain⟨env',ab,k1,k2,k3,new',k4⟩:=E4 hN l (F++[i]) ((t,d)::env) (rows++new) hok.2 h2 (fun j hj=>Cj j (.tail _ hj)) Lu (by rw[List.length_append];omega) fD
  exact⟨env',ab,k1,by rw[List.append_assoc]at k2;exact k2,by rw[List.append_assoc]at k3;exact k3,new++new',by rw[k4,List.append_assoc]⟩
structure Mk (C:be) (env:Env) (rows:Rows) (op:mi) (d:D) (r0:Nat) (d0:D) (row:Row):Prop where
 run:∀k:D→Rows→Prop,k d0 (rows++[some row])→df C env rows op k
 lv:live rows r0=some row
 raw:(∀e∈row.els,aK row.sh e)→∀y∈au row.els,∃v,y= .raw v
 vr:∀(ρ1 Ny:Pl) (w:World) (T:Nat→Prop) (v:Value),ρ1 rows.length=Ny r0→VR ρ1 w T d0 v→VR Ny w T d v
theorem mk_of{env henv:Env}{rows:Rows}{op:mi}{t:Nat}(hm:qM op=true)(hf:A4 op=true)(wv:∀y∈op.xs,ev C henv y=ev C env y)(h:jc C env rows op t):
  ∃d r0 d0 row,look env t=some d∧jm env t=some r0∧Mk C henv rows op d r0 d0 row:=by
 cases op with
 | alloc s z =>
  obtain⟨d,hd,h⟩:=ah h
  cases d with
  | ptr s' r p =>
   obtain⟨rfl,rfl,hl⟩:=h
   refine⟨_,r,.ptr s' rows.length [0],⟨s',[z]⟩,hd,by simp[jm,hd],fun k hk=>hk,hl,fun _ y hy=>?_,fun ρ1 Ny w T v he hv=>?_⟩
   ·simp only[au,List.append_nil]at hy
    exact HX z hf y hy
   ·have:=hv.y7 rfl
    cases this with
    |ptr _ _ _ L h1 h2=>exact VR.bG (.ptr _ _ _ L (by rw[←he];exact h1) h2)
  | _=>exact h.elim
 | ib s m z ps =>
  obtain⟨l,Dq,h⟩:=ah h
  obtain⟨d,hd,h⟩:=ah h
  cases d with
  | sl s' r p off len ex =>
   obtain⟨rfl,rfl,rfl,rfl,rfl,hl⟩:=h
   refine⟨_,r,.sl s' rows.length [] 0 len true,⟨s',l⟩,hd,by simp[jm,hd],fun k hk=>?_,hl,fun he y hy=>jh he hf y hy,fun ρ1 Ny w T v he hv=>?_⟩
   ·show bd (m9 C henv (Sh.ar len s').sub ps (List.replicate len z)) _
    rw[qg (env':=env) wv,Dq]
    exact hk
   ·have:=hv.y7 rfl
    cases this with
    |sl _ _ _ _ _ _ L cap h1 h2 h3 h4=>exact VR.bG (.sl _ _ _ _ _ _ L cap (by rw[←he];exact h1) h2 h3 h4)
    |yP _ _ _ _ _ a=>exact VR.bG (.yP _ _ _ _ _ a)
  | _=>exact h.elim
 | _=>cases hm
theorem SH{o:Oper}{op:mi}{env:Env}{rows dG:Rows}{ρ jj:Pl}{T T0:Nat→Prop}{a:Act}{w w0:World}{d d0:D}{r0:Nat}{row:Row}{next:Act→World→Prop}{Q':Exit→Act→World→Prop}
  (hN:∀f,C.fU f=none)(hC:aI C P)(hop:ZV P o.op=some op)(hq:fJ o.op=true)(hs:dO n ρ T env rows a w)(hg:dM C w T)(M:Mk C env rows op d r0 d0 row)(hr0:ρ r0=none)(hb:dG.length≤r0)(hst:Step jj T0 dG w0 ρ T rows w)
  (hn:∀ρ' T' v w',dO n ρ' T' env rows a w'→VR ρ' w' T' d v→Step jj T0 dG w0 ρ' T' rows w'→dM C w' T'→(∀r,r≠r0→ρ' r=ρ r)→next (a.put o.dst v) w'):o.wp P a w next Q':=by
 refine uY hs hg hC hop (M.run (fun d2 r2=>d2=d0∧r2=rows++[some row]) ⟨rfl,rfl⟩) ?_
 rintro d2 r2 ρ' T' v w' ⟨rfl,rfl⟩ fD cM hv hk
 obtain⟨hqh,oD⟩:=hk hN hq
 have hr0l:=bn M.lv
 let G8:Pl:=fun r=>if r=r0 then ρ' rows.length else ρ r
 have e0:G8 r0=ρ' rows.length:=if_pos rfl
 have e1:∀r,r≠r0→G8 r=ρ r:=fun r hr=>if_neg hr
 have hA:∀r Lc,ρ r=some Lc→G8 r=some Lc:=by
  intro r Lc hr
  rw[e1 r (fun e=>by rw[e,hr0]at hr;cases hr)]
  exact hr
 have wP:∀r Lc,ρ r=some Lc→r<rows.length:=by
  intro r Lc hr
  rcases Nat.lt_or_ge r rows.length with h1|h1
  ·exact h1
  ·rw[hs.ur r h1]at hr;cases hr
 have hw:∀b,T b→w'.heap[b]?=w.heap[b]?:=fun b hb=>by
  rcases hqh b (hs.uo b hb)with h1|⟨_,r,row',Lc,h2,h3,rfl⟩
  ·exact h1
  ·exact absurd hb (hs.bD.row r row' Lc h2 h3).mj
 have hlN:live (rows++[some row]) rows.length=some row:=tG rows row
 have hold:∀r row' Lc,live rows r=some row'→ρ r=some Lc→lH G8 row' Lc w' T':=by
  intro r row' Lc h1 h2
  have hro:=hs.bD.row r row' Lc h1 h2
  refine hro.Vv hA hw cM.tt ((hqh _ hro.lt).imp_right (·.1)) (fun hT=>?_)
  rcases oD _ hT with h4|h4
  ·exact hro.mj h4
  ·have:=hro.lt;omega
 have iB:∀Lc,ρ' rows.length=some Lc→lH G8 row Lc w' T':=by
  intro Lc h
  have hro:=fD.bD.row rows.length row Lc hlN h
  refine⟨hro.sh,hro.mj,hro.els,fun hm=>?_,hro.oQ⟩
  obtain⟨cur,t,q1,q2,q3,q4⟩:=hro.cells hm
  exact⟨cur,t,q1,q2,q3,q4.ofRaw (M.raw hro.els)⟩
 have sO:∀r Lc,ρ r=some Lc→ρ' r=some Lc:=cM.pl
 have tJ:dO n G8 T' env rows a w':=by
  refine⟨⟨fun r row' Lc h1 h2=>?_,fun r r' Di nL Lc EZ h1 h2 h3 h4 hne=>?_⟩,fun t' d' hl=>(hs.env t' d' hl).mono hA hw cM.tt,fD.size,fD.uo,fun r hr=>?_,fD.defers⟩
  ·by_cases hr:r=r0
   ·subst hr
    rw[M.lv]at h1
    cases h1
    rw[e0]at h2
    exact iB Lc h2
   ·rw[e1 r hr]at h2
    exact hold r row' Lc h1 h2
  ·by_cases hr:r=r0
   ·have sF:r'≠r0:=fun e=>hne (hr.trans e.symm)
    subst hr
    rw[e0]at h3
    rw[e1 r' sF]at h4
    have mh:=wP r' EZ h4
    exact fD.bD.jg rows.length r' row nL Lc EZ hlN (by rw[fj rfl mh];exact h2) h3 (sO _ _ h4) (by omega)
   ·rw[e1 r hr]at h3
    have hl:=wP r Lc h3
    by_cases sF:r'=r0
    ·subst sF
     rw[e0]at h4
     exact fD.bD.jg r rows.length Di row Lc EZ (by rw[fj rfl hl];exact h1) hlN (sO _ _ h3) h4 (by omega)
    ·rw[e1 r' sF]at h4
     exact hs.bD.jg r r' Di nL Lc EZ h1 h2 h3 h4 hne
  ·rw[e1 r (by omega)]
   exact hs.ur r hr
 have htr:=hst.trans cM
 refine hn G8 T' v w' tJ (M.vr ρ' G8 w' T' v e0.symm hv) ⟨fun r Lc hr=>hA r Lc (hst.pl r Lc hr),htr.tt,htr.um,htr.size,htr.keep,fun r row' Lc h1 h2=>?_,htr.os,htr.tape,htr.output,hst.len,fun r hr=>?_⟩ (hg.step hs cM) e1
 ·by_cases hr:r=r0
  ·subst hr
   rw[e0]at h2
   exact htr.fresh rows.length row Lc hlN h2
  ·rw[e1 r hr]at h2
   have hl:=wP r Lc h2
   exact htr.fresh r row' Lc (by rw[fj rfl hl];exact h1) (sO _ _ h2)
 ·rw[e1 r (by omega)]
  exact hst.same r hr
theorem yd{env:Env}{rows:Rows}:∀{l:List aT} {y:aT},oN C env rows l→y∈l→∃t,y.dst=some t∧jc C env rows y.op t
 |[],y,_,h=>by simp at h
 | x :: l, y, h, hy => by
  rcases List.mem_cons.1 hy with rfl|hy
  ·have h1:=h.1
   cases hd:y.dst with
   |none=>rw[hd]at h1;exact h1.elim
   |some t=>rw[hd]at h1;exact⟨t,rfl,h1⟩
  ·exact yd h.2 hy
theorem Jh{env:Env}{rows:Rows}{o:mi}{t:Nat}(hm:qM o=false)(h:jc C env rows o t):df C env rows o (yZ env rows (some t)):=by
 cases o with
 |alloc s z=>cases hm
 |ib s m z ps=>cases hm
 | _=>exact h
theorem LG{ops:Array Oper}{al:List aT}{L:Array Bool}(ja:∀i,done L i→∀j,uF ops.toList i j=true→done L j){i:Nat}(hr:∀j,uF ops.toList i j=true→done L j):∀(gs:List (Nat×List Nat)) (F:List Nat) (p:Nat),UR ops.toList al (some p) F gs=true→¬done L p→(∀g∈gs,¬done L g.1)→GY gs i=true→False
 |[],_,_,_,_,_,h=>by simp[GY]at h
 | (c, fl) :: gs, F, p, hok, hp, hg, h => by
  simp only[UR,Bool.and_eq_true]at hok
  obtain⟨⟨⟨⟨h1,h2⟩,h3⟩,h4⟩,h5⟩:=hok
  have hc:¬done L c:=hg _ (.head _)
  simp only[GY,List.any_cons,Bool.or_eq_true]at h
  rcases h with(h|h)|h
  ·have:c=i:=by simpa using h
   subst this
   simp only[okC,Bool.and_eq_true]at h1
   exact hp (jS ja 2 c p hr h1.1.2)
  ·have hm:i∈fl:=by simpa using h
   exact hc (jS ja 2 i c hr ((ni h4 i hm).2.1 c rfl))
  ·exact LG ja hr gs (F++fl) c h5 hc (fun g NA=>hg g (.tail _ NA)) h
def Wf(L:Array Bool)(gs:List (Nat×List Nat)):Prop:=∀i,GY gs i=true→¬done L i
theorem SI {ops : Array Oper} {al : List aT} (hd : N6 C P n ops al 0) {K : Env → Rows → Prop} {Q' : Exit → Act → World → Prop} {jj : Pl} {T0 : Nat → Prop} {dG : Rows} {w0 : World}
  (hK:∀env' ab ρ' T' a' w',K env' ab→dO n ρ' T' env' ab a' w'→Step jj T0 dG w0 ρ' T' ab w'→Q' .normal a' w'):
  ∀(fuel:Nat) (gs:List (Nat×List Nat)) (F Pd:List Nat) (prev:Option Nat) (L:Array Bool) (env:Env) (rows:Rows) (ρ:Pl) (T:Nat→Prop) (a:Act) (w:World),(∀j∈F,¬done L j→j∈Pd)→iW L ops.size≤fuel→L.size=ops.size→
   UR ops.toList al prev F gs=true→(∀i,i<ops.size→i∈F∨done L i∨GY gs i=true)→(∀c,prev=some c→done L c)→Wf L gs→
   (∀i∈F,fOK ops.toList al i=true∧∀x,al[i]?=some x→∀t∈nf x,∀j,j<ops.size→bF al j=some t→uF ops.toList i j=true)→(∀i∈F,∀j∈F,i≠j→bF al i≠bF al j)→
   (∀i,done L i→∀j,uF ops.toList i j=true→done L j)→(∀j,j∈F→¬done L j→∃y t,al[j]?=some y∧y.dst=some t∧jc C.quiet env rows y.op t)→Wc al F L dG.length env rows ρ→
   xc C (Es ops.toList al Pd gs) env rows K→dO n ρ T (wQ al F L env) rows a w→dM C w T→Step jj T0 dG w0 ρ T rows w→wpAny P .any ops Q' fuel L a w:=by
 obtain⟨hlen,jz⟩:=hd.get
 intro fuel
 have fin:∀(gs:List (Nat×List Nat)) (F Pd:List Nat) (L:Array Bool) (env:Env) (rows:Rows) (ρ:Pl) (T:Nat→Prop) (a:Act) (w:World),Wf L gs→(∀j∈F,j<ops.size)→(∀g∈gs,g.1<ops.size)→(∀j,j<ops.size→done L j)→xc C (Es ops.toList al Pd gs) env rows K→dO n ρ T (wQ al F L env) rows a w→Step jj T0 dG w0 ρ T rows w→Q' .normal a w:=by
  intro gs F Pd L env rows ρ T a w U2 hF hG bY h hs hst
  cases gs with
  |cons g gs=>
   exfalso
   exact U2 g.1 (by simp[GY]) (bY g.1 (hG g (.head _)))
  |nil=>exact hK env rows ρ T a w h (hs.ext fun t d hl=>by rw[lc (fun j hj hn=>absurd (bY j (hF j hj)) hn)];exact hl) hst
 have VV : ∀ (L : Array Bool), L.size = ops.size → (∃ j, j < ops.size ∧ ¬ done L j) → ∃ j, j ∈ Region.ready .any ops L := by
  intro L hsz ⟨j,hj,hn⟩
  have key : ∀ q, (∀ j, j < q → done L j) ∨ ∃ j, j < q ∧ ¬ done L j ∧ ∀ j', j' < j → done L j' := by
   intro q
   induction q with
   |zero=>left;intro j hj;omega
   | succ q ih =>
    rcases ih with h1|⟨j,q1,q2,q3⟩
    ·by_cases hq:done L q
     ·left;intro j hj
      rcases Nat.lt_or_ge j q with h2|h2
      ·exact h1 j h2
      ·have:j=q:=by omega
       subst this;exact hq
     ·exact .inr ⟨q,by omega,hq,h1⟩
    ·exact .inr ⟨j,by omega,q2,q3⟩
  rcases key ops.size with h1|⟨j',q1,q2,q3⟩
  ·exact absurd (h1 j hj) hn
  ·exact⟨j',u7 q1 (lO q2 (by omega)) (fun j'' hj''=>q3 j'' (hd.ok.back j' j'' hj''))⟩
 have Je:∀(L:Array Bool),L.size=ops.size→Region.ready .any ops L=[]→∀j,j<ops.size→done L j:=by
  intro L hsz hr j hj
  refine Classical.byContradiction fun hn=>?_
  obtain⟨i,hi⟩:=VV L hsz ⟨j,hj,hn⟩
  rw[hr]at hi
  cases hi
 have ltF:∀(F:List Nat),(∀i∈F,fOK ops.toList al i=true∧∀x,al[i]?=some x→∀t∈nf x,∀j,j<ops.size→bF al j=some t→uF ops.toList i j=true)→∀j∈F,j<ops.size:=by
  intro F h j hj
  obtain⟨o,_,_,ho,_⟩:=rz (h j hj).1
  have:=cN ho
  simpa using this
 have ltG:∀(gs:List (Nat×List Nat)) (F:List Nat) (prev:Option Nat),UR ops.toList al prev F gs=true→∀g∈gs,g.1<ops.size:=by
  intro gs
  induction gs with
  |nil=>intro F prev _ g hg;simp at hg
  | cons g gs ih =>
   obtain⟨c,fl⟩:=g
   intro F prev hok g hg
   simp only[UR,Bool.and_eq_true]at hok
   obtain⟨⟨⟨⟨h1,h2⟩,h3⟩,h4⟩,h5⟩:=hok
   rcases List.mem_cons.1 hg with rfl|hg
   ·simp only[okC,Bool.and_eq_true]at h1
    have h6:=h1.2
    split at h6
    ·rename_i x hx
     have:=cN hx
     show c<ops.size
     omega
    ·cases h6
   ·exact ih (F++fl) (some c) h5 g hg
 induction fuel with
 | zero =>
  intro gs F Pd prev L env rows ρ T a w hPd hf hsz hok hcov hprev U2 HY hFd ja hob hI h hs hg hst
  have bY:∀j,j<ops.size→done L j:=by
   intro j hj
   refine Classical.byContradiction fun hn=>?_
   have:=jl hj (by omega) (lO hn (by omega))
   omega
  refine⟨?_,fin gs F Pd L env rows ρ T a w U2 (ltF F HY) (ltG gs F prev hok) bY h hs hst⟩
  cases hr:Region.ready .any ops L with
  |nil=>rfl
  |cons i l=>
   exfalso
   obtain⟨⟨o,ho⟩,h1,_⟩:=iF (L:=L) (ops:=ops) (i:=i) (by rw[hr];simp)
   exact(qi h1).1 (bY i (Array.getElem?_eq_some_iff.1 ho).1)
 | succ fuel ih =>
  intro gs F Pd prev L env rows ρ T a w hPd hf hsz hok hcov hprev U2 HY hFd ja hob hI h hs hg hst
  refine⟨fun hr=>?_,fun i hi=>?_⟩
  ·exact fin gs F Pd L env rows ρ T a w U2 (ltF F HY) (ltG gs F prev hok) (Je L hsz hr) h hs hst
  ·obtain ⟨⟨o', N7⟩, h1, h2⟩ := iF hi
   have uv:i<ops.size:=(Array.getElem?_eq_some_iff.1 N7).1
   obtain⟨Cj,ox⟩:=qi h1
   obtain⟨o,x,ho,hx,q1,q2,q3,q4⟩:=jz i uv
   have SA:iW (L.setIfInBounds i true) ops.size≤fuel:=by have:=jl uv ox h1;omega
   have SB:∀i',done (L.setIfInBounds i true) i'→∀j,uF ops.toList i' j=true→done (L.setIfInBounds i true) j:=by
    intro i' hi' j hj
    refine(bW ox).2 (.inl ?_)
    rcases(bW ox).1 hi' with h3|h3
    ·exact ja i' h3 j hj
    ·subst h3;exact h2 j hj
   have sZ:∀j,¬done (L.setIfInBounds i true) j→¬done L j:=fun j hn pZ=>hn ((bW ox).2 (.inl pZ))
   by_cases hiF:i∈F
   · -- it comes when it will
    obtain⟨y,t,hy,E1,hya⟩:=hob i hiF Cj
    rw[hx]at hy
    cases hy
    obtain⟨o2,x2,t2,ho2,zj,hfa,hqo,hgn,_⟩:=rz (HY i hiF).1
    have ho2':ops[i]?=some o2:=by simpa using ho2
    rw[ho]at ho2'
    cases ho2'
    rw[hx]at zj
    cases zj
    have hti:bF al i=some t:=by simp[bF,hx,E1]
    have wv:∀t',t'∈nf x→look (wQ al F L env) t'=look env t':=fun t' wO=>lc fun j hj hn he=>hn (h2 j ((HY i hiF).2 x hx t' wO j (ltF F HY j hj) he))
    have hru' : Wf (L.setIfInBounds i true) gs := by
     intro j hj pZ
     rcases(bW ox).1 pZ with h5|h5
     ·exact U2 j hj h5
     ·subst h5
      exact absurd Cj (by
       intro _
       exact U2 j hj |> fun hh => by
        --i lies in F and among the rest
        have:GY gs j=true:=hj
        exact absurd hiF (by
         have key : ∀ (gs : List (Nat × List Nat)) (F : List Nat) (prev : Option Nat), UR ops.toList al prev F gs = true → GY gs j = true → j ∉ F := by
          intro gs
          induction gs with
          |nil=>intro F prev _ hh;simp[GY]at hh
          | cons g gs ihg =>
           obtain⟨c,fl⟩:=g
           intro F prev hok hh
           simp only[UR,Bool.and_eq_true]at hok
           obtain⟨⟨⟨⟨k1,k2⟩,k3⟩,k4⟩,k5⟩:=hok
           simp only[GY,List.any_cons,Bool.or_eq_true]at hh
           rcases hh with(hh|hh)|hh
           ·have:c=j:=by simpa using hh
            subst this
            simp only[okC,Bool.and_eq_true]at k1
            simpa using k1.1.1
           ·have hm:j∈fl:=by simpa using hh
            have fresh:∀(fl F:List Nat),A5 ops.toList al (some c) F fl=true→j∈fl→j∉F:=by
             intro fl
             induction fl with
             |nil=>intro F _ hm;simp at hm
             |cons q fl ihf=>
              intro F hk hm
              simp only[A5,Bool.and_eq_true]at hk
              rcases List.mem_cons.1 hm with rfl|hm
              ·exact(rA hk.1).2.1
              ·exact fun hF=>ihf (F++[q]) hk.2 hm (List.mem_append_left _ hF)
            exact fresh fl F k4 hm
           ·exact fun hF=>ihg (F++fl) (some c) k5 hh (List.mem_append_left _ hF)
         exact key gs F prev hok this))
    have hcov':∀j,j<ops.size→j∈F∨done (L.setIfInBounds i true) j∨GY gs j=true:=fun j hj=>(hcov j hj).imp_right (fun h5=>h5.imp_left (fun h6=>(bW ox).2 (.inl h6)))
    have Wg:∀c,prev=some c→done (L.setIfInBounds i true) c:=fun c hc=>(bW ox).2 (.inl (hprev c hc))
    have hob':∀j,j∈F→¬done (L.setIfInBounds i true) j→∃y t,al[j]?=some y∧y.dst=some t∧jc C.quiet env rows y.op t:=fun j hj hn=>hob j hj (sZ j hn)
    have hsim:∀(ρ':Pl) (T':Nat→Prop) (v:Value) (w':World) (d:D),look env t=some d→dO n ρ' T' (wQ al F L env) rows a w'→VR ρ' w' T' d v→dO n ρ' T' (wQ al F (L.setIfInBounds i true) env) rows (a.put o.dst v) w':=by
     intro ρ' T' v w' d HV fD hv
     have tJ:=fD.put hv (dst:=o.dst) (wq q1)
     rw[←q4,E1]at tJ⊢
     refine tJ.ext fun t' d' hl=>?_
     obtain⟨h5,h6⟩:=ic hl
     simp only[put,look]
     cases Qv:(t==t')with
     |true=>
      have:t=t':=by simpa using Qv
      subst this
      rw[HV]at h5
      simpa using h5
     | false =>
      have hne:t≠t':=by simpa using Qv
      simp only[cond_false]
      rw[lc fun j hj hn he=>?_]
      ·exact h5
      ·by_cases Qt:j=i
       ·subst Qt
        rw[hti]at he
        exact hne (Option.some.inj he)
       ·exact h6 j hj (fun pZ=>(bW ox).1 pZ|>.elim (fun h7=>hn h7) (fun h7=>Qt h7)) he
    have NM:∀y∈x.op.xs,ev C.quiet (wQ al F L env) y=ev C.quiet env y:=by
     intro y hy
     cases y with
     |tmp t'=>exact wv t' (List.mem_append_left _ (sY hy))
     |const _=>rfl
     |aZ _=>rfl
    cases hm:qM x.op with
    | true =>
     obtain⟨d,r0,d0,row,HV,hhole,M⟩:=mk_of hm hfa NM hya
     obtain⟨r,g1,g2,g3,g4⟩:=hI.hole i hiF Cj x t hx E1 hm
     rw[hhole]at g1
     cases g1
     unfold wpOp
     simp only[ho]
     have N4:o.guard=none:=by
      cases N4:o.guard with
      |none=>rfl
      | some jw =>
       rw[N4]at q3
       obtain⟨j,want⟩:=jw
       simp only[kn]at q3
       split at q3
       ·split at q3
        ·rw[hgn]at q3;cases q3
        ·cases q3
       ·cases q3
     have hwt:Region.wanted o (yielded ops a.tmps)=true:=by simp[Region.wanted,N4]
     rw[if_pos hwt]
     refine .inl (SH (C:=C.quiet) (fun _=>rfl) hd.ctx.quiet q2 hqo hs hg M g4 g2 hst ?_)
     intro ρ' T' v w' fD hv cM NA hρ
     refine ih gs F Pd prev _ env rows ρ' T' _ w' (fun j hj hn=>hPd j hj (sZ j hn)) SA (by simpa using hsz) hok hcov' Wg hru' HY hFd SB hob' ⟨fun j hj Ck x1 t1 pS KL qj=>?_,fun j j' hj mr Ck Jg=>hI.jg j j' hj mr (sZ j Ck) (sZ j' Jg)⟩ h (hsim ρ' T' v w' d HV fD hv) NA cM
     obtain⟨r1,p1,p2,p3,p4⟩:=hI.hole j hj (sZ j Ck) x1 t1 pS KL qj
     have Qt:j≠i:=fun e=>Ck ((bW ox).2 (.inr e))
     have hne:r1≠r0:=fun e=>by
      have:=hI.jg j i hj hiF (sZ j Ck) Cj Qt x1 t1 x t pS KL qj hx E1 hm
      rw[p1,hhole,e]at this
      exact this rfl
     exact⟨r1,p1,p2,p3,by rw[hρ r1 hne];exact p4⟩
    | false =>
     have hya:=Jh hm hya
     have hst1:dt C.quiet [x] env rows (fun env' ab=>env'=put x.dst ((look env t).getD default) env∧look env t=some ((look env t).getD default)∧ab=rows):=by
      obtain⟨dst,op,g⟩:=x
      simp only at hgn E1
      subst hgn
      subst E1
      show df C.quiet env rows op _
      have e:(fun d ab=>dt C.quiet [] (put (some t) d env) ab fun env' ab=>env'=put (some t) ((look env t).getD default) env∧look env t=some ((look env t).getD default)∧ab=rows)=yZ env rows (some t):=by
       funext d r
       simp only[dt,yZ,put]
       apply propext
       constructor
       ·rintro⟨e1,e2,e3⟩
        cases e1
        exact⟨e2,e3⟩
       ·rintro⟨e1,e2⟩
        rw[e1]
        exact⟨rfl,rfl,e2⟩
      rw[e]
      exact hya
     refine zk (C:=C.quiet) hd.ctx.quiet ho q1 q2 q3 q4 hs hg (zm wv hst1) ?_
     intro env' ab ρ' T' a' w' h' fD cM
     rw[E1]at h'
     obtain⟨d,rfl,h3,h4,rfl⟩:=h'
     have HV:look env t=some d:=by
      simp only[put,E1]at h3
      cases h3
      exact h4
     refine ih gs F Pd prev _ env ab ρ' T' a' w' (fun j hj hn=>hPd j hj (sZ j hn)) SA (by simpa using hsz) hok hcov' Wg hru' HY hFd SB hob' ⟨fun j hj Ck x1 t1 pS KL qj=>?_,fun j j' hj mr Ck Jg=>hI.jg j j' hj mr (sZ j Ck) (sZ j' Jg)⟩ h
      (fD.ext fun t' d' hl=>?_) (hg.step hs cM) (hst.trans cM)
     ·obtain⟨r1,p1,p2,p3,p4⟩:=hI.hole j hj (sZ j Ck) x1 t1 pS KL qj
      exact⟨r1,p1,p2,p3,by rw[cM.same r1 p3];exact p4⟩
     ·obtain⟨h5,h6⟩:=ic hl
      simp only[look]
      cases Qv:(t==t')with
      |true=>
       have:t=t':=by simpa using Qv
       subst this
       rw[HV]at h5
       simpa using h5
      | false =>
       have hne:t≠t':=by simpa using Qv
       simp only[cond_false]
       rw[lc fun j hj hn he=>?_]
       ·exact h5
       ·by_cases Qt:j=i
        ·subst Qt
         rw[hti]at he
         exact hne (Option.some.inj he)
        ·exact h6 j hj (fun pZ=>(bW ox).1 pZ|>.elim (fun h7=>hn h7) (fun h7=>Qt h7)) he
   · -- the next one of the text's order
    have hin:GY gs i=true:=by
     rcases hcov i uv with h3|h3|h3
     ·exact absurd h3 hiF
     ·exact absurd h3 Cj
     ·exact h3
    cases gs with
    |nil=>simp[GY]at hin
    | cons g gs =>
     obtain⟨c,fl⟩:=g
     have hok0:=hok
     simp only[UR,Bool.and_eq_true]at hok
     obtain⟨⟨⟨⟨k1,k2⟩,k3⟩,k4⟩,k5⟩:=hok
     have hcU:¬done L c:=U2 c (by simp[GY])
     have hie:i=c:=by
      simp only[GY,List.any_cons,Bool.or_eq_true]at hin
      rcases hin with(hh|hh)|hh
      ·have:c=i:=by simpa using hh
       exact this.symm
      ·have hm:i∈fl:=by simpa using hh
       exact absurd (jS ja 2 i c h2 ((ni k4 i hm).2.1 c rfl)) hcU
      ·exact(LG ja h2 gs (F++fl) c k5 hcU (fun g NA=>U2 g.1 (by
        simp only[GY,List.any_cons,Bool.or_eq_true]
        exact .inr (List.any_eq_true.2 ⟨g,NA,by simp⟩))) hh).elim
     subst hie
     simp only[Es,hx]at h
     simp only[okC,Bool.and_eq_true,hx]at k1
     obtain⟨⟨_,_⟩,k6⟩:=k1
     have E2:∀j,j∈F→¬done L j→j∈K1 ops.toList Pd i∧∃t,bF al j=some t∧x.dst≠some t∧t∉nf x:=by
      intro j hj hn
      have hna:G6 ops.toList 2 i j=false:=by
       cases hb:G6 ops.toList 2 i j with
       |false=>rfl
       |true=>exact absurd (jS ja 2 i j h2 hb) hn
      refine⟨by simp[K1,hPd j hj hn,hna],?_⟩
      have:=List.all_eq_true.1 k6 j hj
      rw[hna,Bool.false_or]at this
      split at this
      ·rename_i t ht
       simp only[Bool.and_eq_true]at this
       exact⟨t,ht,by simpa using this.1,by simpa using this.2⟩
      ·cases this
     have wv:∀t',t'∈nf x→look (wQ al F L env) t'=look env t':=fun t' wO=>lc fun j hj hn he=>by
      obtain⟨_,t,ht,_,hyu⟩:=E2 j hj hn
      rw[ht]at he
      cases he
      exact hyu wO
     refine zk hd.ctx ho q1 q2 q3 q4 hs hg (zm wv h) ?_
     intro env' ab ρ' T' a' w' h' fD cM
     have Lz:∀j,j∈F→¬done L j→¬done (L.setIfInBounds i true) j:=fun j hj hn pZ=>(bW ox).1 pZ|>.elim (fun h7=>hn h7) (fun h7=>hiF (h7▸hj))
     have hslot:∀j,j∈F→¬done L j→∀t,bF al j=some t→x.dst≠some t:=by
      intro j hj hn t ht
      obtain⟨_,t',wO,hne,_⟩:=E2 j hj hn
      rw[ht]at wO
      cases wO
      exact hne
     obtain⟨lM,tJ,hlk2,Lx⟩:∃lM,dO n ρ' T' (wQ al F (L.setIfInBounds i true) lM) ab a' w'∧(∀t,x.dst≠some t→look lM t=look env t)∧dt C.quiet (RY al fl) lM ab (fun env rows=>oN C.quiet env rows (RY al (K1 ops.toList Pd i++fl))∧xc C (Es ops.toList al (K1 ops.toList Pd i++fl) gs) env rows K):=by
      simp only[dt,KH]at h'
      cases hxd:x.dst with
      |none=>
       rw[hxd]at h'
       obtain⟨rfl,h3⟩:=h'
       refine⟨env,fD.ext fun t' d' hl=>?_,fun t _=>rfl,h3⟩
       obtain⟨h5,h6⟩:=ic hl
       rw[lc fun j hj hn=>h6 j hj (Lz j hj hn)]
       exact h5
      | some t =>
       rw[hxd]at h'
       obtain⟨d,rfl,h3⟩:=h'
       refine⟨(t,d)::env,fD.ext fun t' d' hl=>?_,fun t' wO=>?_,h3⟩
       ·obtain⟨h5,h6⟩:=ic hl
        simp only[look]at h5⊢
        cases Qv:(t==t')with
        |true=>rw[Qv]at h5;exact h5
        |false=>
         rw[Qv]at h5
         simp only[cond_false]at h5⊢
         rw[lc fun j hj hn=>h6 j hj (Lz j hj hn)]
         exact h5
       ·have:(t==t')=false:=by
         have:t≠t':=fun e=>wO (by rw[e])
         simpa using this
        simp[look,this]
     have hI2:Wc al F (L.setIfInBounds i true) dG.length lM ab ρ':=by
      have hh:∀j,j∈F→¬done L j→∀t,bF al j=some t→jm lM t=jm env t:=by
       intro j hj hn t ht
       unfold jm
       rw[hlk2 t (hslot j hj hn t ht)]
      refine⟨fun j hj Ck x1 t1 pS KL qj=>?_,fun j j' hj mr Ck Jg hne x1 t1 x2 t2 pS KL qj zj ht2 LF=>?_⟩
      ·obtain⟨r1,p1,p2,p3,p4⟩:=hI.hole j hj (sZ j Ck) x1 t1 pS KL qj
       exact⟨r1,by rw[hh j hj (sZ j Ck) t1 (by simp[bF,pS,KL])];exact p1,p2,Nat.lt_of_lt_of_le p3 cM.len,by rw[cM.same r1 p3];exact p4⟩
      ·rw[hh j hj (sZ j Ck) t1 (by simp[bF,pS,KL]),hh j' mr (sZ j' Jg) t2 (by simp[bF,zj,ht2])]
       exact hI.jg j j' hj mr (sZ j Ck) (sZ j' Jg) hne x1 t1 x2 t2 pS KL qj zj ht2 LF
     have hflU:∀j∈fl,¬done (L.setIfInBounds i true) j:=by
      intro j hj pZ
      rcases(bW ox).1 pZ with h5|h5
      ·exact U2 j (by simp only[GY,List.any_cons,Bool.or_eq_true];exact .inl (.inr (by simpa using hj))) h5
      ·subst h5
       simp only[List.contains_eq_mem,decide_eq_true_eq,Bool.not_eq_true',decide_eq_false_iff_not]at k3
       exact k3 hj
     have HF:dG.length≤ab.length:=Nat.le_trans hst.len cM.len
     obtain⟨Wh,lg,⟨Wi,SC⟩,hI3,Z0,new,iB⟩:=E4 (C:=C.quiet) (fun _=>rfl) fl F lM ab k4 Lx hflU hI2 HF tJ
     have hstep3:Step jj T0 dG w0 ρ' T' lg w':=by
      have h0:=hst.trans cM
      have wP:∀r Lc,ρ' r=some Lc→r<ab.length:=by
       intro r Lc hr
       rcases Nat.lt_or_ge r ab.length with h1|h1
       ·exact h1
       ·rw[fD.ur r h1]at hr;cases hr
      refine⟨h0.pl,h0.tt,h0.um,h0.size,h0.keep,fun r row Lc p1 p2=>?_,h0.os,h0.tape,h0.output,by rw[iB,List.length_append];have:=h0.len;omega,h0.same⟩
      rw[fj iB (wP r Lc p2)]at p1
      exact h0.fresh r row Lc p1 p2
     refine ih gs (F++fl) (K1 ops.toList Pd i++fl) (some i) _ Wh lg ρ' T' a' w' (fun j hj hn=>?_) SA (by simpa using hsz) k5 (fun j hj=>?_) (fun c hc=>by cases hc;exact(bW ox).2 (.inr rfl)) (fun j hj pZ=>?_) (fun j hj=>?_) (fun j hj j' mr hne=>?_) SB (fun j hj hn=>?_) hI3 SC Z0 (hg.step hs cM) hstep3
     ·rcases List.mem_append.1 hj with hj|hj
      ·exact List.mem_append_left _ (E2 j hj (sZ j hn)).1
      ·exact List.mem_append_right _ hj
     ·rcases hcov j hj with h5|h5|h5
      ·exact .inl (List.mem_append_left _ h5)
      ·exact .inr (.inl ((bW ox).2 (.inl h5)))
      ·simp only[GY,List.any_cons,Bool.or_eq_true]at h5
       rcases h5 with(h5|h5)|h5
       ·exact .inr (.inl ((bW ox).2 (.inr (by simpa using(Eq.symm (by simpa using h5))))))
       ·exact .inl (List.mem_append_right _ (by simpa using h5))
       ·exact .inr (.inr h5)
     ·have hj0:GY ((i,fl)::gs) j=true:=by simp only[GY,List.any_cons,Bool.or_eq_true];exact .inr hj
      rcases(bW ox).1 pZ with h5|h5
      ·exact U2 j hj0 h5
      ·subst h5
       obtain⟨g,Sy,Nv⟩:=List.any_eq_true.1 hj
       simp only[Bool.or_eq_true]at Nv
       rcases Nv with Nv|Nv
       ·have:=List.all_eq_true.1 k2 g Sy
        simp only[bne,Bool.not_eq_true']at this
        rw[this]at Nv
        cases Nv
       · -- it would come when it will behind a later one
        have hm:j∈g.2:=by simpa using Nv
        have key:∀(gs:List (Nat×List Nat)) (F:List Nat) (prev:Option Nat),UR ops.toList al prev F gs=true→∀g∈gs,j∈g.2→G6 ops.toList 2 j g.1=true:=by
         intro gs
         induction gs with
         |nil=>intro F prev _ g hg;simp at hg
         |cons g0 gs ihg=>
          obtain⟨c0,fl0⟩:=g0
          intro F prev hok g hg hm
          simp only[UR,Bool.and_eq_true]at hok
          obtain⟨⟨⟨⟨r1,r2⟩,r3⟩,r4⟩,r5⟩:=hok
          rcases List.mem_cons.1 hg with rfl|hg
          ·exact(ni r4 j hm).2.1 c0 rfl
          ·exact ihg (F++fl0) (some c0) r5 g hg hm
        have han:=key gs (F++fl) (some j) k5 g Sy hm
        exact U2 g.1 (by
         simp only[GY,List.any_cons,Bool.or_eq_true]
         exact .inr (List.any_eq_true.2 ⟨g,Sy,by simp⟩)) (jS ja 2 j g.1 h2 han)
     ·rcases List.mem_append.1 hj with hj|hj
      ·exact HY j hj
      ·obtain⟨r1,_,r3⟩:=ni k4 j hj
       exact⟨r1,fun x' hx' t ht j' mr=>r3 x' hx' t ht j' (by simpa using mr)⟩
     ·have uq:∀(fl F:List Nat),A5 ops.toList al (some i) F fl=true→(∀p∈F,∀q∈F,p≠q→bF al p≠bF al q)→∀p∈F++fl,∀q∈F++fl,p≠q→bF al p≠bF al q:=by
       intro fl
       induction fl with
       |nil=>intro F _ hF p hp q hq;simp at hp hq;exact hF p hp q hq
       |cons e fl ihf=>
        intro F hk hF p hp q hq
        simp only[A5,Bool.and_eq_true]at hk
        obtain⟨_,_,u3,_,_⟩:=rA hk.1
        refine ihf (F++[e]) hk.2 (fun p hp q hq hne=>?_) p (by simpa using hp) q (by simpa using hq)
        rcases List.mem_append.1 hp with hp|hp<;>rcases List.mem_append.1 hq with hq|hq
        ·exact hF p hp q hq hne
        ·rw[List.mem_singleton.1 hq];exact u3 p hp
        ·rw[List.mem_singleton.1 hp];exact(u3 q hq).symm
        ·exact absurd ((List.mem_singleton.1 hp).trans (List.mem_singleton.1 hq).symm) hne
      exact uq fl F k4 hFd j hj j' mr hne
     ·have So:∃y,al[j]?=some y:=by
       rcases List.mem_append.1 hj with hj|hj
       ·obtain⟨_,y,_,_,hy,_⟩:=rz (HY j hj).1
        exact⟨y,hy⟩
       ·obtain⟨_,y,_,_,hy,_⟩:=rz (ni k4 j hj).1
        exact⟨y,hy⟩
      obtain⟨y,hy⟩:=So
      have hin2:y∈RY al (K1 ops.toList Pd i++fl):=by
       refine List.mem_filterMap.2 ⟨j,?_,hy⟩
       rcases List.mem_append.1 hj with hj|hj
       ·exact List.mem_append_left _ (E2 j hj (sZ j hn)).1
       ·exact List.mem_append_right _ hj
      obtain⟨t,ht,hstb⟩:=yd Wi hin2
      exact⟨y,t,hy,ht,hstb⟩
theorem LH(hC:aI C P)(hP:P.follows .mixedOrders=true){id:Nat}{ops:Array Oper}{al:List aT}{f0:List Nat}{gs:List (Nat×List Nat)}(hc:uN P n ops.toList ops.toList=some al)(hd:dOK3 ops.toList al f0 gs=true)
  {env:Env}{rows:Rows}{ρ:Pl}{T:Nat→Prop}{a:Act}{w:World}{Q:fa→Env→Rows→Prop}{Q':Exit→Act→World→Prop}
  (h:dt C.quiet (RY al f0) env rows fun env rows=>oN C.quiet env rows (RY al f0)∧xc C (Es ops.toList al f0 gs) env rows (Q .normal))(hs:dO n ρ T env rows a w)(hg:dM C w T)
  (hp:Post n ρ T rows w Q Q'):(Code.region id ops true).wp P Q' a w:=by
 simp only[dOK3,Bool.and_eq_true]at hd
 obtain⟨⟨⟨d1,d2⟩,d3⟩,d4⟩:=hd
 have hok0:V7 ops.toList al 0:=Bg (by simp[Nat.ble]) d1 (by simp)
 have hD:N6 C P n ops al 0:=⟨hok0,hc,hC⟩
 have hw1:dO n ρ T env rows a {w with drawn:=w.drawn+1}:=hs.heap rfl
 have Sy:dM C {w with drawn:=w.drawn+1} T:=hg.keep (fun _ _=>rfl) (fun _ h=>h)
 have N8:∀j,¬done (Array.replicate ops.size false) j:=by
  intro j hj
  unfold done at hj
  simp[Array.getD]at hj
 have Ce:dO n ρ T (wQ al [] (Array.replicate ops.size false) env) rows a {w with drawn:=w.drawn+1}:=hw1.ext fun t d hl=>(ic hl).1
 obtain⟨Wh,lg,⟨Wi,SC⟩,hI3,Z0,new,iB⟩:=E4 (C:=C.quiet) (L:=Array.replicate ops.size false) (b0:=rows.length) (fun _=>rfl) f0 [] env rows d3 h (fun j _=>N8 j) ⟨fun j hj=>by simp at hj,fun j j' hj=>by simp at hj⟩ (Nat.le_refl _) Ce
 rw[List.nil_append]at hI3 Z0
 refine wp_region_any hP (SI hD (jj:=ρ) (T0:=T) (dG:=rows) (w0:={w with drawn:=w.drawn+1}) (K:=Q .normal) ?_ ops.size gs f0 f0 none _ Wh lg ρ T a _ (fun j hj _=>hj) ?_ (by simp) d4 (fun i hi=>?_) (fun c hc=>by cases hc) (fun i _=>N8 i) (fun i hi=>?_) (fun i hi j hj hne=>?_) (fun i hi=>absurd hi (N8 i)) (fun j hj _=>?_) hI3 SC Z0 Sy ?_)
 ·intro env' ab ρ' T' a' w' hk fD cM
  exact hp .normal env' ab ρ' T' a' w' hk fD ⟨cM.pl,cM.tt,cM.um,cM.size,cM.keep,cM.fresh,cM.os,cM.tape,cM.output,cM.len,cM.same⟩
 ·unfold iW
  exact Nat.le_trans (List.length_filter_le _ _) (by simp)
 ·have:=List.all_eq_true.1 d2 i (by simpa using hi)
  rcases Bool.or_eq_true_iff.1 this with h1|h1
  ·exact .inl (by simpa using h1)
  ·exact .inr (.inr h1)
 ·obtain⟨r1,_,r3⟩:=ni d3 i hi
  exact⟨r1,fun x' hx' t ht j' mr=>r3 x' hx' t ht j' (by simpa using mr)⟩
 ·have uq:∀(fl F:List Nat),A5 ops.toList al none F fl=true→(∀p∈F,∀q∈F,p≠q→bF al p≠bF al q)→∀p∈F++fl,∀q∈F++fl,p≠q→bF al p≠bF al q:=by
   intro fl
   induction fl with
   |nil=>intro F _ hF p hp q hq;simp at hp hq;exact hF p hp q hq
   |cons e fl ihf=>
    intro F hk hF p hp q hq
    simp only[A5,Bool.and_eq_true]at hk
    obtain⟨_,_,u3,_,_⟩:=rA hk.1
    refine ihf (F++[e]) hk.2 (fun p hp q hq hne=>?_) p (by simpa using hp) q (by simpa using hq)
    rcases List.mem_append.1 hp with hp|hp<;>rcases List.mem_append.1 hq with hq|hq
    ·exact hF p hp q hq hne
    ·rw[List.mem_singleton.1 hq];exact u3 p hp
    ·rw[List.mem_singleton.1 hp];exact(u3 q hq).symm
    ·exact absurd ((List.mem_singleton.1 hp).trans (List.mem_singleton.1 hq).symm) hne
  exact uq f0 [] d3 (fun p hp=>by simp at hp) i (by simpa using hi) j (by simpa using hj) hne
 ·obtain⟨_,y,_,_,hy,_⟩:=rz (ni d3 j hj).1
  obtain⟨t,ht,hstb⟩:=yd Wi (List.mem_filterMap.2 ⟨j,hj,hy⟩)
  exact⟨y,t,hy,ht,hstb⟩
 ·have h0:=Step.refl ρ T rows {w with drawn:=w.drawn+1}
  have wP:∀r Lc,ρ r=some Lc→r<rows.length:=by
   intro r Lc hr
   rcases Nat.lt_or_ge r rows.length with h1|h1
   ·exact h1
   ·rw[hs.ur r h1]at hr;cases hr
  refine⟨h0.pl,h0.tt,h0.um,h0.size,h0.keep,fun r row Lc p1 p2=>?_,h0.os,h0.tape,h0.output,by rw[iB,List.length_append];omega,h0.same⟩
  rw[fj iB (wP r Lc p2)]at p1
  exact h0.fresh r row Lc p1 p2
end Go.Am
namespace Go.Am
set_option linter.unusedVariables false
set_option linter.unusedSimpArgs false
variable {C:be} {P:Program} {n:Nat} {ρ:Pl} {T:Nat→Prop} {env:Env} {rows:Rows} {a:Act} {w:World}
theorem Oa(hC:aI C P):∀(c:Code) (ac:aB),comp P n c=some ac→∀(Q:fa→Env→Rows→Prop) (Q':Exit→Act→World→Prop) (env:Env) (rows:Rows) (ρ:Pl) (T:Nat→Prop) (a:Act) (w:World),
  aw C ac Q env rows→dO n ρ T env rows a w→dM C w T→Post n ρ T rows w Q Q'→c.wp P Q' a w:=by
 intro c
 induction c with
 |skip=>
  intro ac hc Q Q' env rows ρ T a w h hs hg hp
  simp[comp]at hc;subst hc
  exact wp_skip (hp .normal env rows ρ T a w h hs (Step.refl _ _ _ _))
 | region id ops draw =>
  intro ac hc Q Q' env rows ρ T a w h hs hg hp
  simp only[comp]at hc
  split at hc
  ·rename_i al h1
   cases draw with
   |false=>
    simp only[Bool.not_false,cond_true]at hc
    cases hc
    refine wp_region ?_
    have:=Sr hC ops (Q':=Q') ops.toList 0 (by simp) al h1 env rows ρ T a w (Q .normal) h hs hg (fun env' ab ρ' T' a' w' hk fD hst=>hp .normal env' ab ρ' T' a' w' hk fD hst)
    rw[List.range_eq_range']
    simpa using this
   | true =>
    simp only[Bool.not_true,cond_false]at hc
    cases Z1:(P.follows .mixedOrders&&NL ops.toList al)with
    | false =>
     rw[Z1]at hc
     simp only[cond_false]at hc
     cases yQ:(P.follows .mixedOrders&&RX ops.toList al (mQ ops.toList al))with
     | false =>
      rw[yQ]at hc
      simp only[cond_false]at hc
      cases I4:(P.follows .mixedOrders&&dOK3 ops.toList al (RZ ops.toList al).1 (RZ ops.toList al).2)with
      |false=>rw[I4]at hc;cases hc;exact h.elim
      |true=>
       rw[I4]at hc
       simp only[cond_true]at hc
       cases hc
       simp only[Bool.and_eq_true]at I4
       exact LH hC I4.1 h1 I4.2 h hs hg hp
     |true=>
      rw[yQ]at hc
      simp only[cond_true]at hc
      cases hc
      simp only[Bool.and_eq_true]at yQ
      exact LA (C:=C.quiet) (fun _=>rfl) hC.quiet yQ.1 h1 yQ.2 h hs hg hp
    | true =>
     rw[Z1]at hc
     simp only[cond_true]at hc
     cases hc
     simp only[Bool.and_eq_true]at Z1
     cases hm:IZ ops.toList al with
     |none=>
      have e:Er ops.toList al= .region true al:=by unfold Er;rw[hm]
      rw[e]at h
      exact E0 (C:=C.quiet) (fun _=>rfl) hC.quiet Z1.1 h1 Z1.2 h hs hg hp
     | some m =>
      cases ja:Vs (al.drop m)with
      |false=>
       have e:Er ops.toList al= .region true al:=by unfold Er;rw[hm];simp only[ja,cond_false]
       rw[e]at h
       exact E0 (C:=C.quiet) (fun _=>rfl) hC.quiet Z1.1 h1 Z1.2 h hs hg hp
      |true=>
       have e:Er ops.toList al= .Qa (al.take m) (al.drop m):=by unfold Er;rw[hm];simp only[ja,cond_true]
       rw[e]at h
       exact LC hC Z1.1 h1 (SD hm) h hs hg hp
  ·cases hc;exact h.elim
 |seq x y ihx ihy=>
  intro ac hc Q Q' env rows ρ T a w h hs hg hp
  obtain⟨ax,h1,hc⟩:=aD hc
  obtain⟨ay,h2,hc⟩:=aD hc
  cases hc
  refine wp_seq (ihx ax h1 _ _ env rows ρ T a w h hs hg ?_)
  intro e env' ab ρ' T' a' w' hq fD hst
  cases e with
  |normal=>exact ihy ay h2 Q Q' env' ab ρ' T' a' w' hq fD (hg.step hs hst) (fun e2 lM lN Ny T2 a2 w2 N5 tJ N0=>hp e2 lM lN Ny T2 a2 w2 N5 tJ (hst.trans N0))
  |exit i=>exact hp (.exit i) env' ab ρ' T' a' w' hq fD hst
  |ret=>exact hp .ret env' ab ρ' T' a' w' hq fD hst
 | cond x p q ihp ihq =>
  intro ac hc Q Q' env rows ρ T a w h hs hg hp
  obtain⟨x',h1,hc⟩:=aD hc
  obtain⟨ap,h2,hc⟩:=aD hc
  obtain⟨aq,h3,hc⟩:=aD hc
  cases hc
  obtain⟨d,he,hk⟩:=ah h
  split at hk
  ·rename_i t
   have hG:rj C ρ w T:=fun g d hd=>(hg g d hd).mono (by intro r L h;cases h) (fun _ _=>rfl) (fun _ h=>h)
   have hx:=eh h1 he hs hG
   refine wp_cond_split hx (fun ht=>?_) (fun ht=>?_)
   ·exact ihp ap h2 Q Q' env rows ρ T a w (hk.1 ht) hs hg hp
   ·exact ihq aq h3 Q Q' env rows ρ T a w (hk.2 ht) hs hg hp
  ·exact hk.elim
 | block id x ih =>
  intro ac hc Q Q' env rows ρ T a w h hs hg hp
  obtain⟨ax,h1,hc⟩:=aD hc
  cases hc
  refine wp_block (ih ax h1 _ _ env rows ρ T a w h hs hg ?_)
  intro e env' ab ρ' T' a' w' hq fD hst
  cases e with
  |normal=>exact hp .normal env' ab ρ' T' a' w' hq fD hst
  |exit i=>
   simp only[N3,Exit.inBlock]
   by_cases hi:i=id
   ·rw[if_pos hi];exact hp .normal env' ab ρ' T' a' w' (hq.1 hi) fD hst
   ·rw[if_neg hi];exact hp (.exit i) env' ab ρ' T' a' w' (hq.2 hi) fD hst
  |ret=>exact hp .ret env' ab ρ' T' a' w' hq fD hst
 | loop x ih =>
  intro ac hc Q Q' env rows ρ T a w h hs hg hp
  obtain⟨ax,h1,hc⟩:=aD hc
  cases hc
  obtain⟨m,hm⟩:=h
  refine wp_loop_rounds m ?_
  induction m generalizing env rows ρ T a w with
  |zero=>exact hm.elim
  |succ m ihm=>
   refine ih ax h1 _ _ env rows ρ T a w hm hs hg ?_
   intro e env' ab ρ' T' a' w' hq fD hst
   cases e with
   |normal=>exact ihm env' ab ρ' T' a' w' fD (hg.step hs hst) (fun e2 lM lN Ny T2 a2 w2 N5 tJ N0=>hp e2 lM lN Ny T2 a2 w2 N5 tJ (hst.trans N0)) hq
   |exit i=>exact hp (.exit i) env' ab ρ' T' a' w' hq fD hst
   |ret=>exact hp .ret env' ab ρ' T' a' w' hq fD hst
 |exit id=>
  intro ac hc Q Q' env rows ρ T a w h hs hg hp
  simp[comp]at hc;subst hc
  exact wp_exit (hp (.exit id) env rows ρ T a w h hs (Step.refl _ _ _ _))
 |ret=>
  intro ac hc Q Q' env rows ρ T a w h hs hg hp
  simp[comp]at hc;subst hc
  exact wp_ret (hp .ret env rows ρ T a w h hs (Step.refl _ _ _ _))
 | _=>intro ac hc;cases hc;intro Q Q' env rows ρ T a w h;exact h.elim
inductive aU where
 |tmp (t:Nat)
 |cell (t:Nat) (s:Sh)
 deriving Inhabited
def cRes(P:Program):ResultVar→Option aU
 | .tmp t=>some (.tmp t)
 | .cell t ty=>o2 (sh P ty) fun s=>xd (kj P ty s) (some (.cell t s))
def E5(P:Program):List ResultVar→Option (List aU)
 |[]=>some []
 |r::l=>o2 (cRes P r) fun a=>o2 (E5 P l) fun b=>some (a::b)
def Cl(env:Env)(rows:Rows):aU→Option D
 | .tmp t=>match look env t with
  |some (.cA _)=>none
  |d=>d
 | .cell t s => match look env t with
  |some (.ptr s' r p)=>bif s'==s then(match live rows r with
   |some row=>cP row.els p
   |none=>none)else none
  | _=>none
def yf(env:Env)(rows:Rows):List aU→Option (List D)
 |[]=>some []
 | r :: l => match Cl env rows r with
  |some d=>match yf env rows l with
   |some ds=>some (d::ds)
   |none=>none
  |none=>none
def u9:List D→D
 |[d]=>d
 |l=> .cA l
def aa:Nat→List D→Env
 | _,[]=>[]
 |i,d::l=>(i,d)::aa (i+1) l
theorem LJ:∀(l:List D) (i t:Nat) (d:D),look (aa i l) t=some d→i≤t∧l[t-i]?=some d
 |[],i,t,d,h=>by simp[aa,look]at h
 | x :: l, i, t, d, h => by
  simp only[aa,look]at h
  cases hb:(i==t)with
  |true=>
   have:i=t:=by simpa using hb
   subst this
   simp[hb]at h
   subst h
   simp
  |false=>
   simp[hb]at h
   have hne:i≠t:=by simpa using hb
   obtain⟨h1,h2⟩:=LJ l (i+1) t d h
   refine⟨by omega,?_⟩
   have:t-i=(t-(i+1))+1:=by omega
   rw[this]
   simpa using h2
theorem HZ (hs : dO n ρ T env rows a w) : ∀ {l : List ResultVar} {l' : List aU} {ds : List D}, E5 P l = some l' → yf env rows l' = some ds →
  ∃vs:List Value,(l.mapM (fun r:ResultVar=>(match r with| .tmp t=>pure (a.tmps.getD t undef)| .cell x t=>do loadVar t (←asAddr (a.tmps.getD x undef)):Sem Value))).run P w= .ok vs w∧aY (pQ ρ w T) ds vs
 |[],l',ds,h1,h2=>by
  simp[E5]at h1;subst h1
  simp[yf]at h2;subst h2
  exact⟨[],by simp,.nil⟩
 | r :: l, l', ds, h1, h2 => by
  obtain⟨r',g1,h1⟩:=aD h1
  obtain⟨q,g2,h1⟩:=aD h1
  cases h1
  simp only[yf]at h2
  split at h2
  ·rename_i d hd
   split at h2
   ·rename_i ds' hds
    cases h2
    obtain⟨vs,k1,k2⟩:=HZ hs g2 hds
    have one : ∃ v, (match r with | .tmp t => pure (a.tmps.getD t undef) | .cell x t => do loadVar t (← asAddr (a.tmps.getD x undef)) : Sem Value).run P w = .ok v w ∧ pQ ρ w T d v := by
     cases r with
     | tmp t =>
      simp[cRes]at g1
      subst g1
      simp only[Cl]at hd
      refine⟨a.tmps.getD t undef,by simp,?_⟩
      split at hd
      ·cases hd
      ·rename_i x hx
       have:=hs.env t d hd
       cases d with
       |cA z=>exact absurd hd (by intro h;exact hx z h)
       | _=>exact this
     | cell x t =>
      obtain⟨s,g3,g1⟩:=aD g1
      obtain⟨g4,g1⟩:=cx g1
      cases g1
      simp only[Cl]at hd
      split at hd
      ·rename_i s' rr p EC
       cases Lb:(s'==s)with
       |false=>rw[Lb]at hd;simp at hd
       | true =>
        have hss':s'=s:=by simpa using Lb
        subst hss'
        simp only[Lb,cond_true]at hd
        split at hd
        ·rename_i row hl
         have hv:=hs.env x _ EC
         obtain⟨b,o',cs,hx,m1,m2,m3⟩:=hs.bD.I2 (show LR ρ w T _ _ from hv) hl hd
         have hlen:=m2.len
         rw[m1.len]at hlen
         refine⟨gf s' cs,?_,?_⟩
         ·simp only[Sem.run_bind]
          rw[hx]
          simp[asAddr,lJ g3 g4 m3 hlen.symm (oS m1 m2)]
         ·have:=VR.gf (ρ:=ρ) (T:=T) m1 m2
          unfold gf at this⊢
          cases hag:s'.isAgg with
          |true=>exact pQ.K6 m1 hag (by simpa using m2)
          |false=>
           have hlf:=m1.oO hag
           rw[cj hlf]at m2
           have G1:=m2.len
           match cs,G1 with
           |[c],_=>exact pQ.bG m2.head
        ·cases hd
      ·cases hd
    obtain⟨v,m1,m2⟩:=one
    refine⟨v::vs,?_,.cons m2 k2⟩
    rw[List.mapM_cons]
    simp only[Sem.run_bind,m1,k1,Result.andThen_ok,Sem.run_pure]
   ·cases h2
  ·cases h2
def aR(C:be)(np:Nat)(jt:List aU)(ac:aB):jx:=fun ds rows K=>
 ds.length=np∧aw C ac (fun e env ab=>(e= .normal∨e= .ret)∧bd (yf env ab jt) fun l=>K (u9 l) ab) (aa 0 ds) rows
theorem LK{fn:Func}{ds:List D}{rows:Rows}{ρ:Pl}{w:World}{T:Nat→Prop}{args:Array Value}{np:Nat}(hnp:np≤fn.ntmps)(hlen:ds.length=np)(hrows:iV ρ rows w T)(kq:∀r,rows.length≤r→ρ r=none)(wN:∀b,T b→b<w.heap.size)
  (hargs:aY (VR ρ w T) ds args.toList):dO fn.ntmps ρ T (aa 0 ds) rows {tmps:=args++Array.replicate (fn.ntmps-args.size) undef,defers:=[]} w:=by
 have hal:args.size=np:=by rw[←hlen];simpa using hargs.len.symm
 refine⟨hrows,fun t d hd=>?_,by simp;omega,wN,kq,rfl⟩
 obtain⟨_,h2⟩:=LJ ds 0 t d hd
 rw[Nat.sub_zero]at h2
 obtain⟨v,hv,UY⟩:=hargs.some h2
 have kU:args[t]?=some v:=by simpa using hv
 have hlt:t<args.size:=(Array.getElem?_eq_some_iff.1 kU).1
 have:(args++Array.replicate (fn.ntmps-args.size) undef).getD t undef=v:=by
  simp only[Array.getD_eq_getD_getElem?]
  rw[Array.getElem?_append_left hlt,kU]
  rfl
 rw[this]
 exact UY
theorem Wj{fn:Func}{jt:List aU}(hr:E5 P fn.results.toList=some jt){ρ':Pl}{T':Nat→Prop}{env':Env}{ab:Rows}{a':Act}{w':World}(fD:dO fn.ntmps ρ' T' env' ab a' w'){l:List D}(hl:yf env' ab jt=some l):
  ∃v,(results fn a'.tmps).run P w'= .ok v w'∧VR ρ' w' T' (u9 l) v:=by
 obtain⟨vs,h1,h2⟩:=HZ fD hr hl
 have hm:(fn.results.mapM (fun r:ResultVar=>(match r with| .tmp t=>pure (a'.tmps.getD t undef)| .cell x t=>do loadVar t (←asAddr (a'.tmps.getD x undef)):Sem Value))).run P w'= .ok vs.toArray w':=by
  rw[Array.mapM_eq_mapM_toList]
  simp only[Sem.run_map,h1,Result.andThen_ok]
 have hlen:=h2.len
 have e0:(results fn a'.tmps).run P w'=((fn.results.mapM (fun r:ResultVar=>(match r with| .tmp t=>pure (a'.tmps.getD t undef)| .cell x t=>do loadVar t (←asAddr (a'.tmps.getD x undef)):Sem Value))).run P w').andThen
   fun vs w'=>(pure (if h:vs.size=1 then vs[0]else .tuple vs):Sem Value).run P w':=by
  unfold results
  rw[Sem.run_bind]
  rfl
 rw[e0,hm]
 simp only[Result.andThen_ok,Sem.run_pure,List.size_toArray]
 by_cases ZY:vs.length=1
 ·have wx:l.length=1:=by omega
  obtain⟨v,rfl⟩:=List.length_eq_one_iff.1 ZY
  obtain⟨d,rfl⟩:=List.length_eq_one_iff.1 wx
  exact⟨v,by simp,VR.xg h2.head⟩
 ·refine⟨.tuple vs.toArray,by simp[ZY],?_⟩
  have:u9 l= .cA l:=by
   have wx:l.length≠1:=by omega
   clear hlen h2 hl h1 hm e0
   match l,wx with
   |[],_=>rfl
   |[d],hq=>exact absurd rfl hq
   | _::_::_,_=>rfl
  rw[this]
  exact⟨vs.toArray,rfl,by simpa using h2⟩
theorem LL(hC:aI C P){f:FuncId}{fn:Func}{ac:aB}{jt:List aU}{np:Nat}(hf:P.funcs[f]?=some fn)(hb:o2 fn.body (comp P fn.ntmps)=some ac)(hr:E5 P fn.results.toList=some jt)(hnp:np≤fn.ntmps):
  aO C.aZ P f (aR C np jt ac):=by
 intro ds rows K ⟨hlen,h⟩ ρ w T args hrows kq wN hargs Ln
 obtain⟨c,hbody,Wk⟩:=aD hb
 refine calls_of_wp hf hbody ?_
 refine Oa hC c ac Wk _ _ _ rows ρ T _ w h (LK hnp hlen hrows kq wN hargs) Ln ?_
 intro e env' ab ρ' T' a' w' ⟨he,hk⟩ fD hst
 obtain⟨l,hl,hk⟩:=ah hk
 obtain⟨v,Z2,hv2⟩:=Wj hr fD hl
 have LM:Bc K ρ T rows w (.returned v) w':=⟨v,u9 l,ab,ρ',T',rfl,hk,fD.bD,fD.ur,fD.uo,hst,hv2⟩
 rcases he with rfl|rfl
 ·exact⟨fD.defers,v,Z2,LM⟩
 ·exact⟨fD.defers,v,Z2,LM⟩
end Go.Am

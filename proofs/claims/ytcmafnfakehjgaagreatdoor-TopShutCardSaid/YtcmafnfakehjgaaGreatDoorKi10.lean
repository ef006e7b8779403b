import Derived.Test.YtcmafnfakehjgaaGreatDoorKi9
set_option linter.unusedSimpArgs false
set_option linter.unusedVariables false
set_option maxRecDepth 10000
set_option maxHeartbeats 4000000
namespace Go.Am
attribute [local congr] cJ bI cK bJ bK b6 bw bN bO b7 bi b8 bP cI
namespace kj
open Go.Am.F
abbrev Bh:Sh:= .cons cN (.cons cN (.cons cN .nil))
abbrev Oo:=BitVec 32×BitVec 32×BitVec 32
def shK(p:Oo):D:= .agg Bh [.raw (u32 p.1),.raw (u32 p.2.1),.raw (u32 p.2.2)]
def Fc(e:Oo×BitVec 8):D:= .agg (pX Bh L8) [shK e.1,.raw (u8 e.2)]
theorem eqD_shK(a b:Oo):zJ (shK a) (shK b)=some (decide (a=b)):=by
 obtain⟨a1,a2,a3⟩:=a
 obtain⟨b1,b2,b3⟩:=b
 simp only[shK,eD_agg,eL_c,eL_n,eD_u32,abg,acu]
 by_cases h1:a1=b1<;>by_cases h2:a2=b2<;>by_cases h3:a3=b3<;>simp[h1,h2,h3]
theorem MB(k:Oo):∀l:List (Oo×BitVec 8),tT (shK k) (l.map Fc)=some ((l.find? λe=>decide (e.1=k)).map λe=>u8 e.2)
 |[]=>rfl
 | e :: l => by
  rw[abm,tT,show Hs (Fc e)=some (shK e.1,u8 e.2)from rfl]
  simp only[eqD_shK,List.find?_cons]
  by_cases c:e.1=k
  ·rw[abA c,abA c.symm];rfl
  ·rw[aa7 c,aa7 (abh c)]
   exact MB k l
theorem Wf{C:aU}{l:List (aS×List Nat)}{K:Env->Rows->Prop}(I:List Nat->Env->Rows->Prop)(VA:∀i x ds L env rows,l[i]?=some (x,ds)->i∉L->(∀j∈ds,j∈L)->I L env rows->∀R:Env->Rows->Prop,(∀env' aa,I (i::L) env' aa->R env' aa)->dR C [x] env rows R)
  (hend:∀L env rows,(∀i,i<l.length->i∈L)->I L env rows->K env rows):∀f L env rows,I L env rows->awN C l K f L env rows
 |0,L,env,rows,h=>λha=>hend L env rows ha h
 |f+1,L,env,rows,h=>⟨λha=>hend L env rows ha h,λi x ds h1 h2 h3=>VA i x ds L env rows h1 h2 h3 h _ λenv' aa h'=>Wf I VA hend f (i::L) env' aa h'⟩
def vS:List (Oo×BitVec 8):=[((55#32,0#32,0#32),1#8),((23#32,0#32,0#32),2#8),((111#32,0#32,0#32),3#8),((103#32,0#32,0#32),4#8),((15#32,0#32,0#32),38#8),((19#32,1#32,0#32),25#8),((19#32,5#32,0#32),26#8),((19#32,5#32,32#32),27#8),((51#32,0#32,32#32),29#8),((51#32,5#32,32#32),35#8)]
def Fe:List (Nat×Nat×Oo):=[(1,15,(55#32,0#32,0#32)),(3,16,(23#32,0#32,0#32)),(5,17,(111#32,0#32,0#32)),(7,18,(103#32,0#32,0#32)),(9,19,(15#32,0#32,0#32)),(11,20,(19#32,1#32,0#32)),(13,21,(19#32,5#32,0#32)),(15,22,(19#32,5#32,32#32)),(17,23,(51#32,0#32,32#32)),(19,24,(51#32,5#32,32#32))]
theorem blds_1:∀p∈Fe,∀q∈Fe,p.1=q.1->p=q:=by decide
theorem blds_2:∀p∈Fe,∀q∈Fe,p.2.1=q.2.1->p=q:=by decide
theorem nV:∀p∈Fe,p.2.1≠14/\p.2.1≠25/\p.2.1≠1/\p.1≠0/\p.1≠21/\p.1≠22/\p.1≠20:=by decide
theorem Um:∀p∈Fe,∀q∈Fe,p.1≠q.1+1:=by decide
theorem lit_1:∀a∈vS,∀b∈vS,a.1=b.1->a=b:=by decide
def bldX(q:Nat×Nat×Oo):aS:=⟨some q.2.1,.build Bh [.raw (u32 0#32),.raw (u32 0#32),.raw (u32 0#32)] [(0,.const (u32 q.2.2.1)),(1,.const (u32 q.2.2.2.1)),(2,.const (u32 q.2.2.2.2))],none⟩
def insX(q:Nat×Nat×Oo)(v:BitVec 8):aS:=⟨none,.je Bh L8 (.tmp 14) (.tmp q.2.1) (.const (u8 v)),none⟩
def drawnOf:aj->List (aS×List Nat)
 | .seq _ (.seq (.drawn l) _)=>l
 | _=>[]
def restOf:aj->aj
 | .seq _ (.seq _ c)=>c
 |c=>c
noncomputable def YI:List (aS×List Nat):=drawnOf lI
theorem YJ:lI= .seq (.region false [⟨some 0,.mv (.const (.map none)),none⟩]) (.seq (.drawn YI) (restOf lI)):=rfl
theorem lit_cls{i:Nat}{x:aS}{ds:List Nat}(h:YI[i]?=some (x,ds)):
  (i=0/\x=⟨some 14,.Zt Bh L8,none⟩)\/(∃q∈Fe,i=q.1/\x=bldX q)\/(∃q∈Fe,∃v,i=q.1+1/\x=insX q v/\(q.2.2,v)∈vS/\0∈ds/\q.1∈ds)\/(i=21/\x=⟨some 25,.mv (.tmp 14),none⟩/\0∈ds)\/(i=22/\x=⟨some 1,.mv (.tmp 25),none⟩/\21∈ds):=by
 have hi:i<23:=by
  have:=(acR.1 h).1
  exact this
 rcases(by omega:i=0\/i=1\/i=2\/i=3\/i=4\/i=5\/i=6\/i=7\/i=8\/i=9\/i=10\/i=11\/i=12\/i=13\/i=14\/i=15\/i=16\/i=17\/i=18\/i=19\/i=20\/i=21\/i=22)with rfl|rfl|rfl|rfl|rfl|rfl|rfl|rfl|rfl|rfl|rfl|rfl|rfl|rfl|rfl|rfl|rfl|rfl|rfl|rfl|rfl|rfl|rfl<;>have e:=abd (h.symm.trans (rfl:YI[_]?=some _))<;>cases e
 ·exact .inl ⟨rfl,rfl⟩
 ·exact .inr (.inl ⟨_,aaG (i:=0) rfl,rfl,rfl⟩)
 ·exact .inr (.inr (.inl ⟨_,aaG (i:=0) rfl,_,rfl,rfl,aaG (i:=0) rfl,by decide,by decide⟩))
 ·exact .inr (.inl ⟨_,aaG (i:=1) rfl,rfl,rfl⟩)
 ·exact .inr (.inr (.inl ⟨_,aaG (i:=1) rfl,_,rfl,rfl,aaG (i:=1) rfl,by decide,by decide⟩))
 ·exact .inr (.inl ⟨_,aaG (i:=2) rfl,rfl,rfl⟩)
 ·exact .inr (.inr (.inl ⟨_,aaG (i:=2) rfl,_,rfl,rfl,aaG (i:=2) rfl,by decide,by decide⟩))
 ·exact .inr (.inl ⟨_,aaG (i:=3) rfl,rfl,rfl⟩)
 ·exact .inr (.inr (.inl ⟨_,aaG (i:=3) rfl,_,rfl,rfl,aaG (i:=3) rfl,by decide,by decide⟩))
 ·exact .inr (.inl ⟨_,aaG (i:=4) rfl,rfl,rfl⟩)
 ·exact .inr (.inr (.inl ⟨_,aaG (i:=4) rfl,_,rfl,rfl,aaG (i:=4) rfl,by decide,by decide⟩))
 ·exact .inr (.inl ⟨_,aaG (i:=5) rfl,rfl,rfl⟩)
 ·exact .inr (.inr (.inl ⟨_,aaG (i:=5) rfl,_,rfl,rfl,aaG (i:=5) rfl,by decide,by decide⟩))
 ·exact .inr (.inl ⟨_,aaG (i:=6) rfl,rfl,rfl⟩)
 ·exact .inr (.inr (.inl ⟨_,aaG (i:=6) rfl,_,rfl,rfl,aaG (i:=6) rfl,by decide,by decide⟩))
 ·exact .inr (.inl ⟨_,aaG (i:=7) rfl,rfl,rfl⟩)
 ·exact .inr (.inr (.inl ⟨_,aaG (i:=7) rfl,_,rfl,rfl,aaG (i:=7) rfl,by decide,by decide⟩))
 ·exact .inr (.inl ⟨_,aaG (i:=8) rfl,rfl,rfl⟩)
 ·exact .inr (.inr (.inl ⟨_,aaG (i:=8) rfl,_,rfl,rfl,aaG (i:=8) rfl,by decide,by decide⟩))
 ·exact .inr (.inl ⟨_,aaG (i:=9) rfl,rfl,rfl⟩)
 ·exact .inr (.inr (.inl ⟨_,aaG (i:=9) rfl,_,rfl,rfl,aaG (i:=9) rfl,by decide,by decide⟩))
 ·exact .inr (.inr (.inr (.inl ⟨rfl,rfl,by decide⟩)))
 ·exact .inr (.inr (.inr (.inr ⟨rfl,rfl,by decide⟩)))
structure ShI (eN:Rows) (L:List Nat) (env:Env) (rows:Rows):Prop where
 m:0∉L/\rows=eN\/0∈L/\look env 14=some (.mp eN.length)/\∃els:List (Oo×BitVec 8),rows=eN++[some ⟨pX Bh L8,els.map Fc⟩]/\(∀e∈els,e∈vS)/\∀q∈Fe,∀v,(q.2.2,v)∈vS->q.1+1∈L->(q.2.2,v)∈els
 b:∀q∈Fe,q.1∈L->look env q.2.1=some (shK q.2.2)
 i:∀q∈Fe,q.1+1∈L->0∈L
 f:21∈L->look env 25=some (.mp eN.length)
 g:22∈L->look env 1=some (.mp eN.length)
theorem Hl(t:Nat)(d:D)(env:Env):look ((t,d)::env) t=some d:=by simp[look]
theorem l6{t t':Nat}(h:t≠t')(d:D)(env:Env):look ((t,d)::env) t'=look env t':=by
 have:(t==t')=false:=by simpa using h
 simp[look,this]
theorem shp_step{C:aU}(eN:Rows):∀i x ds L env rows,YI[i]?=some (x,ds)->i∉L->(∀j∈ds,j∈L)->ShI eN L env rows->∀R:Env->Rows->Prop,(∀env' aa,ShI eN (i::L) env' aa->R env' aa)->dR C [x] env rows R:=by
 intro i x ds L env rows h hn hd hI R hR
 obtain⟨hm,hb,hi,hf,hg⟩:=hI
 rcases lit_cls h with⟨rfl,rfl⟩|⟨q,hq,rfl,rfl⟩|⟨q,hq,v,rfl,rfl,hv,d0,dq⟩|⟨rfl,rfl,d0⟩|⟨rfl,rfl,d0⟩
 ·rcases hm with⟨h0,rfl⟩|⟨h0,-⟩
  ·simp only[↓ag,ah,simprocAttr]
   refine hR _ _ ⟨.inr ⟨by simp,Hl _ _ _,[],rfl,λe he=>(by cases he),λq hq v _ hL=>?_⟩,λq hq hL=>?_,λq hq hL=>by simp,λhL=>?_,λhL=>?_⟩
   ·have:=hi q hq (by simpa using hL)
    exact absurd this h0
   ·rw[l6 (nV q hq).1.symm]
    exact hb q hq (by have:=(nV q hq).2.2.2.1;simpa[this]using hL)
   ·rw[l6 (by decide)];exact hf (by simpa using hL)
   ·rw[l6 (by decide)];exact hg (by simpa using hL)
  ·exact absurd h0 hn
 ·simp only[bldX,↓ag,ah,simprocAttr]
  have n:=nV q hq
  refine hR _ _ ⟨?_,λp hp hL=>?_,λp hp hL=>?_,λhL=>?_,λhL=>?_⟩
  ·rcases hm with⟨h0,e⟩|⟨h0,h1,els,e,h2,h3⟩
   ·exact .inl ⟨by simp[h0,n.2.2.2.1.symm],e⟩
   ·refine .inr ⟨by simp[h0],by rw[l6 n.1];exact h1,els,e,h2,λp hp v hv hL=>h3 p hp v hv ?_⟩
    have:=(Um q hq p hp).symm
    simpa[this]using hL
  ·by_cases c:p=q
   ·subst c;exact Hl _ _ _
   ·rw[l6 λe=>c (blds_2 p hp q hq e.symm)]
    have:p.1≠q.1:=λe=>c (blds_1 p hp q hq e)
    exact hb p hp (by simpa[this]using hL)
  ·have:=(Um q hq p hp).symm
   exact ab3 _ (hi p hp (by simpa[this]using hL))
  ·rw[l6 n.2.1];exact hf (by simpa[n.2.2.2.2.1.symm]using hL)
  ·rw[l6 n.2.2.1];exact hg (by simpa[n.2.2.2.2.2.1.symm]using hL)
 ·have n:=nV q hq
  have l0:0∈L:=hd _ d0
  rcases hm with⟨h0,-⟩|⟨h0,h1,els,rfl,h2,h3⟩
  ·exact absurd l0 h0
  have hk:=hb q hq (hd _ dq)
  have hkf:(shK q.2.2).fits Bh=true:=rfl
  simp only[insX,↓ag,ah,simprocAttr,aK,h1,hk,hkf]
  refine hR _ _ ⟨.inr ⟨by simp[h0],h1,(q.2.2,v)::els,rfl,λe he=>?_,λp hp u hu hL=>?_⟩,λp hp hL=>hb p hp ?_,λp hp hL=>by simp[h0],λhL=>hf ?_,λhL=>hg ?_⟩
  ·rcases aaI.1 he with rfl|he
   ·exact hv
   ·exact h2 e he
  ·rcases aaI.1 hL with e|hL
   ·have:p=q:=blds_1 p hp q hq (by omega)
    subst this
    have:=lit_1 _ hu _ hv rfl
    rw[this];exact ad4 ..
   ·exact ab3 _ (h3 p hp u hu hL)
  ·have:=Um p hp q hq
   simpa[this]using hL
  ·simpa[show 21≠q.1+1 from λe=>n.2.2.2.2.2.2 (by omega)]using hL
  ·have:22≠q.1+1:=λe=>n.2.2.2.2.1 (by omega)
   simpa[this]using hL
 ·have l0:0∈L:=hd _ d0
  rcases hm with⟨h0,-⟩|⟨h0,h1,els,rfl,h2,h3⟩
  ·exact absurd l0 h0
  simp only[↓ag,ah,simprocAttr,h1]
  refine hR _ _ ⟨.inr ⟨by simp[h0],by rw[l6 (by decide)];exact h1,els,rfl,h2,λp hp u hu hL=>h3 p hp u hu ?_⟩,λp hp hL=>?_,λp hp hL=>by simp[h0],λ_=>Hl _ _ _,λhL=>?_⟩
  ·have:=(nV p hp).2.2.2.2.2.2
   simpa[show p.1+1≠21 from λe=>this (by omega)]using hL
  ·rw[l6 (nV p hp).2.1.symm]
   exact hb p hp (by simpa[(nV p hp).2.2.2.2.1]using hL)
  ·rw[l6 (by decide)];exact hg (by simpa using hL)
 ·have h25:=hf (hd _ d0)
  simp only[↓ag,ah,simprocAttr,h25]
  refine hR _ _ ⟨?_,λp hp hL=>?_,λp hp hL=>?_,λhL=>?_,λ_=>Hl _ _ _⟩
  ·rcases hm with⟨h0,e⟩|⟨h0,h1,els,e,h2,h3⟩
   ·exact .inl ⟨by simp[h0],e⟩
   ·refine .inr ⟨by simp[h0],by rw[l6 (by decide)];exact h1,els,e,h2,λp hp u hu hL=>h3 p hp u hu ?_⟩
    have:=(nV p hp).2.2.2.2.1
    simpa[show p.1+1≠22 from λe=>this (by omega)]using hL
  ·rw[l6 (nV p hp).2.2.1.symm]
   exact hb p hp (by simpa[(nV p hp).2.2.2.2.2.1]using hL)
  ·have:=(nV p hp).2.2.2.2.1
   exact ab3 _ (hi p hp (by simpa[show p.1+1≠22 from λe=>this (by omega)]using hL))
  ·rw[l6 (by decide)];exact hf (by simpa using hL)
theorem shp_lit{C:aU}{env:Env}{rows:Rows}{K:Env->Rows->Prop}(hk:∀env' (els:List (Oo×BitVec 8)),look env' 1=some (.mp rows.length)->(∀e∈els,e∈vS)->(∀e∈vS,e∈els)->K env' (rows++[some ⟨pX Bh L8,els.map Fc⟩])):awN C YI K YI.length [] env rows:=by
 refine Wf (ShI rows) (shp_step rows) (λL env' aa ha hI=>?_) _ _ _ _ ⟨.inl ⟨by simp,rfl⟩,λ_ _ h=>(by cases h),λ_ _ h=>(by cases h),λh=>(by cases h),λh=>(by cases h)⟩
 have a:=λi (hi:i<23)=>ha i hi
 rcases hI.m with⟨h0,-⟩|⟨h0,h1,els,rfl,h2,h3⟩
 ·exact absurd (a 0 (by decide)) h0
 refine hk env' els (hI.g (a 22 (by decide))) h2 λe he=>?_
 have key:∀e∈vS,∃q∈Fe,e.1=q.2.2/\q.1<20:=by decide
 obtain⟨q,hq,h4,h5⟩:=key e he
 have:=h3 q hq e.2 (by rw[<-h4];exact he) (a _ (by omega))
 rw[<-h4]at this
 exact this
def K8:List (Oo×BitVec 8):=[((115#32,7#32,0#32),48#8),((115#32,6#32,0#32),47#8),((115#32,5#32,0#32),46#8),((115#32,4#32,0#32),0#8),((115#32,3#32,0#32),45#8),((115#32,2#32,0#32),44#8),((115#32,1#32,0#32),43#8),((115#32,0#32,0#32),0#8),((51#32,7#32,1#32),56#8),((51#32,7#32,0#32),37#8),((51#32,6#32,1#32),55#8),((51#32,6#32,0#32),36#8),((51#32,5#32,1#32),54#8),((51#32,5#32,0#32),34#8),((51#32,4#32,1#32),53#8),((51#32,4#32,0#32),33#8),((51#32,3#32,1#32),52#8),((51#32,3#32,0#32),32#8),((51#32,2#32,1#32),51#8),((51#32,2#32,0#32),31#8),((51#32,1#32,1#32),50#8),((51#32,1#32,0#32),30#8),((51#32,0#32,1#32),49#8),((51#32,0#32,0#32),28#8),((19#32,7#32,0#32),24#8),((19#32,6#32,0#32),23#8),((19#32,4#32,0#32),22#8),((19#32,3#32,0#32),21#8),((19#32,2#32,0#32),20#8),((19#32,0#32,0#32),19#8),((35#32,2#32,0#32),18#8),((35#32,1#32,0#32),17#8),((35#32,0#32,0#32),16#8),((3#32,5#32,0#32),15#8),((3#32,4#32,0#32),14#8),((3#32,3#32,0#32),0#8),((3#32,2#32,0#32),13#8),((3#32,1#32,0#32),12#8),((3#32,0#32,0#32),11#8),((99#32,7#32,0#32),10#8),((99#32,6#32,0#32),9#8),((99#32,5#32,0#32),8#8),((99#32,4#32,0#32),7#8),((99#32,3#32,0#32),0#8),((99#32,2#32,0#32),0#8),((99#32,1#32,0#32),6#8),((99#32,0#32,0#32),5#8)]
theorem Un(C:aU){rows:Rows}{K:D->Rows->Prop}(hk:∀(els:List (Oo×BitVec 8)) (R:Rows),(∀e∈els,e∈vS)->(∀e∈vS,e∈els)->live R 0=some ⟨pX Bh L8,(K8++els).map Fc⟩->K (.mp rows.length) (rows++R)):aB C 0 s9 lI [] rows K:=by
 refine ae rfl ?_
 rw[YJ]
 unfold s9
 simp only[↓ag,ah,simprocAttr]
 refine shp_lit λenv' els h1 h2 h3=>?_
 simp only[restOf,lI,↓ag,ah,simprocAttr,aK,h1]
 refine dQ 10 ?_
 simp only[↓ag,ah,simprocAttr,aK,h1]
 refine dQ 10 ?_
 simp only[↓ag,ah,simprocAttr,aK,h1]
 refine dQ 10 ?_
 simp only[↓ag,ah,simprocAttr,aK,h1]
 refine dQ 10 ?_
 simp only[↓ag,ah,simprocAttr,aK,h1]
 refine dQ 10 ?_
 simp only[↓ag,ah,simprocAttr,aK,h1]
 refine dQ 10 ?_
 simp only[↓ag,ah,simprocAttr,aK,h1]
 exact hk els _ h2 h3 rfl
theorem find_lit{els:List (Oo×BitVec 8)}(h2:∀e∈els,e∈vS)(h3:∀e∈vS,e∈els)(k:Oo):els.find? (λe=>decide (e.1=k))=vS.find? (λe=>decide (e.1=k)):=by
 cases c:vS.find? (λe=>decide (e.1=k))with
 |none=>
  rw[List.find?_eq_none]at c⊢
  exact λe he=>c e (h2 e he)
 | some x =>
  have hx:=ad8 c
  have hp:=aer c
  cases c2:els.find? (λe=>decide (e.1=k))with
  |none=>exact absurd hp (List.find?_eq_none.1 c2 x (h3 x hx))
  |some y=>
   have hy:=h2 y (ad8 c2)
   have hq:=aer c2
   rw[lit_1 y hy x hx ((acs hq).trans (acs hp).symm)]
def opS(k:Oo):Option Value:=((K8++vS).find? λe=>decide (e.1=k)).map λe=>u8 e.2
theorem DA{els:List (Oo×BitVec 8)}(h2:∀e∈els,e∈vS)(h3:∀e∈vS,e∈els)(k:Oo):tT (shK k) ((K8++els).map Fc)=some (opS k):=by
 rw[MB,opS,List.find?_append,List.find?_append,find_lit h2 h3]
abbrev SIn:Sh:= .cons L8 (.cons L8 (.cons L8 (.cons L8 (.cons cN (.cons L16 .nil)))))
structure In where
 op:BitVec 8
 rd:BitVec 8
 a:BitVec 8
 b:BitVec 8
 im:BitVec 32
 deriving DecidableEq
def El(i:In):D:= .agg SIn [.raw (u8 i.op),.raw (u8 i.rd),.raw (u8 i.a),.raw (u8 i.b),.raw (u32 i.im),.raw (u16 0#16)]
def Uo:List (BitVec 32):=[1073742007#32,109052179#32,2129955#32,110100755#32,111#32]
def vT(w:BitVec 32):In:=if w=1073742007#32 then⟨1#8,1#8,0#8,0#8,1073741824#32⟩else if w=109052179#32 then⟨19#8,2#8,0#8,0#8,104#32⟩else if w=110100755#32 then⟨19#8,2#8,0#8,0#8,105#32⟩else if w=2129955#32 then⟨16#8,0#8,1#8,2#8,0#32⟩else⟨3#8,0#8,0#8,0#8,0#32⟩
def mkU(w:BitVec 32):List D:=[.raw (u32 w)]
theorem mkU_inj(x y:BitVec 32)(h:mkU x=mkU y):x=y:=by
 unfold mkU at h
 injection h with h _
 injection h with h
 exact Go.Am.lV.1 h
noncomputable def fDec:Fn:=QX mkU (λw=>decide (w∈Uo)) λw=> .cd [El (vT w),.raw (.bool true)]
structure DecC (C:aU):Prop where
 p0:C.fn 97=none
 p1:∃C1,C.cV 97=some (aB C1 1 vK vJ)
 f0:C.fn 98=none
 f1:∃C1,C.cV 98=some (aB C1 1 yZ yY)/\C1.fn 100=none/\∃C2,C1.cV 100=some (aB C2 3 nc m9)
 b0:C.fn 100=none
 b1:∃C1,C.cV 100=some (aB C1 3 nc m9)
 s0:C.fn 99=none
 s1:∃A,C.cV 99=some A/\∀(rows:Rows) (K:D->Rows->Prop),(∀(els:List (Oo×BitVec 8)) (R:Rows),(∀e∈els,e∈vS)->(∀e∈vS,e∈els)->live R 0=some ⟨pX Bh L8,(K8++els).map Fc⟩->K (.mp rows.length) (rows++R))->A [] rows K
 j0:C.fn 101=none
 j1:∃C1 C2 C3,C.cV 101=some (aB C1 1 y8 y7)/\C1.fn 100=none/\C1.cV 100=some (aB C2 3 nc m9)/\C1.fn 169=none/\C1.cV 169=some (aB C3 2 ng nf)
 i0:C.fn 104=none
 i1:∃C1 C3,C.cV 104=some (aB C1 1 zc zb)/\C1.fn 169=none/\C1.cV 169=some (aB C3 2 ng nf)
 t0:C.fn 103=none
 t1:∃C1 C2 C3,C.cV 103=some (aB C1 1 za y9)/\C1.fn 100=none/\C1.cV 100=some (aB C2 3 nc m9)/\C1.fn 169=none/\C1.cV 169=some (aB C3 2 ng nf)
theorem sf_mget{C:aU}{env:Env}{rows:Rows}(a b o z m x t):jf C env rows (.Gm a b o z m x) t=dX C env rows (.Gm a b o z m x) (PV env rows t):=by
 simp only[jf]
 congr 1
theorem Hm(a:Int)(n:Nat)(r:Int)(h:a.fdiv (2^(min n 32))=r)(k:D->Prop):cm .shr (.int .i32 a) (it (n:Int)) k=k (.raw (.int .i32 r)):=by
 have e:cm .shr (.int .i32 a) (it (n:Int)) k=(0<=(n:Int)/\k (.raw (.int .i32 (a.fdiv (2^(min n 32)))))):=rfl
 rw[e,h]
 exact propext ⟨λh=>h.2,λh=>⟨by omega,h⟩⟩
theorem dec_ok(C:aU)(hC:aI C P)(H:DecC C):aQ C.aZ P 40 (Fn.run fDec):=by
 refine gQ (P8 C hC) λw hw=>ae rfl ?_
 unfold FM FN mkU
 obtain⟨P1,p1⟩:=H.p1
 obtain⟨F1,f1,f2,F2,f3⟩:=H.f1
 obtain⟨B1,b1⟩:=H.b1
 obtain⟨A,s1,hA⟩:=H.s1
 obtain⟨J1,J2,J3,j1,j2,j3,j4,j5⟩:=H.j1
 obtain⟨I1,I3,i1,i2,i3⟩:=H.i1
 obtain⟨T1,T2,T3,t1,t2,t3,t4,t5⟩:=H.t1
 simp only[Uo,aaI,aa1,acd,aaq]at hw
 rcases hw with rfl|rfl|rfl|rfl|rfl
 all_goals
  simp only[↓ag,ah,simprocAttr,simprocAttr,aK,H.p0,p1,H.f0,f1,f2,f3,ii,vJ,vK,yY,yZ,m9,nc,H.s0,s1]
  refine hA _ _ λels R h2 h3 hl=>?_
  have hl4:∀a b c d,live (a::b::c::d::R) 4=some ⟨pX Bh L8,(K8++els).map Fc⟩:=λ_ _ _ _=>hl
  have m1:tT (.agg Bh [.raw (u32 55#32),.raw (u32 0#32),.raw (u32 0#32)]) ((K8++els).map Fc)=some (some (u8 1#8)):=(DA h2 h3 (55#32,0#32,0#32)).trans rfl
  have m2:tT (.agg Bh [.raw (u32 19#32),.raw (u32 0#32),.raw (u32 0#32)]) ((K8++els).map Fc)=some (some (u8 19#8)):=(DA h2 h3 (19#32,0#32,0#32)).trans rfl
  have m3:tT (.agg Bh [.raw (u32 35#32),.raw (u32 0#32),.raw (u32 0#32)]) ((K8++els).map Fc)=some (some (u8 16#8)):=(DA h2 h3 (35#32,0#32,0#32)).trans rfl
  have m4:tT (.agg Bh [.raw (u32 111#32),.raw (u32 0#32),.raw (u32 0#32)]) ((K8++els).map Fc)=some (some (u8 3#8)):=(DA h2 h3 (111#32,0#32,0#32)).trans rfl
  generalize (K8++els).map Fc=E at*
  have c1:DY IntKind.i32 (.raw (u32 109051904#32))=some (.int .i32 109051904):=rfl
  have c2:DY IntKind.i32 (.raw (u32 110100480#32))=some (.int .i32 110100480):=rfl
  have c3:DY IntKind.i32 (.raw (u32 0#32))=some (.int .i32 0):=rfl
  have r1:∀k,cm .shr (.int .i32 109051904) (it 20) k=k (.raw (.int .i32 104)):=Hm 109051904 20 104 (by decide)
  have r2:∀k,cm .shr (.int .i32 110100480) (it 20) k=k (.raw (.int .i32 105)):=Hm 110100480 20 105 (by decide)
  have r3:∀k,cm .shr (.int .i32 0) (it 20) k=k (.raw (.int .i32 0)):=Hm 0 20 0 (by decide)
  have r4:∀k,cm .shr (.int .i32 0) (it 11) k=k (.raw (.int .i32 0)):=Hm 0 11 0 (by decide)
  have d1:DY IntKind.u32 (.raw (.int .i32 104))=some (u32 104#32):=rfl
  have d2:DY IntKind.u32 (.raw (.int .i32 105))=some (u32 105#32):=rfl
  have d3:DY IntKind.u32 (.raw (.int .i32 0))=some (u32 0#32):=rfl
  have ed:∀v,dV L8 v= .raw v:=λ_=>rfl
  simp only[↓ag,ah,simprocAttr,simprocAttr,aK,abu,aaZ,aaP,aaV,hl4,m1,m2,m3,m4,c1,c2,c3,r1,r2,r3,r4,d1,d2,d3,ed,sf_mget,H.b0,b1,ii,m9,nc,H.j0,j1,j2,j3,j4,j5,y7,y8,nf,ng,H.i0,i1,i2,i3,zb,zc,H.t0,t1,t2,t3,t4,t5,y9,za]
  exact .val _ rfl
theorem kDec(rows:Rows)(w:BitVec 32)(h:w∈Uo)(k:D->Rows->Prop):aG fDec rows k [.raw (u32 w)]=k (.cd [El (vT w),.raw (.bool true)]) rows:=uT (out:=λw=> .cd [El (vT w),.raw (.bool true)]) mkU_inj w (by simpa using h) rfl rows k rfl
noncomputable def fAt(args:List D)(mu:D):Fn:=λds rows=>open Classical in if ds=args/\rows=[]then some (mu,[])else none
theorem JI{f:FuncId}{A:lQ}{G:Nat->Option D}{args:List D}{mu:D}(hA:aQ G P f A)(h:A args [] λd rows=>xE rows d mu []):aQ G P f (Fn.run (fAt args mu)):=by
 refine aJ hA λds rows r hr=>?_
 unfold fAt at hr
 split at hr
 ·rename_i hh
  cases hr
  obtain⟨rfl,rfl⟩:=hh
  exact⟨rfl,h⟩
 ·cases hr
theorem kAt(args:List D)(mu:D)(h1:aX args=false)(h2:shift=shift)(rows:Rows)(k:D->Rows->Prop)(h3:shift rows.length mu=mu):aG (fAt args mu) rows k args=k mu rows:=by
 refine(bk h1 (r:=(mu,[])) (by simp[fAt])).trans ?_
 simp[af,h3]
abbrev du:Sh:= .cons LI (.cons (.ar 8192 L8) (.cons (.ar 64 L8) (.cons .ref (.cons .ref .nil))))
def jU(st:Int)(cD:List (BitVec 8))(pt:D)(f c:Nat):D:= .agg du [.raw (it st),.agg (.ar 8192 L8) (bs cD),pt,.ptr SF f [0],.ptr Kz c [0]]
structure WiC (C:aU):Prop where
 ck:C.fn 96=some tC
 ba:C.fn 207=some Bg
theorem QZ(C:aU)(H:WiC C){rows:Rows}{s f c o n:Nat}{cD:List (BitVec 8)}{pt:D}(hs:live rows s=some ⟨du,[jU 0 cD pt f c]⟩)(h:o+n<=4096)(h0:0<n){K:D->Rows->Prop}
  (hk:K (.cd [.raw (it 1),.raw (it (o:Int)),.raw (it 0)]) rows):
  aB C 5 cY cW [.ptr du s [0],.raw (it 0),.raw (u32 (536870912#32+BitVec.ofInt 32 (o:Int))),.raw (it (n:Int)),.raw (.bool true)] rows K:=by
 refine ae rfl ?_
 unfold cW cY
 have hx:(536870912#32+BitVec.ofInt 32 (o:Int)).toNat=536870912+o:=by
  rw[abb,acA,aa2,aa2];omega
 generalize 536870912#32+BitVec.ofInt 32 (o:Int)=x at*
 have hw:bU x=(1,o):=Fb (i:=1) rfl (by decide) (by rw[hx];exact⟨Nat.le_add_right _ _,by show _<536870912+4096;omega⟩) (by rw[hx];exact aek _ _)
 have hc:pS ⟨0,0,x,1,true,false⟩=(1,o,0):=by
  unfold pS
  rw[hw]
  rfl
 have k1:∀rows k,aG tC rows k [.agg SAc [.raw (it 0),.raw (it 0),.raw (u32 x),.raw (it 1),.raw (.bool true),.raw (.bool false)]]=k (.cd [.raw (it 1),.raw (it (o:Int)),.raw (it 0)]) rows:=λrows k=>by
  have:=kChk rows ⟨0,0,x,1,true,false⟩ (by simp[Dz,okA,hw,Ui,Nat.mod_one]) k
  rw[G1,hc]at this
  exact this
 have k2:=λrows k=>Ul rows k
 have g0:cM [jU 0 cD pt f c] [0,0]=some (.raw (it 0)):=rfl
 have e1:wz (4096-(o:Int))=4096-(o:Int):=bh (by omega)
 have e2:((4096-(o:Int))<(n:Int))=False:=aaw (by omega)
 simp only[jU]at hs
 simp only[↓ag,ah,simprocAttr,hs,H.ck,H.ba,k1,k2,e1,e2]
 exact hk
structure StC (C1 C:aU):Prop where
 wi:WiC C1
 n0:C.fn 151=none
 r0:C.cV 151=some (aB C1 5 cY cW)
 n1:C.fn 154=none
 r1:∃C2,C.cV 154=some (aB C2 2 eG eF)
theorem Q0{rows:Rows}{s f c o len:Nat}{ex:Bool}{st:Int}{cD p:List (BitVec 8)}{pt:D}(hs:live rows s=some ⟨du,[jU st cD pt f c]⟩)(hr:cD.length=8192)(h:o+len<=8192)(hp:p.length<=len){k:D->Rows->Prop}
  (hk:k (.raw (it (p.length:Int))) (rows.set s (some ⟨du,[jU st (aP cD o p) pt f c]⟩))):oq rows L8 (.sl L8 s [0,1] o len ex) (bs p) k:=by
 have e1:min (bs p).length len=p.length:=by rw[aE];omega
 have e2:(bs p).take p.length=bs p:=lL p
 have e3:aP (bs cD) o (bs p)=bs (aP cD o p):=Bf cD o p
 have hg:cM [jU st cD pt f c] [0,1]=some (.agg (.ar 8192 L8) (bs cD)):=rfl
 refine⟨rfl,o7 hs ?_⟩
 rw[hg]
 refine⟨by rw[aE];omega,o7 (a:=[jU st (aP cD o p) pt f c]) ?_ ?_⟩
 ·rw[e1,e2,e3];rfl
 ·rw[e1];exact hk
theorem YK(C C1:aU)(H:StC C1 C){rows:Rows}{s f c o:Nat}{cD p:List (BitVec 8)}{d pt:D}(hs:live rows s=some ⟨du,[jU 0 cD pt f c]⟩)(hr:cD.length=8192)(h:o+p.length<=4096)(h0:0<p.length)(hd:pw rows L8 d=some (bs p))(xu:dW d=some p.length){K:D->Rows->Prop}
  (hk:K (.raw (it 0)) (rows.set s (some ⟨du,[jU 0 (aP cD o p) pt f c]⟩))):
  aB C 4 ca b9 [.ptr du s [0],.raw (it 0),.raw (u32 (536870912#32+BitVec.ofInt 32 (o:Int))),d] rows K:=by
 refine ae rfl ?_
 unfold b9 ca
 obtain⟨C2,r1⟩:=H.r1
 have e1:((p.length:Int)=0)=False:=aaw (by omega)
 simp only[↓ag,ah,simprocAttr,xu,e1,H.n0,H.r0]
 refine QZ C1 H.wi hs h h0 ?_
 simp only[↓ag,ah,simprocAttr,H.n1,r1,ii,eF,eG]
 refine⟨by omega,by omega,o7 hd ⟨λk hk=>?_,Q0 hs hr (by omega) (by omega) ?_⟩⟩
 ·rw[xu]at hk;cases hk;rw[aE]
 ·simp only[↓ag,ah,simprocAttr]
  exact hk
theorem kCall_vb{α:Type}{mk:α->D}(hinj:∀x y,mk x=mk y->x=y){pre:α->List (BitVec 8)->Bool}{Q1:α->List (BitVec 8)->D}{rows:Rows}{k:D->Rows->Prop}{x:α}{d:D}{p:List (BitVec 8)}(h:aY rows d p)(hp:pre x p=true)
  (hr:bb (mk x)=false)(hv:view rows 9 (mk x)=some (mk x))(hno:cv (Q1 x p)=true)(hsh:shift rows.length (Q1 x p)=Q1 x p):aG (zy (cj mk) eP pre λx p=>(Q1 x p,[])) rows k [mk x,d]=k (Q1 x p) rows:=by
 obtain⟨⟨d',lz,hb⟩,hn⟩:=h
 have e1:∀d2,eP d2=some p->(zy (cj mk) eP pre λx p=>(Q1 x p,[])) [mk x,d2] []=some (Q1 x p,[]):=λd2 h2=>lF (bZ hinj x) h2 hp
 unfold aG
 have h1:aX [mk x,d]=bb d:=by simp[aX,hr]
 rw[h1]
 cases hh:bb d with
 |true=>
  simp only[adf,eK,hv,lz,bj,e1 _ hb.rd,hno,bf,acM,abf,hsh,af,aaS]
  simp
 |false=>
  simp only[adf,bj,e1 _ (hn hh).rd,hsh,af,aaS]
  simp
def pU(l:List (BitVec 8))(x:BitVec 8):List (BitVec 8):=l.map λb=>b^^^x
theorem Q2(l:List (BitVec 8))(x:BitVec 8):(pU l x).length=l.length:=by simp[pU]
noncomputable def Wg:Fn:=zy (cj NU) rd8 (λb _=>decide (b.length=64)) λb x=>(.dh L8 (bs (pU b x)) true,[])
theorem mpad_ok(C:aU)(hC:aI C P):aQ C.aZ P 289 (Fn.run Wg):=by
 refine aJ (XX C hC) λds rows r h=>?_
 obtain⟨d,e,b,x,rfl,rfl,hd,he,hp,rfl⟩:=dS h
 cases aH hd
 cases Ij he
 simp only[aaq]at hp
 refine⟨rfl,ae rfl ?_⟩
 clear h hd he
 unfold Mf Mg
 simp only[NU,↓ag,ah,simprocAttr]
 refine bx 64 (λi env rows=>has env [(6,.raw (it (i:Int))),(1,.raw (u8 x)),(2,.ptr (.ar 64 L8) 0 [0])]/\rows=[some ⟨.ar 64 L8,[.agg (.ar 64 L8) (bs (pU (b.take i) x++b.drop i))]⟩]) ?_ ?_ ⟨?_,?_⟩
 ·rintro i hi env rows ⟨hh,rfl⟩ R hR
  simp only[has]at hh
  obtain⟨h6,h1,h2,-⟩:=hh
  have e0:((i:Int)<64)=True:=aas (by omega)
  have e1:((0:Int)<=(i:Int))=True:=aas (by omega)
  have e2:=cG i (by omega)
  have hl:(pU (b.take i) x).length=i:=by rw[Q2,aau];omega
  have eg:(bs (pU (b.take i) x++b.drop i))[i]?=some (.raw (u8 (b.getD i 0#8))):=by
   rw[tJ (by rw[aap,hl,aat];omega)]
   congr 3
   simp[List.getD,aaO (aeq hl),hl]
  have es:(pU (b.take i) x++b.drop i).set i (b.getD i 0#8^^^x)=pU (b.take (i+1)) x++b.drop (i+1):=by
   have e3:b.drop i=b.getD i 0#8::b.drop (i+1):=by
    rw[abp (by omega)];simp[List.getD,(by omega:i<b.length)]
   rw[acg _ _ (aeq hl),hl,acj,e3,rz (z:=0#8) (by omega)]
   simp[pU]
  simp only[↓ag,ah,simprocAttr,h6,h1,h2,e0,e1,e2,eg,bs_set,es,aaD]
  exact hR _ _ ⟨by simp only[has,↓ag,ah,simprocAttr,h1,h2],rfl⟩
 ·rintro env rows ⟨hh,rfl⟩ R
  simp only[has]at hh
  obtain⟨h6,h1,h2,-⟩:=hh
  have hf:pU (b.take 64) x++b.drop 64=pU b x:=by rw[aar (by omega),acp (by omega),aaS]
  rw[hf]
  simp only[↓ag,ah,simprocAttr,h6,h1,h2]
  have hw:view [some ⟨.ar 64 L8,[.agg (.ar 64 L8) (bs (pU b x))]⟩] 9 (.sl L8 0 [0] 0 64 true)=some (.dh L8 (bs (pU b x)) true):=by
   have hl:(bs (pU b x)).length=64:=by rw[aE,Q2,hp]
   have he:Am.elems [some ⟨.ar 64 L8,[.agg (.ar 64 L8) (bs (pU b x))]⟩] (.sl L8 0 [0] 0 64 true)=some (bs (pU b x)):=by
    have:(bs (pU b x)).take 64=bs (pU b x):=aar (aeq hl)
    simp[elems,live,cM,D.get,this]
   simp only[Am.view,he,hl]
   simp[Sh.pure]
  exact .frz _ _ hw
 ·simp only[has,↓ag,ah,simprocAttr]
 ·rfl
theorem Wh(rows:Rows)(k:D->Rows->Prop)(b:List (BitVec 8))(x:BitVec 8)(h:b.length=64):aG Wg rows k [.agg (.ar 64 L8) (bs b),.raw (u8 x)]=k (.dh L8 (bs (pU b x)) true) rows:=by
 refine(bk (by simp[aX,bb,Sh.pure]) (r:=(.dh L8 (bs (pU b x)) true,[])) ?_).trans ?_
 ·exact lF (bZ Ja b) (Ns x) (by simp[h])
 ·simp[shift,af,Sh.pure]
def G2(k:List (BitVec 8)):List (BitVec 8):=r8 (if 64<k.length then eY k else k) 64
theorem keyS_len(k:List (BitVec 8)):(G2 k).length=64:=by
 unfold G2
 split
 ·exact EQ (by rw[dk];decide)
 ·exact EQ (by omega)
structure K9 where
 i:St
 o:St
def o8(m:K9):D:= .agg S41 [uJ m.i,uJ m.o]
theorem Q3(x y:K9)(h:o8 x=o8 y):x=y:=by
 obtain⟨a,b⟩:=x
 obtain⟨a',b'⟩:=y
 simp only[o8,D.agg.injEq,abS,abf,acW]at h
 rw[Hc _ _ h.1,Hc _ _ h.2]
def K9.ok(m:K9):Bool:=m.i.ok&&m.o.ok
theorem Oq{m:K9}(h:m.ok=true):m.i.ok=true/\m.o.ok=true:=by simpa[K9.ok]using h
def G3(k:List (BitVec 8)):K9:=⟨feed Ky (pU (G2 k) 54#8),feed Ky (pU (G2 k) 92#8)⟩
theorem newM_ok(k:List (BitVec 8)):(G3 k).ok=true:=by simp[K9.ok,G3,fp _ _ oW]
def ni(m:K9)(p:List (BitVec 8)):K9:=⟨feed m.i p,m.o⟩
theorem uU{m:K9}(h:m.ok=true)(p:List (BitVec 8)):(ni m p).ok=true:=by
 have:=Oq h
 simp[K9.ok,ni,fp _ _ this.1,this.2]
def sumM(m:K9):List (BitVec 8):=qw (feed m.o (qw m.i))
theorem DB(m:K9):bb (o8 m)=false:=by simp[o8,uJ,bb,aX,Sh.pure]
theorem mac_view(m:K9)(rows:Rows):view rows 9 (o8 m)=some (o8 m):=by simp[o8,view,Sh.pure]
theorem MC(m:K9)(n:Nat):shift n (o8 m)=o8 m:=by simp[o8,shift,Sh.pure]
theorem MD(m:K9):cv (o8 m)=true:=by simp[o8,cv,Sh.pure]
theorem Q4(m:K9):D.fits (o8 m) S41=true:=by simp[o8,D.fits]
def Wi:Fn:=nv eP (λk=>Nat.ble k.length most) λk=>(o8 (G3 k),[])
theorem mnew_ok(C:aU)(hC:aI C P)(h1:C.fn 125=some EU)(h2:C.fn 185=some Qz)(h3:C.fn 134=some tu)(h4:C.fn 289=some Wg):aQ C.aZ P 275 (Fn.run Wi):=by
 refine cA (XV C hC) λds rows r h=>?_
 obtain⟨d,p,rfl,rfl,hd,hp,rfl⟩:=bd h
 obtain⟨x,hx⟩:=cF hd
 simp only[abD]at hp
 unfold most at hp
 refine⟨rfl,_,.cons hx .nil,ae rfl ?_⟩
 clear h hd hx
 unfold Mb Mc
 have hkl:=keyS_len p
 have z64:(List.replicate 64 (D.raw (u8 0#8)))=bs (List.replicate 64 0#8):=bs_rep 64 0#8
 by_cases hl:64<p.length
 ·have hlI:((64:Int)<(p.length:Int))=True:=aas (by omega)
  have hk:aP (List.replicate 64 0#8) 0 ((((eY p).drop 0).take 32).take (min (((eY p).drop 0).take 32).length 64))=G2 p:=by
   have e1:((eY p).drop 0).take 32=eY p:=by rw[abz,aar (by rw[dk];exact aax _)]
   have:=vN (l:=[]) (x:=eY p) (n:=64) (by rw[dk];decide)
   simp only[aaV,aaZ]at this
   have e2:r8 [] 64=List.replicate 64 0#8:=rfl
   rw[e2]at this
   rw[e1,aar (by rw[dk];exact aax _),this,G2,aaJ hl]
  simp only[↓ag,ah,simprocAttr,aE,hlI,h1,aaD]
  refine Eq.mpr (TL _ _ _ 1 _ _ [p] rfl rfl (.cons (eC.to (.inr ⟨_,rfl⟩)) .nil) (by simp) (by simp;omega)) ?_
  have Bb:[p].flatten=p:=by simp
  rw[Bb]
  simp only[↓ag,ah,simprocAttr,el_sp,Qu,abz]
  have q1:((bs (eY p)).take 32).length=32:=by rw[fM,aE,aau,dk];rfl
  refine⟨q1,?_⟩
  have q2:(bs (eY p)).take 32=bs (((eY p).drop 0).take 32):=by rw[abz,fM]
  rw[q2]
  refine Eq.mpr (EP (l:=List.replicate 64 0#8) rfl (by simp)) ?_
  rw[hk]
  simp only[↓ag,ah,simprocAttr,h2,h3,h4,TJ,Wh _ _ _ _ hkl]
  refine Eq.mpr (mh _ _ _ _ (pU (G2 p) 54#8) (eC.to (.inr ⟨_,rfl⟩)) oW) ?_
  simp only[↓ag,ah,simprocAttr,h2,h3,h4,TJ,Wh _ _ _ _ hkl]
  refine Eq.mpr (mh _ _ _ _ (pU (G2 p) 92#8) (eC.to (.inr ⟨_,rfl⟩)) oW) ?_
  simp only[↓ag,ah,simprocAttr,nQ]
  exact .val _ (DB (G3 p))
 ·have hlI:((64:Int)<(p.length:Int))=False:=aaw (by omega)
  have hk:aP (List.replicate 64 0#8) 0 (p.take (min p.length 64))=G2 p:=by
   have:=vN (l:=[]) (x:=p) (n:=64) (by simp;omega)
   simp only[aaV,aaZ]at this
   have e2:r8 [] 64=List.replicate 64 0#8:=rfl
   rw[e2]at this
   rw[aar (by omega),this,G2,aaC hl]
  simp only[↓ag,ah,simprocAttr,aE,hlI,h1,aaE]
  refine Eq.mpr (EP (l:=List.replicate 64 0#8) rfl (by simp)) ?_
  rw[hk]
  simp only[↓ag,ah,simprocAttr,h2,h3,h4,TJ,Wh _ _ _ _ hkl]
  refine Eq.mpr (mh _ _ _ _ (pU (G2 p) 54#8) (eC.to (.inr ⟨_,rfl⟩)) oW) ?_
  simp only[↓ag,ah,simprocAttr,h2,h3,h4,TJ,Wh _ _ _ _ hkl]
  refine Eq.mpr (mh _ _ _ _ (pU (G2 p) 92#8) (eC.to (.inr ⟨_,rfl⟩)) oW) ?_
  simp only[↓ag,ah,simprocAttr,nQ]
  exact .val _ (DB (G3 p))
theorem kMNew(rows:Rows)(k:D->Rows->Prop)(d:D)(p:List (BitVec 8))(h:aY rows d p)(hp:p.length<=1099511627776):aG Wi rows k [d]=k (o8 (G3 p)) rows:=by
 refine(qO h (by simpa[most]using hp) (by simp[MD,bf])).trans ?_
 simp[MC,af]
noncomputable def Ot:Fn:=zy (cj o8) eP (λm _=>m.ok) λm p=>(o8 (ni m p),[])
theorem mfeed_ok(C:aU)(hC:aI C P)(h3:C.fn 134=some tu):aQ C.aZ P 276 (Fn.run Ot):=by
 refine cA (I6 C hC) λds rows r h=>?_
 obtain⟨d,e,m,p,rfl,rfl,hd,he,hok,rfl⟩:=dS h
 cases aH hd
 obtain⟨x,hx⟩:=cF he
 refine⟨rfl,_,.cons (.refl _) (.cons hx .nil),ae rfl ?_⟩
 clear h hd he hx
 have ho:=Oq hok
 unfold yb yc
 simp only[o8,↓ag,ah,simprocAttr,h3]
 refine Eq.mpr (mh _ _ _ _ p (eC.to (.inr ⟨_,rfl⟩)) ho.1) ?_
 simp only[↓ag,ah,simprocAttr,nQ]
 exact .val _ (DB (ni m p))
theorem JJ(rows:Rows)(k:D->Rows->Prop)(m:K9)(d:D)(p:List (BitVec 8))(h:aY rows d p)(hm:m.ok=true):aG Ot rows k [o8 m,d]=k (o8 (ni m p)) rows:=
 kCall_vb Q3 (Q1:=λm p=>o8 (ni m p)) h hm (DB m) (mac_view m rows) (MD _) (MC _ _)
noncomputable def Wj:Fn:=nv (cj o8) (λm=>m.ok) λm=>(aV (sumM m),[])
theorem msum_ok(C:aU)(hC:aI C P)(h3:C.fn 134=some tu)(h4:C.fn 135=some vO):aQ C.aZ P 278 (Fn.run Wj):=by
 refine aJ (KW C hC) λds rows r h=>?_
 obtain⟨d,m,rfl,rfl,hd,hok,rfl⟩:=bd h
 cases aH hd
 refine⟨rfl,ae rfl ?_⟩
 clear h hd
 have ho:=Oq hok
 have o2:=fp (qw m.i) _ ho.2
 have hl:=Mi _ ho.1
 unfold An Ao
 simp only[o8,↓ag,ah,simprocAttr,h3,h4,Bd _ _ _ ho.1]
 refine Eq.mpr (mh _ _ _ _ (((qw m.i).drop 0).take 32) (aY.arr rfl (by omega)) ho.2) ?_
 have e1:((qw m.i).drop 0).take 32=qw m.i:=by rw[abz,aar (by omega)]
 rw[e1]
 simp only[↓ag,ah,simprocAttr,h4,Bd _ _ _ o2]
 exact .val _ rfl
theorem kMSum(rows:Rows)(k:D->Rows->Prop)(m:K9)(h:m.ok=true):aG Wj rows k [o8 m]=k (.agg (.ar 32 L8) (bs (sumM m))) rows:=by
 refine(bk (by simp[aX,DB]) (r:=(aV (sumM m),[])) ?_).trans ?_
 ·exact fa (bZ Q3 m) h
 ·simp[shift,af,aV,Sh.pure]
theorem zn(m:K9)(p q:List (BitVec 8)):ni (ni m p) q=ni m (p++q):=by simp[ni,fo]
def hmac(k p:List (BitVec 8)):List (BitVec 8):=sumM (ni (G3 k) p)
def fMacSum:Fn:=zy eP qv (λk ls=>Nat.ble k.length most&&(Nat.ble ls.length most&&Nat.ble ls.flatten.length most)) λk ls=>(aV (hmac k ls.flatten),[])
def fz(n:Nat):List (BitVec 8):=[BitVec.ofNat 8 (n/16777216),BitVec.ofNat 8 (n/65536),BitVec.ofNat 8 (n/256),BitVec.ofNat 8 n]
theorem Q5(n:Nat):(fz n).length=4:=rfl
theorem Ou(n:Int)(m:BitVec 64)(k:D->Prop):cm .shr (it n) (u64 m) k=k (.raw (it (n.fdiv (2^(min m.toNat 64))))):=by
 simp only[cm,it,u64,aaz,IntKind.bits]
 simp
theorem pV(n m:Nat):(n:Int).fdiv (m:Int)=((n/m:Nat):Int):=by
 rw[ab5 _ (by omega)];rfl
def Q6:Fn:=nv u9 (λn=>decide (0<=n)) λn=>eR (fz n.toNat) false
theorem mnum_ok(C:aU)(hC:aI C P):aQ C.aZ P 277 (Fn.run Q6):=by
 refine aJ (XW C hC) λds rows r h=>?_
 obtain⟨d,n,rfl,rfl,hd,hp,rfl⟩:=bd h
 cases bX hd
 simp only[aaq]at hp
 obtain⟨n,rfl⟩:=aaH hp
 refine⟨rfl,ae rfl ?_⟩
 clear h hd
 have e1:(n:Int).fdiv (2^(min 24 64))=((n/16777216:Nat):Int):=pV n 16777216
 have e2:(n:Int).fdiv (2^(min 16 64))=((n/65536:Nat):Int):=pV n 65536
 have e3:(n:Int).fdiv (2^(min 8 64))=((n/256:Nat):Int):=pV n 256
 have e4:∀m:Nat,BitVec.ofInt 8 (m:Int)=BitVec.ofNat 8 m:=λm=>rfl
 unfold Md Me
 simp only[↓ag,ah,simprocAttr,Ou,e1,e2,e3,e4]
 exact .own _ 0 0 _ true false _ rfl rfl (λh=>by cases h)
theorem Wk(rows:Rows)(k:D->Rows->Prop)(n:Nat):aG Q6 rows k [.raw (it (n:Int))]=k (.sl L8 (0+rows.length) [] 0 4 false) (rows++[some ⟨L8,bs (fz n)⟩]):=by
 refine(bk rfl (r:=eR (fz n) false) ?_).trans ?_
 ·rw[Q6,fa (qd _) (by simp)];rfl
 ·simp[eR,shift,af,Sh.pure,Q5]
def sb(b:ByteArray):List (BitVec 8):=b.data.toList.map λx=>BitVec.ofNat 8 x.toNat
theorem JK(b:ByteArray):ofBytes b=bs (sb b):=by
 simp only[ofBytes,bs,sb,List.map_map]
 refine ac4 λx _=>?_
 have hx:x.toNat<256:=x.toNat_lt
 simp only[Function.comp_def,u8,aa2]
 rw[abo (by omega)]
def rdStr:D->Option ByteArray
 | .raw (.string b)=>some b
 | _=>none
theorem Up{d:D}{b:ByteArray}(h:rdStr d=some b):d= .raw (.string b):=by
 unfold rdStr at h
 split at h
 ·cases h;rfl
 ·cases h
def Bi:D->Option (List (List (BitVec 8)))
 | .raw (.slice none 0 0)=>some []
 | .dh s l _=>bif s== .ref then eK eP l else none
 | _=>none
theorem Q7{d:D}{ls:List (List (BitVec 8))}(h:Bi d=some ls):∃l e,ZH d (.dh .ref l e)/\eK eP l=some ls:=by
 unfold Bi at h
 split at h
 ·cases h;exact⟨[],false,.nil _ _,rfl⟩
 ·rename_i s l e
  cases hb:(s==Sh.ref)with
  |false=>rw[hb]at h;cases h
  |true=>
   rw[hb]at h
   have:s= .ref:=by simpa using hb
   subst this
   exact⟨l,e,.refl _,h⟩
 ·cases h
def wL(ls:List (List (BitVec 8))):List (BitVec 8):=(ls.map λx=>fz x.length++x).flatten
theorem Uq(ls:List (List (BitVec 8)))(x:List (BitVec 8)):wL (ls++[x])=wL ls++fz x.length++x:=by simp[wL]
def derT(lab:ByteArray)(ls:List (List (BitVec 8))):List (BitVec 8):=fz lab.size++sb lab++fz ls.length++wL ls
def YL(k:List (BitVec 8))(lab:ByteArray)(ls:List (List (BitVec 8))):List (BitVec 8):=hmac k (derT lab ls)
def JL(k:List (BitVec 8))(lab:ByteArray)(ls:List (List (BitVec 8))):Bool:=Nat.ble k.length 1099511627000&&(Nat.ble lab.size 1099511&&(Nat.ble ls.length 1099511&&Nat.ble ls.flatten.length 1099511627))
def YM:Fn:=Kx eP rdStr Bi JL λk lab ls=>(aV (YL k lab ls),[])
theorem der_ok(C:aU)(hC:aI C P)(h10:C.fn 275=some Wi)(h11:C.fn 276=some Ot)(h12:C.fn 278=some Wj)(h28:C.fn 277=some Q6):aQ C.aZ P 257 (Fn.run YM):=by
 refine cA (NO C hC) λds rows r h=>?_
 obtain⟨d,d1,d2,key,lab,ls,rfl,rfl,hd,he,hf,hp,rfl⟩:=fV h
 obtain⟨x,hx⟩:=cF hd
 cases Up he
 obtain⟨l,e,hn,hl⟩:=Q7 hf
 simp only[JL,aan,abD]at hp
 obtain⟨hp0,Bb,qL,hp3⟩:=hp
 obtain⟨hlen,lp⟩:=lC hl
 refine⟨rfl,_,.cons hx (.cons (.refl _) (.cons hn .nil)),ae rfl ?_⟩
 clear h hd he hx hn hf
 have RY:∀i (hi:i<ls.length),∃x,l[i]?=some x/\eC x ls[i]:=λi hi=>by
  have KF:i<l.length:=by omega
  have hli:l[i]?=some l[i]:=aao KF
  exact⟨_,hli,fC (lp i _ _ hli (aao hi))⟩
 have hfit:∀x y,eC x y->D.fits x .ref=true:=λx y hb=>by rcases hb with⟨h,_⟩|⟨e,h⟩<;>rw[h]<;>rfl
 have o1:=newM_ok key
 have o2:=uU o1 (fz lab.size)
 have o3:=uU o2 (sb lab)
 have o4:=uU o3 (fz l.length)
 unfold Db Dc
 simp only[↓ag,ah,simprocAttr,h10]
 refine Eq.mpr (kMNew _ _ _ key (eC.to (.inr ⟨_,rfl⟩)) (by omega)) ?_
 simp only[↓ag,ah,simprocAttr,h11,h28,Wk,JK]
 refine Eq.mpr (JJ _ _ _ _ (fz lab.size) (aY.own rfl _ rfl) o1) ?_
 simp only[↓ag,ah,simprocAttr,h11,h28,Wk,JK]
 refine Eq.mpr (JJ _ _ _ _ (sb lab) (eC.to (.inr ⟨_,rfl⟩)) o2) ?_
 simp only[↓ag,ah,simprocAttr,h11,h28,Wk]
 refine Eq.mpr (JJ _ _ _ _ (fz l.length) (aY.own rfl _ rfl) o3) ?_
 simp only[↓ag,ah,simprocAttr,Q4]
 have Ku:ni (ni (ni (G3 key) (fz lab.size)) (sb lab)) (fz l.length)=ni (G3 key) (fz lab.size++sb lab++fz l.length++wL (ls.take 0)):=by
  rw[zn,zn];simp[wL]
 rw[Ku]
 refine bx l.length (λi env rows=>has env [(23,.dh .ref l e),(24,.raw (it l.length)),(25,.raw (it (i:Int))),(6,.ptr (.ar 32 L8) 0 [0]),(7,.ptr S41 3 [0])]/\
  (∃z,live rows 0=some ⟨.ar 32 L8,[z]⟩)/\live rows 3=some ⟨S41,[o8 (ni (G3 key) (fz lab.size++sb lab++fz l.length++wL (ls.take i)))]⟩) ?_ ?_ ⟨?_,⟨_,rfl⟩,rfl⟩
 ·rintro i hi env rows ⟨hh,⟨z,r0⟩,r3⟩ R hR
  simp only[has]at hh
  obtain⟨q23,q24,q25,q6,q7,-⟩:=hh
  obtain⟨x,hx,hb⟩:=RY i (by omega)
  have e0:((i:Int)<(l.length:Int))=True:=aas (by omega)
  have e1:((0:Int)<=(i:Int))=True:=aas (by omega)
  have e2:=cG i (by omega)
  have hs:ni (ni (ni (G3 key) (fz lab.size++sb lab++fz l.length++wL (ls.take i))) (fz ls[i].length)) ls[i]=ni (G3 key) (fz lab.size++sb lab++fz l.length++wL (ls.take (i+1))):=by
   rw[zn,zn,aaX (by omega),Uq]
   simp only[aaB]
  generalize fz lab.size++sb lab++fz l.length++wL (ls.take i)=T at*
  generalize fz lab.size++sb lab++fz l.length++wL (ls.take (i+1))=T' at*
  have hm:=uU o1 T
  have KJ:=uU hm (fz ls[i].length)
  simp only[↓ag,ah,simprocAttr,aK,q23,q24,q25,q6,q7,e0,e1,hx,hfit _ _ hb,hb.dW,r3,h11,h28,Wk,aaD]
  refine Eq.mpr (JJ _ _ _ _ (fz ls[i].length) (aY.own (xF (x:=⟨L8,bs (fz ls[i].length)⟩)) 4 rfl) hm) ?_
  simp only[↓ag,ah,simprocAttr,aK,q23,q24,q25,q6,q7,h11]
  refine Eq.mpr (JJ _ _ _ _ ls[i] hb.to KJ) ?_
  rw[hs]
  simp only[↓ag,ah,simprocAttr,aK,q23,q24,q25,q6,q7,e2,Q4,ab r3]
  exact hR _ _ ⟨by simp only[has,↓ag,ah,simprocAttr,q23,q24,q6,q7],⟨z,(aA (by decide)).trans (bG r0)⟩,o9 (bG r3)⟩
 ·rintro env rows ⟨hh,⟨z,r0⟩,r3⟩ R
  simp only[has]at hh
  obtain⟨q23,q24,q25,q6,q7,-⟩:=hh
  have e0:((l.length:Int)<(l.length:Int))=False:=aaw (by omega)
  have hT:fz lab.size++sb lab++fz l.length++wL (ls.take l.length)=derT lab ls:=by
   rw[derT,<-hlen,aa8]
  rw[hT]at r3
  have hm:=uU o1 (derT lab ls)
  have s0:∀x,live (rows.set 0 (some x)) 0=some x:=λx=>o9 r0
  simp only[↓ag,ah,simprocAttr,q23,q24,q25,q6,q7,e0,r3,h12,kMSum _ _ _ hm,r0,s0,aaE]
  exact .val _ rfl
 ·simp only[has,↓ag,ah,simprocAttr]
def fNum:Fn:=nv eP (λa=>Nat.ble 4 a.length) λa=>(.raw (it (((dZ a).toNat:Nat):Int)),[])
theorem num_ok(C:aU)(hC:aI C P):aQ C.aZ P 290 (Fn.run fNum):=by
 refine aJ (I7 C hC) λds rows r h=>?_
 obtain⟨d,a,rfl,rfl,hd,hp,rfl⟩:=bd h
 have ha:=fC hd
 simp only[abD]at hp
 refine⟨rfl,ae rfl ?_⟩
 unfold yd yf
 have e0:∀(k:D->Rows->Prop) rows,pC (.leaf (.int .u8)) 0 rows k d=k (.cb (.raw (u8 (a.getD 0 0#8)))) rows:=λk rows=>by have:=hJ (k:=k) (rows:=rows) (n:=0) ha (by omega);simpa using this
 have e1:∀(k:D->Rows->Prop) rows,pC (.leaf (.int .u8)) 1 rows k d=k (.cb (.raw (u8 (a.getD 1 0#8)))) rows:=λk rows=>by have:=hJ (k:=k) (rows:=rows) (n:=1) ha (by omega);simpa using this
 have e2:∀(k:D->Rows->Prop) rows,pC (.leaf (.int .u8)) 2 rows k d=k (.cb (.raw (u8 (a.getD 2 0#8)))) rows:=λk rows=>by have:=hJ (k:=k) (rows:=rows) (n:=2) ha (by omega);simpa using this
 have e3:∀(k:D->Rows->Prop) rows,pC (.leaf (.int .u8)) 3 rows k d=k (.cb (.raw (u8 (a.getD 3 0#8)))) rows:=λk rows=>by have:=hJ (k:=k) (rows:=rows) (n:=3) ha (by omega);simpa using this
 simp only[↓ag,ah,simprocAttr,e0,e1,e2,e3]
 exact .val _ rfl
def fPre:Fn:=zy eP eP (λa b=>Nat.ble a.length most&&Nat.ble b.length most) λa b=>(.raw (.bool (decide (b.length<=a.length)&&decide (a.take b.length=b))),[])
theorem pre_ok(C:aU)(hC:aI C P)(h20:C.fn 239=some Jh):aQ C.aZ P 246 (Fn.run fPre):=by
 refine cA (CZ C hC) λds rows r h=>?_
 obtain⟨d,e,a,b,rfl,rfl,hd,he,hp,rfl⟩:=dS h
 obtain⟨x,hx⟩:=cF hd
 obtain⟨y,hy⟩:=cF he
 refine⟨rfl,_,.cons hx (.cons hy .nil),ae rfl ?_⟩
 simp only[aan,abD]at hp
 unfold most at hp
 clear h hx hy hd he
 unfold tj tn
 by_cases hl:b.length<=a.length
 ·have zw:((b.length:Int)<=(a.length:Int))=True:=aas (by omega)
  have Ea:((0:Int)<=(b.length:Int))=True:=aas (by omega)
  simp only[↓ag,ah,simprocAttr,aE,zw,Ea,h20]
  simp only[acV,fM]
  refine Eq.mpr (TT _ _ _ _ (a.take b.length) b (eC.to (.inr ⟨_,rfl⟩)) (eC.to (.inr ⟨_,rfl⟩)) (by rw[aau];omega) (by omega)) ?_
  simp only[↓ag,ah,simprocAttr]
  simp only[hl,aaD,ab8]
  exact .val _ rfl
 ·have zw:((b.length:Int)<=(a.length:Int))=False:=aaw (by omega)
  simp only[↓ag,ah,simprocAttr,aE,zw]
  simp only[hl,aaE,acQ]
  exact .val _ rfl
theorem kPre(rows:Rows)(k:D->Rows->Prop)(d e:D)(p q:List (BitVec 8))(h:aY rows d p)(h':aY rows e q)(hp:p.length<=1099511627776)(hq:q.length<=1099511627776):aG fPre rows k [d,e]=k (.raw (.bool (decide (q.length<=p.length)&&decide (p.take q.length=q)))) rows:=by
 refine(Em h h' (by simpa[most]using⟨hp,hq⟩) rfl).trans ?_
 simp[shift,af]
structure Bo where
 v:Int
 s:Int
 e:Int
 dg:List (BitVec 8)
abbrev SM:Sh:= .cons LI (.cons LI (.cons LI (.cons (.ar 32 L8) .nil)))
def dw(m:Bo):D:= .agg SM [.raw (it m.v),.raw (it m.s),.raw (it m.e),.agg (.ar 32 L8) (bs m.dg)]
theorem DC(x y:Bo)(h:dw x=dw y):x=y:=by
 obtain⟨v,s,e,d⟩:=x
 obtain⟨v',s',e',d'⟩:=y
 unfold dw at h
 injection h with _ h
 injection h with h1 h
 injection h with h2 h
 injection h with h3 h
 injection h with h4 _
 injection h4 with _ h4
 injection h1 with h1
 injection h2 with h2
 injection h3 with h3
 cases Ik.1 h1
 cases Ik.1 h2
 cases Ik.1 h3
 cases yg h4
 rfl
def cT(m:Bo):Bool:=decide (0<=m.v)&&decide (m.v<=255)&&decide (4<=m.s)&&decide (m.s<=2048)&&decide (m.s.tmod 4=0)&&decide (0<=m.e)&&decide (m.e<m.s)&&decide (m.e.tmod 4=0)
noncomputable def Ff:Fn:=nv (cj dw) (λ_=>true) λm=>(.raw (.bool (cT m)),[])
theorem right_ok (C : aU) (hC : aI C P) : aQ C.aZ P 126 (Fn.run Ff) := by
 refine aJ (sN C hC) λds rows r h=>?_
 obtain⟨d,m,rfl,rfl,hd,hp,rfl⟩:=bd h
 cases aH hd
 refine⟨rfl,ae rfl ?_⟩
 clear h hd
 obtain⟨v,s,e,dg⟩:=m
 unfold me mg
 by_cases c1:0<=v
 case pos =>
  by_cases c2:v<=255
  case pos =>
   by_cases c3:4<=s
   case pos =>
    by_cases c4:s<=2048
    case pos =>
     by_cases c5:s.tmod 4=0
     case pos=>
      by_cases c6:0<=e
      case pos=>
       by_cases c7:e<s
       case pos=>
        by_cases c8:e.tmod 4=0
        case pos=>
         simp only[↓ag,ah,simprocAttr,cT,dw,c1,c2,c3,c4,c5,c6,c7,c8,aaD,aaE]
         exact .val _ rfl
        case neg=>
         simp only[↓ag,ah,simprocAttr,cT,dw,c1,c2,c3,c4,c5,c6,c7,c8,aaD,aaE]
         exact .val _ rfl
       case neg=>
        simp only[↓ag,ah,simprocAttr,cT,dw,c1,c2,c3,c4,c5,c6,c7,aaD,aaE]
        exact .val _ rfl
      case neg=>
       simp only[↓ag,ah,simprocAttr,cT,dw,c1,c2,c3,c4,c5,c6,aaD,aaE]
       exact .val _ rfl
     case neg=>
      simp only[↓ag,ah,simprocAttr,cT,dw,c1,c2,c3,c4,c5,aaD,aaE]
      exact .val _ rfl
    case neg=>
     simp only[↓ag,ah,simprocAttr,cT,dw,c1,c2,c3,c4,aaD,aaE]
     exact .val _ rfl
   case neg=>
    simp only[↓ag,ah,simprocAttr,cT,dw,c1,c2,c3,aaD,aaE]
    exact .val _ rfl
  case neg=>
   by_cases c3:4<=s
   case pos=>
    by_cases c4:s<=2048
    case pos=>
     by_cases c5:s.tmod 4=0
     case pos=>
      simp only[↓ag,ah,simprocAttr,cT,dw,c1,c2,c3,c4,c5,aaD,aaE]
      exact .val _ rfl
     case neg=>
      simp only[↓ag,ah,simprocAttr,cT,dw,c1,c2,c3,c4,c5,aaD,aaE]
      exact .val _ rfl
    case neg=>
     simp only[↓ag,ah,simprocAttr,cT,dw,c1,c2,c3,c4,aaD,aaE]
     exact .val _ rfl
   case neg=>
    simp only[↓ag,ah,simprocAttr,cT,dw,c1,c2,c3,aaD,aaE]
    exact .val _ rfl
 case neg=>
  by_cases c3:4<=s
  case pos=>
   by_cases c4:s<=2048
   case pos=>
    by_cases c5:s.tmod 4=0
    case pos=>
     simp only[↓ag,ah,simprocAttr,cT,dw,c1,c3,c4,c5,aaD,aaE]
     exact .val _ rfl
    case neg=>
     simp only[↓ag,ah,simprocAttr,cT,dw,c1,c3,c4,c5,aaD,aaE]
     exact .val _ rfl
   case neg=>
    simp only[↓ag,ah,simprocAttr,cT,dw,c1,c3,c4,aaD,aaE]
    exact .val _ rfl
  case neg=>
   simp only[↓ag,ah,simprocAttr,cT,dw,c1,c3,aaD,aaE]
   exact .val _ rfl
theorem DD(m:Bo):bb (dw m)=false:=by simp[dw,bb,aX,Sh.pure]
theorem fI(m:Bo):(dw m).fits SM=true:=by simp[dw,D.fits]
theorem JM(n:Nat)(m:Bo):shift n (dw m)=dw m:=by simp[dw,shift,Sh.pure]
theorem Ur(rows:Rows)(k:D->Rows->Prop)(m:Bo):aG Ff rows k [dw m]=k (.raw (.bool (cT m))) rows:=by
 refine(bk (by simp[aX,DD]) (r:=(.raw (.bool (cT m)),[])) ?_).trans ?_
 ·rw[Ff,fa (bZ DC m) rfl]
 ·simp[shift,af]
def tQ:List (BitVec 8):=[67#8,85#8,82#8,84#8]
def ci(m:Bo):List (BitVec 8):=tQ++fz m.v.toNat++fz m.s.toNat++fz m.e.toNat++m.dg
noncomputable def vU:Fn:=nv (cj dw) (λm=>decide (m.dg.length=32)) λm=>bif cT m then(.cd [.sl L8 0 [] 0 48 false,.raw (it 0)],[some ⟨L8,bs (ci m)⟩])else(.cd [.raw (.slice none 0 0),.raw (it 1)],[])
def Us(m:Bo):Nat->List (BitVec 8)
 |0=>tQ
 |1=>tQ++fz m.v.toNat
 |2=>tQ++fz m.v.toNat++fz m.s.toNat
 | _=>tQ++fz m.v.toNat++fz m.s.toNat++fz m.e.toNat
theorem zo{m:Bo}(h:cT m=true):∃v s e:Nat,m.v=v/\m.s=s/\m.e=e/\v<=255/\s<=2048/\4<=s/\e<s/\s %4=0/\e %4=0:=by
 simp only[cT,aan,aaq]at h
 obtain⟨⟨⟨⟨⟨⟨⟨h1,h2⟩,h3⟩,h4⟩,h5⟩,h6⟩,h7⟩,h8⟩:=h
 obtain⟨v,hv⟩:=aaH h1
 obtain⟨s,hs⟩:=aaH (by omega:0<=m.s)
 obtain⟨e,he⟩:=aaH h6
 rw[hs]at h5
 rw[he]at h8
 have h5':(s:Int).tmod 4=((s %4:Nat):Int):=rfl
 have h8':(e:Int).tmod 4=((e %4:Nat):Int):=rfl
 rw[h5']at h5
 rw[h8']at h8
 exact⟨v,s,e,hv,hs,he,by omega,by omega,by omega,by omega,by omega,by omega⟩
theorem body_ok(C:aU)(hC:aI C P)(hr:C.fn 126=some Ff):aQ C.aZ P 61 (Fn.run vU):=by
 refine aJ (tK C hC) λds rows r h=>?_
 obtain⟨d,m,rfl,rfl,hd,hp,rfl⟩:=bd h
 cases aH hd
 simp only[aaq]at hp
 refine⟨rfl,ae rfl ?_⟩
 clear h hd
 unfold mA mB
 cases hk:cT m
 ·simp only[↓ag,ah,simprocAttr,fI,hr,Ur,hk,aaK]
  exact .val _ rfl
 ·obtain⟨v,s,e,hv,hs,he,b1,b2,b3,b4,-,-⟩:=zo hk
  have e1:∀n:Nat,(n:Int).fdiv (2^(min 24 64))=((n/16777216:Nat):Int):=λn=>pV n 16777216
  have e2:∀n:Nat,(n:Int).fdiv (2^(min 16 64))=((n/65536:Nat):Int):=λn=>pV n 65536
  have e3:∀n:Nat,(n:Int).fdiv (2^(min 8 64))=((n/256:Nat):Int):=λn=>pV n 256
  have e4:∀m:Nat,BitVec.ofInt 8 (m:Int)=BitVec.ofNat 8 m:=λm=>rfl
  have hg:dw m= .agg SM [.raw (it (v:Int)),.raw (it (s:Int)),.raw (it (e:Int)),.agg (.ar 32 L8) (bs m.dg)]:=by rw[dw,hv,hs,he]
  have ZK:=fI m
  have hkm:=λrows k=>Ur rows k m
  rw[hk]at hkm
  rw[hg]at ZK hkm⊢
  simp only[↓ag,ah,simprocAttr,ZK,hr,hkm,aaU]
  refine bx 3 (λi env rows=>∃x,has env [(1,.ptr SM 0 [0]),(4,x),(18,.sl LI 2 [] 0 3 true),(19,.raw (it 3)),(20,.raw (it (i:Int)))]/\
   jy L8 x rows (bs (Us m i))/\live rows 0=some ⟨SM,[.agg SM [.raw (it (v:Int)),.raw (it (s:Int)),.raw (it (e:Int)),.agg (.ar 32 L8) (bs m.dg)]]⟩/\live rows 2=some ⟨LI,[.raw (it (v:Int)),.raw (it (s:Int)),.raw (it (e:Int))]⟩) ?_ ?_ ⟨.sl L8 1 [] 0 4 true,?_,.inr ⟨1,true,rfl,rfl⟩,rfl,rfl⟩
  ·rintro i hi env rows ⟨x,hh,how,r0,r2⟩ R hR
   simp only[has]at hh
   have KF:i=0\/i=1\/i=2:=by omega
   have n0:=ia how r0 (by decide)
   have n2:=ia how r2 (by decide)
   rcases KF with rfl|rfl|rfl
   all_goals
    simp only[↓ag,ah,simprocAttr,aK,hh,r0,r2,Ou,e1,e2,e3,e4]
    refine lg how.push (by rw[aE];simp[Us,fz,tQ,most]) (by rw[aE];simp[Us,fz,tQ,most]) ?_
    intro x' r' how' Ps _ _
    simp only[↓ag,ah,simprocAttr,hh]
    refine hR _ _ ⟨x',?_,?_,Ps 0 _ (ab r0 _) (λex=>n0 ex _),Ps 2 _ (ab r2 _) (λex=>n2 ex _)⟩
    ·simp only[has,↓ag,ah,simprocAttr,hh]
    ·have qm:∀n l,bs l++[.raw (u8 (BitVec.ofNat 8 (n/16777216))),.raw (u8 (BitVec.ofNat 8 (n/65536))),.raw (u8 (BitVec.ofNat 8 (n/256))),.raw (u8 (BitVec.ofNat 8 n))]=bs (l++fz n):=λn l=>by rw[<-qe];rfl
     rw[qm]at how'
     simpa only[Us,hv,hs,he,aaz]using how'
  ·rintro env rows ⟨x,hh,how,r0,r2⟩ R
   simp only[has]at hh
   have e16:(bs m.dg).length=32:=by rw[aE,hp]
   have hE:Am.elems rows (.sl L8 0 [0,3] 0 32 true)=some (bs m.dg):=by
    simp only[Am.elems,r0]
    show some (List.take 32 ((bs m.dg).drop 0))=_
    rw[abz,aar (by omega)]
   simp only[↓ag,ah,simprocAttr,aK,hh,r0,r2,hE,e16]
   have b16:(bs (Us m 3)).length=16:=by rw[aE];simp[Us,fz,tQ]
   refine lg how (by rw[e16,b16];decide) (by rw[e16,b16];decide) ?_
   intro x' r' how' _ _ _
   simp only[↓ag,ah,simprocAttr,hh,how'.qc]
   have hb:bs (Us m 3)++bs m.dg=bs (ci m):=by rw[qe];rfl
   have hn:(bs (ci m)).length=48:=by rw[<-hb,aap,b16,e16]
   rw[hb]at how'
   rcases how' with⟨h1,-⟩|⟨r2,ZE,rfl,Ea⟩
   ·rw[h1]at hn;simp at hn
   ·rw[hn]
    exact .Nl L8 r2 0 48 ZE false ⟨L8,_⟩ [.raw (it 0)] Ea rfl rfl (λh=>by cases h)
  ·simp only[has,↓ag,ah,simprocAttr]
theorem pW(m:Bo)(h:m.dg.length=32):(ci m).length=48:=by simp[ci,tQ,fz,h]
theorem Ov(rows:Rows)(k:D->Rows->Prop)(m:Bo)(h:m.dg.length=32)(hk:cT m=true):aG vU rows k [dw m]=k (.cd [.sl L8 (0+rows.length) [] 0 48 false,.raw (it 0)]) (rows++[some ⟨L8,bs (ci m)⟩]):=by
 refine(bk (by simp[aX,DD]) (r:=(.cd [.sl L8 0 [] 0 48 false,.raw (it 0)],[some ⟨L8,bs (ci m)⟩])) ?_).trans ?_
 ·rw[vU,fa (bZ DC m) (by simp[h]),hk];rfl
 ·simp[shift,bD,af,Sh.pure]
theorem kBodyN(rows:Rows)(k:D->Rows->Prop)(m:Bo)(h:m.dg.length=32)(hk:cT m=false):aG vU rows k [dw m]=k (.cd [.raw (.slice none 0 0),.raw (it 1)]) rows:=by
 refine(bk (by simp[aX,DD]) (r:=(.cd [.raw (.slice none 0 0),.raw (it 1)],[])) ?_).trans ?_
 ·rw[vU,fa (bZ DC m) (by simp[h]),hk];rfl
 ·simp[shift,bD,af]
def fA:Bo:=⟨0,0,0,sO⟩
def tD(p:List (BitVec 8)):Bo:=⟨(dZ (p.drop 4)).toNat,(dZ (p.drop 8)).toNat,(dZ (p.drop 12)).toNat,p.drop 16⟩
def dJ(p:List (BitVec 8)):Bo×Int:=
 bif decide (p.length=48)&&decide (p.take 4=tQ)then
  (bif cT (tD p)then(tD p,0)else(fA,1))
 else(fA,2)
noncomputable def Fg:Fn:=nv eP (λa=>Nat.ble a.length most) λp=>(.cd [dw (dJ p).1,.raw (it (dJ p).2)],[])
theorem Ut(rows:Rows)(k:D->Rows->Prop)(x:List (BitVec 8))(e:Bool)(h:4<=x.length):aG fNum rows k [.dh L8 (bs x) e]=k (.raw (it (((dZ x).toNat:Nat):Int))) rows:=by
 refine(bk rfl (fa (BU x e) (by simpa using h))).trans ?_
 simp[shift,af]
theorem manD_mk(a b c:Int)(l:List (BitVec 8)):D.agg SM [.raw (it a),.raw (it b),.raw (it c),.agg (.ar 32 L8) (bs l)]=dw ⟨a,b,c,l⟩:=rfl
theorem vV:D.agg SM [.raw (it 0),.raw (it 0),.raw (it 0),.agg (.ar 32 L8) (List.replicate 32 (.raw (u8 0#8)))]=dw fA:=by rw[dw,fA,sO,bs_rep]
theorem parse_ok(C:aU)(hC:aI C P)(h15:C.fn 126=some Ff)(h17:C.fn 246=some fPre)(h18:C.fn 290=some fNum):aQ C.aZ P 279 (Fn.run Fg):=by
 refine cA (EN C hC) λds rows r h=>?_
 obtain⟨d,p,rfl,rfl,hd,hp,rfl⟩:=bd h
 obtain⟨x,hx⟩:=cF hd
 refine⟨rfl,_,.cons hx .nil,ae rfl ?_⟩
 simp only[abD]at hp
 unfold most at hp
 clear h hx hd
 unfold uH uI
 have hz:=vV
 have hfz:=fI fA
 have hT:[D.raw (u8 67#8),D.raw (u8 85#8),D.raw (u8 82#8),D.raw (u8 84#8)]=bs tQ:=rfl
 by_cases hl:p.length=48
 ·have hq:dJ p=if p.take 4=tQ then(if cT (tD p)then(tD p,0)else(fA,1))else(fA,2):=by
   simp only[dJ,hl,aaD,ab8]
   by_cases h1:p.take 4=tQ<;>cases h2:cT (tD p)<;>simp[h1]
  have h4:(4:Nat)<=tQ.length:=by decide
  simp only[↓ag,ah,simprocAttr,aE,hl,h17,hT,hz,hfz]
  refine⟨h4,Eq.mpr (kPre _ _ _ _ p tQ (eC.to (.inr ⟨x,rfl⟩)) (jy.to (.inr ⟨1,true,rfl,rfl⟩)) (by omega) (by decide)) ?_⟩
  have t4:tQ.length=4:=rfl
  have Ea:((4:Nat)<=p.length)=True:=aas (by omega)
  have d4:4<=(p.drop 4).length:=by rw[aat];omega
  have d8:4<=(p.drop 8).length:=by rw[aat];omega
  have d12:4<=(p.drop 12).length:=by rw[aat];omega
  have tk4:(bs (p.drop 4)).take 44=bs (p.drop 4):=aar (by rw[aE,aat];omega)
  have tk8:(bs (p.drop 8)).take 40=bs (p.drop 8):=aar (by rw[aE,aat];omega)
  have tk12:(bs (p.drop 12)).take 36=bs (p.drop 12):=aar (by rw[aE,aat];omega)
  have tk16:(bs (p.drop 16)).take 32=bs (p.drop 16):=aar (by rw[aE,aat];omega)
  simp only[t4,Ea,aaD,ab8]
  by_cases ht:p.take 4=tQ
  ·have hmo:∀l,D.agg SM [.raw (it ((dZ (p.drop 4)).toNat:Int)),.raw (it ((dZ (p.drop 8)).toNat:Int)),.raw (it ((dZ (p.drop 12)).toNat:Int)),.agg (.ar 32 L8) (bs l)]=dw ⟨(dZ (p.drop 4)).toNat,(dZ (p.drop 8)).toNat,(dZ (p.drop 12)).toNat,l⟩:=λl=>rfl
   have hmf:dw ⟨(dZ (p.drop 4)).toNat,(dZ (p.drop 8)).toNat,(dZ (p.drop 12)).toNat,p.drop 16⟩=dw (tD p):=rfl
   have ZK:=fI (tD p)
   simp only[hq,ht,abR,aaD]
   simp only[↓ag,ah,simprocAttr,aE,hl,h18,hU,tk4,tk8,tk12,tk16,Ut _ _ _ _ d4,Ut _ _ _ _ d8,Ut _ _ _ _ d12,aat,hmo,hmf,ZK,h15,Ur]
   cases hk:cT (tD p)
   ·simp only[↓ag,ah,simprocAttr,hz,hfz]
    exact .val _ rfl
   ·simp only[↓ag,ah,simprocAttr,ZK]
    exact .val _ rfl
  ·simp only[hq,ht,abP,aaE]
   simp only[↓ag,ah,simprocAttr,hz,hfz]
   exact .val _ rfl
 ·have zw:((p.length:Int)=48)=False:=aaw (by omega)
  have hq:dJ p=(fA,2):=by simp[dJ,hl]
  rw[hq]
  simp only[↓ag,ah,simprocAttr,aE,zw,hz,hfz]
  exact .val _ rfl
theorem kParse(rows:Rows)(k:D->Rows->Prop)(d:D)(p:List (BitVec 8))(h:aY rows d p)(hp:p.length<=1099511627776):aG Fg rows k [d]=k (.cd [dw (dJ p).1,.raw (it (dJ p).2)]) rows:=by
 refine(qO h (by simpa[most]using hp) ?_).trans ?_
 ·simp[dw,cv,lc,bf,Sh.pure]
 ·simp[shift,bD,JM,af]
def ofS(v e:Int)(p:List (BitVec 8)):Bo:=⟨v,p.length,e,eY p⟩
noncomputable def fOf:Fn:=Kx u9 u9 eP (λ_ _ p=>Nat.ble p.length 1099511627000) λv e p=>(dw (ofS v e p),[])
theorem of_ok(C:aU)(hC:aI C P)(hs:C.fn 125=some EU):aQ C.aZ P 60 (Fn.run fOf):=by
 refine cA (KN C hC) λds rows r h=>?_
 obtain⟨d,e,f,v,en,p,rfl,rfl,hd,he,hf,hp,rfl⟩:=fV h
 cases bX hd
 cases bX he
 obtain⟨x,hx⟩:=cF hf
 refine⟨rfl,_,.cons (.refl _) (.cons (.refl _) (.cons hx .nil)),ae rfl ?_⟩
 simp only[abD]at hp
 clear h hd he hf hx
 unfold zV zW
 have ks:=λk=>TL [some ⟨SM,[dw fA]⟩,some ⟨.ref,[.dh L8 (bs p) x]⟩] k 1 1 true [.dh L8 (bs p) x] [p] rfl rfl (.cons (eC.to (.inr ⟨x,rfl⟩)) .nil) (by simp) (by simp;omega)
 simp only[abZ,acb,aaS]at ks
 have hz:=vV
 have hfz:=fI fA
 have hmo:=manD_mk
 have ZK:=fI (ofS v en p)
 have hmf:dw ⟨v,p.length,en,eY p⟩=dw (ofS v en p):=rfl
 simp only[-List.reduceReplicate,vV]
 simp only[↓ag,ah,simprocAttr,aE,hz,hfz,hs,ks,hmo,hmf,ZK]
 exact .val _ (DD _)
theorem kOf(rows:Rows)(k:D->Rows->Prop)(v e:Int)(d:D)(p:List (BitVec 8))(h:aY rows d p)(hp:p.length<=1099511627000):aG fOf rows k [.raw (it v),.raw (it e),d]=k (dw (ofS v e p)) rows:=by
 refine(gP (.int v) (.int e) (.bs h) (by simpa using hp) ?_ k).trans ?_
 ·simp[dw,cv,lc,bf,Sh.pure]
 ·simp[JM,af]
theorem JN(n:Nat)(h:n<4294967296)(l:List (BitVec 8)):(dZ (fz n++l)).toNat=n:=by
 have e:dZ (fz n++l)=dZ [BitVec.ofNat 8 (n/16777216),BitVec.ofNat 8 (n/65536),BitVec.ofNat 8 (n/256),BitVec.ofNat 8 n]:=rfl
 rw[e,Qt]
 simp only[aa2]
 omega
theorem Uu(m:Bo)(hl:m.dg.length=32)(hk:cT m=true):dJ (ci m)=(m,0):=by
 obtain⟨v,s,e,hv,hs,he,b1,b2,b3,b4,-,-⟩:=zo hk
 have d4:(ci m).drop 4=fz m.v.toNat++(fz m.s.toNat++(fz m.e.toNat++m.dg)):=by
  simp only[ci,aaB];rfl
 have d8:(ci m).drop 8=fz m.s.toNat++(fz m.e.toNat++m.dg):=by
  simp only[ci,aaB];rfl
 have d12:(ci m).drop 12=fz m.e.toNat++m.dg:=by
  simp only[ci,aaB];rfl
 have d16:(ci m).drop 16=m.dg:=by
  simp only[ci,aaB];rfl
 have t4:(ci m).take 4=tQ:=by
  simp only[ci,aaB];rfl
 have hm:tD (ci m)=m:=by
  obtain⟨v',s',e',dg⟩:=m
  simp only at hv hs he
  subst hv hs he
  simp only[tD,d4,d8,d12,d16,aaz]
  rw[JN v (by omega),JN s (by omega),JN e (by omega)]
 simp only[dJ,pW m hl,t4,hm,hk,aaD,acM,aaU]
theorem parse_dg(p:List (BitVec 8)):(dJ p).1.dg.length=32:=by
 unfold dJ
 cases h1:decide (p.length=48)<;>cases h2:decide (p.take 4=tQ)<;>simp only[acM,adz,ado,acQ,aaK,aaU]<;>try rfl
 cases cT (tD p)<;>simp only[aaK,aaU]
 ·rfl
 ·have:=acs h1
  simp only[tD,aat];omega
end kj
end Go.Am

namespace Go.Am
attribute [local congr] cJ bI cK bJ bK b6 bw bN bO b7 bi b8 bP cI
namespace kj
open Go.Am.F
theorem b_shlI(a:Nat)(h:a<256)(k:D->Prop):cm .shl (it (a:Int)) (u64 8#64) k=k (.raw (it ((a*256:Nat):Int))):=by
 have e:wz ((a:Int)*2^8)=((a*256:Nat):Int):=by rw[bh (by omega)];omega
 show(0<=(8:Int)/\k (.raw (.int .i64 (IntKind.i64.wrap ((a:Int)*2^(min 8 64))))))=_
 rw[show IntKind.i64.wrap ((a:Int)*2^(min 8 64))=wz ((a:Int)*2^8)from rfl,e]
 simp[it]
theorem b_orI(a b:Nat)(ha:a<256)(hb:b<256)(k:D->Prop):cm .or (it ((a*256:Nat):Int)) (it (b:Int)) k=k (.raw (it ((a*256+b:Nat):Int))):=by
 have e1:(BitVec.ofInt 64 ((a*256:Nat):Int)|||BitVec.ofInt 64 (b:Int)).toNat=a*256+b:=by
  have x1:BitVec.ofInt 64 ((a*256:Nat):Int)=BitVec.ofNat 64 (a*256):=rfl
  have x2:BitVec.ofInt 64 (b:Int)=BitVec.ofNat 64 b:=rfl
  rw[x1,x2,adA,aa2,aa2,abo (by omega),abo (by omega)]
  have:=NS a b 8 (by omega)
  rw[acC]at this
  exact this
 show(IntKind.i64=IntKind.i64/\k (.raw (.int .i64 (IntKind.i64.wrap (((BitVec.ofInt 64 ((a*256:Nat):Int)|||BitVec.ofInt 64 (b:Int)).toNat:Nat):Int)))))=_
 rw[e1,show IntKind.i64.wrap ((a*256+b:Nat):Int)=wz ((a*256+b:Nat):Int)from rfl,bh (by omega)]
 simp[it]
def n2I(n:Nat):List (BitVec 8):=[BitVec.ofNat 8 (n/256),BitVec.ofNat 8 n]
def jV(m:Bo)(sig p:List (BitVec 8)):List (BitVec 8):=ci m++(n2I sig.length++(sig++p))
def qy(m:Bo)(sig p:List (BitVec 8)):Bool:=cT m&&(decide ((p.length:Int)=m.s)&&decide (sig.length<=65535))
noncomputable def Ow:Fn:=Kx (cj dw) eP eP (λm sig p=>decide (m.dg.length=32)&&(Nat.ble sig.length 1099511627&&Nat.ble p.length 1099511627)) λm sig p=>
 bif qy m sig p then(.cd [.sl L8 0 [] 0 (jV m sig p).length false,.raw (it 0)],[some ⟨L8,bs (jV m sig p)⟩])else(.cd [.raw (.slice none 0 0),.raw (it 1)],[])
theorem kBJoin(rows:Rows)(k:D->Rows->Prop)(r n:Nat)(ex:Bool)(l:List D)(ls:List (List (BitVec 8)))(hl:live rows r=some ⟨.ref,l⟩)(hn:l.length=n)
  (hv:aW (λx y=>aY rows x y) l ls)(hp:ls.length<=1099511627776)(qL:ls.flatten.length<=1099511627776):aG ES rows k [.sl .ref r [] 0 n ex,.raw (.slice none 0 0)]=k (.sl L8 (0+rows.length) [] 0 ls.flatten.length false) (rows++[some ⟨L8,bs ls.flatten⟩]):=by
 refine(lY (.parts hl hn hv) (.raw (a:=()) rfl) (by simp only[aan,abD];exact⟨hp,qL⟩) (by simp[eR,cv,bf,Sh.pure]) k).trans ?_
 simp[eR,shift,af,Sh.pure]
theorem image_ok(C:aU)(hC:aI C P)(h7:C.fn 61=some vU)(hj:C.fn 127=some ES):aQ C.aZ P 62 (Fn.run Ow):=by
 refine cA (Ew C hC) λds rows r h=>?_
 obtain⟨d,e,f,m,sig,p,rfl,rfl,hd,he,hf,hp,rfl⟩:=fV h
 cases aH hd
 obtain⟨x,hx⟩:=cF he
 obtain⟨y,hy⟩:=cF hf
 refine⟨rfl,_,.cons (.refl _) (.cons hx (.cons hy .nil)),ae rfl ?_⟩
 simp only[aan,aaq,abD]at hp
 obtain⟨hm,hs,qm⟩:=hp
 clear h hd he hf hx hy
 unfold uo ur
 have ZK:=fI m
 have gs:(dw m).get [1]=some (.raw (it m.s)):=rfl
 cases hk:cT m
 ·have kb:=λrows k=>kBodyN rows k m hm hk
  have hi:qy m sig p=false:=by simp[qy,hk]
  simp only[↓ag,ah,simprocAttr,ZK,h7,kb,hi,aaK]
  exact .val _ rfl
 ·have kb:=λrows k=>Ov rows k m hm hk
  by_cases c1:(p.length:Int)=m.s
  ·by_cases c2:sig.length<=65535
   ·have hi:qy m sig p=true:=by simp[qy,hk,c1,c2]
    have We:(65535<(sig.length:Int))=False:=aaw (by omega)
    have e8:((sig.length:Int).fdiv (2^(min 8 64)))=((sig.length/256:Nat):Int):=pV sig.length 256
    have e4:∀m:Nat,BitVec.ofInt 8 (m:Int)=BitVec.ofNat 8 m:=λm=>rfl
    have b48:=pW m hm
    simp only[↓ag,ah,simprocAttr,ZK,h7,kb,hi,aaU,aE,gs,c1,We,Ou,e8,e4,hj]
    refine Eq.mpr (kBJoin _ _ _ 4 _ _ [ci m,n2I sig.length,sig,p] rfl rfl (.cons (aY.own rfl 48 b48.symm) (.cons (aY.own (l:=n2I sig.length) rfl 2 rfl) (.cons (eC.to (.inr ⟨x,rfl⟩)) (.cons (eC.to (.inr ⟨y,rfl⟩)) .nil)))) (by simp) (by simp[b48,n2I];omega)) ?_
    have qj:[ci m,n2I sig.length,sig,p].flatten=jV m sig p:=by simp[jV]
    rw[qj]
    simp only[↓ag,ah,simprocAttr]
    exact .Nl L8 _ 0 _ false false _ [.raw (it 0)] rfl rfl rfl (λh=>by cases h)
   ·have hi:qy m sig p=false:=by simp[qy,c2]
    have We:(65535<(sig.length:Int))=True:=aas (by omega)
    simp only[↓ag,ah,simprocAttr,ZK,h7,kb,hi,aaK,aE,gs,c1,We]
    exact .val _ rfl
  ·have hi:qy m sig p=false:=by simp[qy,c1]
   simp only[↓ag,ah,simprocAttr,ZK,h7,kb,hi,aaK,aE,gs,c1]
   exact .val _ rfl
theorem kImage(rows:Rows)(k:D->Rows->Prop)(m:Bo)(d e:D)(sig p:List (BitVec 8))(hm:m.dg.length=32)(h:aY rows d sig)(h':aY rows e p)(hs:sig.length<=1099511627)(hp:p.length<=1099511627)(hi:qy m sig p=true):
  aG Ow rows k [dw m,d,e]=k (.cd [.sl L8 (0+rows.length) [] 0 (jV m sig p).length false,.raw (it 0)]) (rows++[some ⟨L8,bs (jV m sig p)⟩]):=by
 refine(gP (.agg rfl (bZ DC m)) (.bs h) (.bs h') (by simp[hm,hs,hp]) ?_ k).trans ?_
 ·rw[hi];simp[cv,lc,bf,Sh.pure]
 ·rw[hi];simp[shift,bD,af,Sh.pure]
def fX(q:List (BitVec 8)):Nat:=(q.getD 48 0#8).toNat*256+(q.getD 49 0#8).toNat
def dD(q:List (BitVec 8)):Bo×List (BitVec 8)×List (BitVec 8)×Int:=
 bif decide (q.length<50)then(fA,[],[],2)else
 bif decide ((dJ (q.take 48)).2≠0)then(fA,[],[],(dJ (q.take 48)).2)else
 bif decide ((q.length:Int)<50+fX q+(dJ (q.take 48)).1.s)then(fA,[],[],2)else
 ((dJ (q.take 48)).1,(q.drop 50).take (fX q),(q.drop (50+fX q)).take (dJ (q.take 48)).1.s.toNat,0)
theorem parse_s(p:List (BitVec 8))(h:(dJ p).2=0):∃s:Nat,(dJ p).1.s=(s:Int)/\s<=2048:=by
 unfold dJ at h⊢
 cases h1:decide (p.length=48)<;>cases h2:decide (p.take 4=tQ)<;>rw[h1,h2]at h<;>simp only[acM,adz,ado,acQ,aaK,aaU]at h⊢<;>try (exact absurd h (by decide))
 cases h3:cT (tD p)<;>rw[h3]at h<;>simp only[aaK,aaU]at h⊢
 ·exact absurd h (by decide)
 ·obtain⟨v,s,e,hv,hs,he,b1,b2,b3,b4,-,-⟩:=zo h3
  exact⟨s,hs,b2⟩
theorem ownMk{rows:Rows}{r n:Nat}{ex:Bool}{l:List (BitVec 8)}(h:live rows r=some ⟨L8,bs l⟩)(hn:n=l.length):jy L8 (.sl L8 r [] 0 n ex) rows (bs l):=by
 subst hn
 exact .inr ⟨r,ex,by rw[aE],h⟩
def Read1(rows aa:Rows)(q:List (BitVec 8))(d:D):Prop:=∃L d1 d2,aa=rows++L/\d= .cd [dw (dD q).1,d1,d2,.raw (it (dD q).2.2.2)]/\jy L8 d1 aa (bs (dD q).2.1)/\jy L8 d2 aa (bs (dD q).2.2.1)
theorem read_run(C:aU){rows:Rows}{r n:Nat}{ex:Bool}{q:List (BitVec 8)}(hl:live rows r=some ⟨L8,bs q⟩)(hn:n=q.length)(hq:q.length<=1099511627){K:D->Rows->Prop}
  (h13:C.fn 279=some Fg)(h30:C.fn 114=some oX)
  (h:∀d aa,Read1 rows aa q d->K d aa):aB C 1 iB iA [.sl L8 r [] 0 n ex] rows K:=by
 subst hn
 refine ae rfl ?_
 unfold iA iB
 simp only[-List.reduceReplicate,vV]
 have hfz:=fI fA
 have hf:=fI
 by_cases c1:q.length<50
 ·have O8:((q.length:Int)<50)=True:=aas (by omega)
  have hr:dD q=(fA,[],[],2):=by unfold dD;rw[abA c1];rfl
  have fin:∀L,K (.cd [dw fA,.raw (.slice none 0 0),.raw (.slice none 0 0),.raw (it 2)]) (rows++L):=λL=>h _ _ ⟨L,_,_,rfl,by rw[hr],by rw[hr];exact .inl ⟨rfl,rfl⟩,by rw[hr];exact .inl ⟨rfl,rfl⟩⟩
  simp only[↓ag,ah,simprocAttr,aK,O8,hf]
  exact fin _
 ·have O8:((q.length:Int)<50)=False:=aaw (by omega)
  have c48:(48:Int)<=(q.length:Int):=by omega
  have b48:∀L e,aY (rows++L) (.sl L8 r [] 0 48 e) (q.take 48):=λL e=>by
   have:=aY.sub (off:=0) (len:=48) (ex:=e) (ab hl L) (by omega)
   rwa [abz]at this
  have kp:=λL e k=>kParse (rows++L) k (.sl L8 r [] 0 48 e) (q.take 48) (b48 L e) (by rw[aau];omega)
  simp only[↓ag,ah,simprocAttr,aK,O8,c48,hf,h13,kp]
  by_cases c2:(dJ (q.take 48)).2=0
  ·obtain⟨s,hs,tI⟩:=parse_s _ c2
   have gs:(dw (dJ (q.take 48)).1).get [1]=some (.raw (it (s:Int))):=by rw[<-hs];rfl
   have g48:=tJ (l:=q) (i:=48) (by omega)
   have g49:=tJ (l:=q) (i:=49) (by omega)
   have i48:((48:Int)<(q.length:Int))=True:=aas (by omega)
   have i49:((49:Int)<(q.length:Int))=True:=aas (by omega)
   have t48:(q.getD 48 0#8).toNat<256:=(q.getD 48 0#8).isLt
   have t49:(q.getD 49 0#8).toNat<256:=(q.getD 49 0#8).isLt
   have sh8:=λk=>b_shlI _ t48 k
   have or8:=λk=>b_orI _ _ t48 t49 k
   have sgn:(q.getD 48 0#8).toNat*256+(q.getD 49 0#8).toNat=fX q:=rfl
   have sgb:fX q<65536:=by unfold fX;omega
   have w1:wz ((fX q:Int)+(s:Int))=((fX q+s:Nat):Int):=by rw[bh (by omega)];omega
   have hlA:=λL=>ab hl L
   have c50:(50:Int)<=(q.length:Int):=by omega
   simp only[↓ag,ah,simprocAttr,aK,c2,hf,hlA,g48,g49,i48,i49,sh8,or8,sgn,gs,w1,c50]
   by_cases c3:(q.length:Int)<50+(fX q:Int)+(s:Int)
   ·have hr:dD q=(fA,[],[],2):=by
     unfold dD
     rw[aa7 c1,c2,hs,abA c3]
     rfl
    have fin:∀L,K (.cd [dw fA,.raw (.slice none 0 0),.raw (.slice none 0 0),.raw (it 2)]) (rows++L):=λL=>h _ _ ⟨L,_,_,rfl,by rw[hr],by rw[hr];exact .inl ⟨rfl,rfl⟩,by rw[hr];exact .inl ⟨rfl,rfl⟩⟩
    have Uv:(((q.length-50:Nat):Int)<((fX q+s:Nat):Int))=True:=aas (by omega)
    simp only[↓ag,ah,simprocAttr,aK,Uv,hf]
    exact fin _
   ·have hr:dD q=((dJ (q.take 48)).1,(q.drop 50).take (fX q),(q.drop (50+fX q)).take s,0):=by
     unfold dD
     rw[aa7 c1,c2,hs,aa7 c3]
     rfl
    have fin:∀L d1 d2,jy L8 d1 (rows++L) (bs ((q.drop 50).take (fX q)))->jy L8 d2 (rows++L) (bs ((q.drop (50+fX q)).take s))->K (.cd [dw (dJ (q.take 48)).1,d1,d2,.raw (it 0)]) (rows++L):=λL d1 d2 k1 k2=>h _ _ ⟨L,_,_,rfl,by rw[hr],by rw[hr];exact k1,by rw[hr];exact k2⟩
    have Uv:(((q.length-50:Nat):Int)<((fX q+s:Nat):Int))=False:=aaw (by omega)
    have d0:(0:Int)<=(fX q:Int):=by omega
    have d1:(fX q:Int)<=((q.length-50:Nat):Int):=by omega
    have d2:(fX q:Int)<=((fX q+s:Nat):Int):=by omega
    have d3:((fX q+s:Nat):Int)<=((q.length-50:Nat):Int):=by omega
    have d4:fX q+s-fX q=s:=by omega
    have l1:((q.drop 50).take (fX q)).length=fX q:=by rw[aau,aat];omega
    have l2:((q.drop (50+fX q)).take s).length=s:=by rw[aau,aat];omega
    have kc1:=λL e k=>EV (rows++L) k (.sl L8 r [] 50 (fX q) e) ((q.drop 50).take (fX q)) (aY.sub (ab hl L) (by omega)) (by omega)
    have kc2:=λL e k=>EV (rows++L) k (.sl L8 r [] (50+fX q) s e) ((q.drop (50+fX q)).take s) (aY.sub (ab hl L) (by omega)) (by omega)
    rw[l1]at kc1
    rw[l2]at kc2
    simp only[↓ag,ah,simprocAttr,aK,Uv,hf,d0,d1,acV,h30,kc1]
    simp only[↓ag,ah,simprocAttr,aK,hf,gs,w1,d0,d1,d2,d3,d4,h30,kc2]
    refine fin _ _ _ ?_ ?_
    ·exact ownMk (by rw[bg];rfl) l1.symm
    ·exact ownMk (by rw[bg];rfl) l2.symm
  ·have hr:dD q=(fA,[],[],(dJ (q.take 48)).2):=by
    unfold dD
    rw[aa7 c1,abA c2]
    rfl
   have fin:∀L,K (.cd [dw fA,.raw (.slice none 0 0),.raw (.slice none 0 0),.raw (it (dJ (q.take 48)).2)]) (rows++L):=λL=>h _ _ ⟨L,_,_,rfl,by rw[hr],by rw[hr];exact .inl ⟨rfl,rfl⟩,by rw[hr];exact .inl ⟨rfl,rfl⟩⟩
   simp only[↓ag,ah,simprocAttr,aK,c2,hf]
   exact fin _
theorem read_img(m:Bo)(sig p:List (BitVec 8))(hm:m.dg.length=32)(hi:qy m sig p=true):dD (jV m sig p)=(m,sig,p,0):=by
 have hi':=hi
 unfold qy at hi'
 simp only[aan,aaq]at hi'
 obtain⟨hk,hs,hg⟩:=hi'
 have b48:=pW m hm
 have t48:(jV m sig p).take 48=ci m:=by unfold jV;rw[<-b48,aaW]
 have d48:(jV m sig p).drop 48=n2I sig.length++(sig++p):=by unfold jV;rw[<-b48,aa9]
 have d50:(jV m sig p).drop 50=sig++p:=by
  rw[show(50:Nat)=48+2 from rfl,<-abr,d48];rfl
 have g48:(jV m sig p).getD 48 0#8=BitVec.ofNat 8 (sig.length/256):=by
  rw[aay,show(48:Nat)=48+0 from rfl,<-aa5,d48];rfl
 have g49:(jV m sig p).getD 49 0#8=BitVec.ofNat 8 sig.length:=by
  rw[aay,show(49:Nat)=48+1 from rfl,<-aa5,d48];rfl
 have hN:fX (jV m sig p)=sig.length:=by
  unfold fX
  rw[g48,g49]
  simp only[aa2]
  omega
 have hL:(jV m sig p).length=50+sig.length+p.length:=by
  unfold jV n2I
  simp only[aap,aaP,aaV,b48]
  omega
 have d2:(jV m sig p).drop (50+sig.length)=p:=by rw[<-abr,d50,aa9]
 unfold dD
 rw[t48,Uu m hm hk,hN,hL,d50,d2]
 rw[aa7 (by omega)]
 simp only[aaK,ne_eq,acZ,aaE]
 rw[aa7 (by omega)]
 simp only[aaK]
 rw[<-hs,aaz,aaW,aa8]
theorem read_len(q:List (BitVec 8)):(dD q).2.1.length<=q.length/\(dD q).2.2.1.length<=q.length:=by
 unfold dD
 cases decide (q.length<50)
 ·cases decide ((dJ (q.take 48)).2≠0)
  ·cases decide ((q.length:Int)<50+fX q+(dJ (q.take 48)).1.s)
   ·simp only[aaK,aau,aat];omega
   ·simp
  ·simp
 ·simp
def JP(bA:List (BitVec 8))(least:Int)(q:List (BitVec 8)):Int:=
 if(dD q).2.2.2≠0 then(dD q).2.2.2 else if wY bA (q.take 48) (dD q).2.1≠0 then wY bA (q.take 48) (dD q).2.1 else
 if(dD q).1.v<least then 15 else if eY (dD q).2.2.1≠(dD q).1.dg then 16 else 0
theorem Wl(q:List (BitVec 8)):(dD q).1.dg.length=32:=by
 unfold dD
 cases decide (q.length<50)<;>cases decide ((dJ (q.take 48)).2≠0)<;>cases decide ((q.length:Int)<50+fX q+(dJ (q.take 48)).1.s)<;>first|exact parse_dg _|rfl
theorem Wm{q:List (BitVec 8)}(h:(dD q).2.2.2=0):50<=q.length:=by
 rcases aaT q.length 50 with c|c
 ·unfold dD at h
  rw[abA c]at h
  cases h
 ·exact c
theorem Q8(p:List (BitVec 8))(h:(dJ p).2=0):cT (dJ p).1=true:=by
 unfold dJ at h⊢
 cases h1:decide (p.length=48)<;>cases h2:decide (p.take 4=tQ)<;>rw[h1,h2]at h<;>simp only[acM,adz,ado,acQ,aaK,aaU]at h⊢<;>try (exact absurd h (by decide))
 cases h3:cT (tD p)<;>rw[h3]at h<;>simp only[aaK,aaU]at h⊢
 ·exact absurd h (by decide)
 ·exact h3
theorem Fh{q:List (BitVec 8)}(h:(dD q).2.2.2=0):cT (dD q).1=true/\∃s:Nat,(dD q).1.s=(s:Int)/\4<=s/\s<=2048/\(dD q).2.2.1=sub q (50+fX q) s/\50+fX q+s<=q.length:=by
 unfold dD at h⊢
 cases h1:decide (q.length<50)<;>rw[h1]at h<;>simp only[aaK,aaU]at h⊢
 ·cases h2:decide ((dJ (q.take 48)).2≠0)<;>rw[h2]at h<;>simp only[aaK,aaU]at h⊢
  ·have hp:=Q8 (q.take 48) (by simpa using h2)
   cases h3:decide ((q.length:Int)<50+fX q+(dJ (q.take 48)).1.s)<;>rw[h3]at h<;>simp only[aaK,aaU]at h⊢
   ·obtain⟨v,s,e,hv,hs,he,b1,b2,b3,b4,-,-⟩:=zo hp
    rw[hs]at h3⊢
    simp only[ab0]at h3
    refine⟨hp,s,rfl,?_,b2,by rw[aaz,sub],by omega⟩
    simp only[cT,aan,aaq]at hp
    omega
   ·exact absurd h (by decide)
  ·exact absurd h (by simpa using h2)
 ·exact absurd h (by decide)
theorem jy.Uw{s s':Sh}{d:D}{rows:Rows}{els els':List D}{q:Nat}{x:Option Row}(h:jy s d rows els)(hq:live rows q=some ⟨s',els'⟩)(hs:s'≠s):jy s d (rows.set q x) els:=by
 rcases h with⟨h1,h2⟩|⟨r,ex,h1,h2⟩
 ·exact .inl ⟨h1,h2⟩
 ·refine .inr ⟨r,ex,h1,?_⟩
  rw[aA]
  ·exact h2
  ·rintro rfl
   rw[hq]at h2
   injection h2 with h2
   injection h2 with h2 _
   exact hs h2
theorem Ux(C C1:aU)(nR:C.fn 260=none)(rR:C.cV 260=some (aB C1 1 iB iA))(h13:C1.fn 279=some Fg)(h30:C1.fn 114=some oX)
  (hV:C.fn 212=some Ds)(hS:C.fn 125=some EU){rows:Rows}{r n:Nat}{ex:Bool}{q bA:List (BitVec 8)}{dp:D}{least:Int}(hl:live rows r=some ⟨L8,bs q⟩)(hn:n=q.length)(hq:q.length<=10000)(hp:∀L,aY (rows++L) dp bA)(qL:bA.length<=1000){K:D->Rows->Prop}
  (h0:JP bA least q=0->∀aa d,dz rows aa->jy L8 d aa (bs (dD q).2.2.1)->K (.cd [dw (dD q).1,d,.raw (it 0)]) aa)
  (h1:JP bA least q≠0->∀aa,dz rows aa->K (.cd [dw fA,.raw (.slice none 0 0),.raw (it (JP bA least q))]) aa):
  aB C 3 jL jK [dp,.raw (it least),.sl L8 r [] 0 n ex] rows K:=by
 subst hn
 refine ae rfl ?_
 unfold jK jL
 simp only[-List.reduceReplicate,vV]
 simp only[-List.reduceReplicate,eu]
 have hzm:D.agg SM [.raw (it 0),.raw (it 0),.raw (it 0),.agg (.ar 32 L8) (bs sO)]=dw fA:=rfl
 have hf:=fI
 simp only[↓ag,ah,simprocAttr,aK,nR,rR]
 refine read_run C1 (ab hl _) rfl (by omega) h13 h30 ?_
 rintro _ R1 ⟨L,d1,d2,rfl,rfl,hO1,hO2⟩
 have Q9:dz rows (rows++[some ⟨SM,[dw fA]⟩]++L):=(dz.app _ _).trans (dz.app _ _)
 have hpL:∀L',aY (rows++[some ⟨SM,[dw fA]⟩]++L++L') dp bA:=λL'=>by rw[aaB,aaB];exact hp _
 have Ku:live (rows++[some ⟨SM,[dw fA]⟩]++L) rows.length=some ⟨SM,[dw fA]⟩:=ab (by rw[a9];rfl) _
 generalize rows++[some ⟨SM,[dw fA]⟩]++L=R at*
 have zw:=Q9 _ _ hl
 have wg:=λL'=>ab Ku L'
 have zH:=Wl q
 obtain⟨Ha,tI⟩:=read_len q
 have hlen:=@Wm q
 have gv:∀m,(dw m).get [0]=some (.raw (it m.v)):=λ_=>rfl
 have gd:∀m,(dw m).get [3]=some (.agg (.ar 32 L8) (bs m.dg)):=λ_=>rfl
 unfold JP at h0 h1
 generalize hR:dD q=I at*
 obtain⟨m,sg,p,E⟩:=I
 simp only at h0 h1 hO1 hO2 zH Ha tI hlen
 have nt2:=hO2.qc
 have xa:∀L' x,live ((R++L').set rows.length (some x)) rows.length=some x:=λL' x=>aD (wg L')
 have fin:∀L',dz rows ((R++L').set rows.length (some ⟨SM,[dw fA]⟩)):=λL'=>(Q9.trans (dz.app R L')).set (aax _) _
 by_cases c1:E=0
 ·subst c1
  have hq50:=hlen rfl
  have e48:((48:Int)<=((q.length:Nat):Int))=True:=aas (by omega)
  simp only[ne_eq,acZ,abP]at h0 h1
  have kV:=λL' uh k=>kVerify (R++L') k dp (.sl L8 r [] 0 48 uh) d1 bA (q.take 48) sg (hpL _) (by
   have:=aY.sub (rows:=R++L') (off:=0) (len:=48) (ex:=uh) (ab zw _) (by omega)
   rwa [abz]at this) hO1.push.to (by omega) (by rw[aau];omega) (by omega)
  generalize hVe:wY bA (q.take 48) sg=V at*
  by_cases c2:V=0
  ·subst c2
   simp only[acZ,abP]at h0 h1
   by_cases c3:m.v<least
   ·have Uv:(m.v<least)=True:=aas c3
    rw[aaJ c3]at h0 h1
    simp only[↓ag,ah,simprocAttr,aK,hf,hV,kV,e48,Uv,gv,hzm,nt2,wg,xa]
    exact h1 (by decide) _ (fin _)
   ·have Uv:(m.v<least)=False:=aaw c3
    rw[aaC c3]at h0 h1
    simp only[↓ag,ah,simprocAttr,aK,hf,hV,kV,e48,Uv,gv,gd,hzm,nt2,hS,wg,xa,Mj hO2]
    refine Eq.mpr (TL _ _ _ _ _ _ [p] (by rw[bg];rfl) rfl (.cons hO2.push.to .nil) (by simp) (by simp;omega)) ?_
    have hsum:(eY [p].flatten)=eY p:=by simp
    rw[hsum]
    have hq:=N4 (eY p) m.dg (dk p) zH
    by_cases c4:eY p=m.dg
    ·rw[abA c4]at hq
     simp only[c4,acZ,abP]at h0 h1
     simp only[↓ag,ah,simprocAttr,aK,hf,gd,hq,nt2,wg,xa]
     exact h0 trivial _ d2 ((Q9.trans (dz.app _ _)).set (aax _) _) (jy.Uw hO2.push (wg _) (by decide))
    ·rw[aa7 c4]at hq
     rw[aaJ c4]at h0 h1
     simp only[↓ag,ah,simprocAttr,aK,hf,gd,hq,nt2,wg,xa,hzm]
     exact h1 (by decide) _ (fin _)
  ·have We:(V=0)=False:=aaw c2
   rw[aaJ c2]at h0 h1
   simp only[↓ag,ah,simprocAttr,aK,hf,hV,kV,e48,We,hzm,wg,xa]
   exact h1 c2 _ (fin _)
 ·have O8:(E=0)=False:=aaw c1
  rw[aaJ c1]at h0 h1
  simp only[↓ag,ah,simprocAttr,aK,hf,O8,hzm,wg,xa]
  exact h1 c1 _ (fin _)
abbrev SVw:Sh:= .cons LI (.cons SM (.cons .ref .nil))
def La(e:Int)(m:Bo)(p:D):D:= .agg SVw [.raw (it e),dw m,p]
def mF(x bA:List (BitVec 8))(least:Int)(i:Nat):Int:=JP bA least (sub x (4096*i) 4096)
def gG(x:List (BitVec 8))(i:Nat):Bo×List (BitVec 8)×List (BitVec 8)×Int:=dD (sub x (4096*i) 4096)
def YN(x bA:List (BitVec 8))(least:Int)(i:Nat):D×Rows:=
 if mF x bA least i=0 then(La 0 (gG x i).1 (.sl L8 0 [] 0 (gG x i).2.2.1.length false),[some ⟨L8,bs (gG x i).2.2.1⟩])else(La (mF x bA least i) fA (.raw (.slice none 0 0)),[])
noncomputable def Ra:Fn:=gn4 (cj GY) eP u9 u9 (λK p _ i=>decide (sr K=10240)&&decide (p.length<=1000)&&(decide (i=0)||decide (i=1))) λK p l i=>YN (tA K) p l i.toNat
theorem look_ok(C C1 C2:aU)(hC:aI C P)(mH:C.fn 236=some Dl)(hrd:C.fn 152=some Av)(n0:C.fn 237=none)(r0:C.cV 237=some (aB C1 3 jL jK))
  (nR:C1.fn 260=none)(rR:C1.cV 260=some (aB C2 1 iB iA))(h13:C2.fn 279=some Fg)(h30:C2.fn 114=some oX)(hV:C1.fn 212=some Ds)(hS:C1.fn 125=some EU):
  aQ C.aZ P 200 (Fn.run Ra):=by
 refine cA (KS C hC) λds rows r h=>?_
 obtain⟨d0,d1,d2,d3,K,bA,least,i,rfl,rfl,hd,he,hf,hg,hp,rfl⟩:=uN h
 cases aH hd
 obtain⟨ex,hx⟩:=cF he
 cases bX hf
 cases bX hg
 simp only[aan,abM,aaq]at hp
 obtain⟨⟨hl,qm⟩,hi⟩:=hp
 refine⟨rfl,_,.cons (.refl _) (.cons hx (.cons (.refl _) (.cons (.refl _) .nil))),ae rfl ?_⟩
 clear h hd he hf hg hx
 unfold Ae Af
 obtain⟨j,rfl,hj⟩:∃j:Nat,i=(j:Int)/\j<=1:=⟨i.toNat,by omega,by omega⟩
 rcases K with _|⟨x,ek⟩
 ·simp[sr]at hl
 simp only[sr]at hl
 simp only[-List.reduceReplicate,vV]
 have hsb:sj (j:Int)=true:=by unfold sj;rcases(by omega:j=0\/j=1)with rfl|rfl<;>rfl
 have ks:=λrows k=>kSlot rows k (j:Int)
 rw[hsb]at ks
 have e1:wz (4096*(j:Int))=((4096*j:Nat):Int):=by rw[bh (by omega)];omega
 have e0:mP (some (x,ek)) ((4096*j:Nat):Int) 4096=0:=by simp only[mP];rw[aaC (by omega)]
 have kr:=λrows k=>kRead (Ue rows (some (x,ek))) (by simp[sr];omega) ((4096*j:Nat):Int) 4096 k
 simp only[JA,aaJ e0,tA,aaz,shift,bD,af,Sh.pure,aaU,show(4096:Int).toNat=4096 from rfl]at kr
 simp only[aaz,tA]
 have hq:(sub x (4096*j) 4096).length=4096:=tz (by omega)
 have hf:=fI
 have hvz:D.agg SVw [.raw (it 0),dw fA,.raw (.slice none 0 0)]=La 0 fA (.raw (.slice none 0 0)):=rfl
 have hvf:∀e m d,d.fits .ref=true->(La e m d).fits SVw=true:=λ_ _ _ _=>rfl
 have hO0:JP bA least (sub x (4096*j) 4096)=0->YN x bA least j=(La 0 (dD (sub x (4096*j) 4096)).1 (.sl L8 0 [] 0 (dD (sub x (4096*j) 4096)).2.2.1.length false),[some ⟨L8,bs (dD (sub x (4096*j) 4096)).2.2.1⟩]):=λh=>aaJ h
 have hO1:JP bA least (sub x (4096*j) 4096)≠0->YN x bA least j=(La (JP bA least (sub x (4096*j) 4096)) fA (.raw (.slice none 0 0)),[]):=λh=>aaC h
 generalize YN x bA least j=O at*
 simp only[GY]at kr⊢
 generalize sub x (4096*j) 4096=q at*
 simp only[↓ag,ah,simprocAttr,aK,mH,ks,e1,hrd,kr,n0,r0]
 refine Ux C1 C2 nR rR h13 h30 hV hS (q:=q) rfl hq.symm (by omega) (λL=>eC.to (.inr ⟨ex,rfl⟩)) qm (λhz aa d hK hO=>?_) (λhz aa hK=>?_)
 ·rw[hO0 hz]
  obtain⟨hr1,s,Ha,tI,hs3,hs4,hs5⟩:=Fh (q:=q) (by
   unfold JP at hz
   split at hz
   ·rename_i h;exact absurd hz h
   ·rename_i h;simpa using h)
  have hpl2:(dD q).2.2.1.length=s:=by rw[hs4];exact tz hs5
  have Ku:=hK 0 _ rfl
  generalize (dD q).2.2.1=p at*
  generalize (dD q).1=m at*
  have hnt:=hO.qc
  have hof:=Mj hO
  have wg:=λL=>ab Ku L
  have xa:=λL x=>aD (y:=x) (wg L)
  simp only[↓ag,ah,simprocAttr,aK,hf,wg,xa,hnt,hof,La]
  rcases jy.Uw (q:=0) (x:=some ⟨SVw,[.agg SVw [.raw (it 0),dw m,d]]⟩) (hO.push (more:=[some ⟨SM,[dw m]⟩])) (wg _) (by decide)with⟨h1,rfl⟩|⟨r,uh,rfl,FB⟩
  ·have:p.length=0:=by rw[<-aE,h1];rfl
   omega
  ·simp only[aE]at FB⊢
   exact .ownA _ [_,_] _ _ _ _ _ _ _ [] FB rfl rfl rfl (λh=>by cases h)
 ·rw[hO1 hz]
  have Ku:=hK 0 _ rfl
  have wg:=λL=>ab Ku L
  have xa:=λL x=>aD (y:=x) (wg L)
  simp only[↓ag,ah,simprocAttr,aK,hf,wg,xa,La]
  exact .val _ rfl
def ZL(p:List (BitVec 8)):JS:=⟨dZ (p.drop 4),(p.getD 8 0#8).toNat,((p.getD 9 0#8).toNat:Int)-1,(p.getD 10 0#8).toNat⟩
def ME:JS:=⟨0#32,0,0,0⟩
def cU(p:List (BitVec 8)):JS×Bool:=
 bif decide (p.length=32)&&(jj (ZL p)&&decide (sn (ZL p)=p))then(ZL p,true)else(ME,false)
noncomputable def Hn:Fn:=nv eP (λp=>Nat.ble p.length most) λp=>(.cd [jD (cU p).1,.raw (.bool (cU p).2)],[])
theorem YO(C:aU)(hC:aI C P)(hb:C.fn 202=some vP)(he:C.fn 239=some Jh):aQ C.aZ P 204 (Fn.run Hn):=by
 refine cA (GN C hC) λds rows r h=>?_
 obtain⟨d,p,rfl,rfl,hd,hp,rfl⟩:=bd h
 obtain⟨x,hx⟩:=cF hd
 refine⟨rfl,_,.cons hx .nil,ae rfl ?_⟩
 simp only[abD]at hp
 unfold most at hp
 clear h hx hd
 unfold wD wE
 have hz:D.agg SJ [.raw (u32 0#32),.raw (it 0),.raw (it 0),.raw (it 0)]=jD ME:=rfl
 by_cases hl:p.length=32
 ·have g:∀i,i<32->(bs p)[i]?=some (.raw (u8 (p.getD i 0#8))):=λi hi=>tJ (by omega)
  have hn:(p.getD 4 0#8).setWidth 32<<<24|||(p.getD 5 0#8).setWidth 32<<<16|||(p.getD 6 0#8).setWidth 32<<<8|||(p.getD 7 0#8).setWidth 32=dZ (p.drop 4):=by
   rw[XZ];rfl
  have w:wz (((p.getD 9 0#8).toNat:Int)-1)=((p.getD 9 0#8).toNat:Int)-1:=by
   have:=(p.getD 9 0#8).isLt
   rw[bh (by omega)]
  have hof:∀q:BitVec 32,q=dZ (p.drop 4)->D.agg SJ [.raw (u32 q),.raw (it ((p.getD 8 0#8).toNat:Int)),.raw (it (((p.getD 9 0#8).toNat:Int)-1)),.raw (it ((p.getD 10 0#8).toNat:Int))]=jD (ZL p):=λq hq=>by rw[hq];rfl
  have hof':=hof _ hn
  simp only[↓ag,ah,simprocAttr,aE,hl,g 4 (by omega),g 5 (by omega),g 6 (by omega),g 7 (by omega),g 8 (by omega),g 9 (by omega),g 10 (by omega),w,hn,hz,hof _ rfl,dK,hb]
  cases hk:jj (ZL p)
  ·have hq:cU p=(ME,false):=by rw[cU,hk];simp
   have kb:=λrows k=>kBytesN rows k (ZL p) hk
   have ke:=λrows k=>TT rows k (.raw (.slice none 0 0)) (.dh L8 (bs p) x) [] p (eC.to (.inl ⟨rfl,rfl⟩)) (eC.to (.inr ⟨x,rfl⟩)) (by simp) hp
   have hne:decide (([]:List (BitVec 8))=p)=false:=aa7 (by intro h;rw[<-h]at hl;cases hl)
   rw[hne]at ke
   rw[hq]
   simp only[↓ag,ah,simprocAttr,kb,he,ke,hz,dK]
   exact .val _ rfl
  ·have kb:=λrows k=>kBytesJ rows k (ZL p) hk
   simp only[↓ag,ah,simprocAttr,kb,he]
   refine Eq.mpr (TT _ _ _ _ (sn (ZL p)) p (aY.own rfl _ (zi _).symm) (eC.to (.inr ⟨x,rfl⟩)) (by rw[zi];omega) hp) ?_
   by_cases Vo:sn (ZL p)=p
   ·have hq:cU p=(ZL p,true):=by rw[cU,hk,hl,abA Vo];simp
    rw[hq,abA Vo]
    simp only[↓ag,ah,simprocAttr,dK]
    exact .val _ rfl
   ·have hq:cU p=(ME,false):=by rw[cU,aa7 Vo];simp
    rw[hq,aa7 Vo]
    simp only[↓ag,ah,simprocAttr,hz,dK]
    exact .val _ rfl
 ·have zw:((p.length:Int)=32)=False:=aaw (by omega)
  have hq:cU p=(ME,false):=by rw[cU,aa7 hl];rfl
  rw[hq]
  simp only[↓ag,ah,simprocAttr,aE,zw,hz,dK]
  exact .val _ rfl
theorem kParseJ(rows:Rows)(k:D->Rows->Prop)(d:D)(p:List (BitVec 8))(h:aY rows d p)(hp:p.length<=1099511627776):aG Hn rows k [d]=k (.cd [jD (cU p).1,.raw (.bool (cU p).2)]) rows:=by
 refine(qO h (by simpa[most]using hp) ?_).trans ?_
 ·simp[jD,cv,lc,bf,Sh.pure]
 ·simp[shift,bD,Ji,af]
def gW:JS:=⟨0#32,0,-1,0⟩
noncomputable def Fi:Fn
 |[],[]=>some (jD gW,[])
 | _,_=>none
theorem first_ok(C:aU)(hC:aI C P):aQ C.aZ P 203 (Fn.run Fi):=by
 refine aJ (GM C hC) λds rows r h=>?_
 unfold Fi at h
 split at h
 ·cases h
  refine⟨rfl,ae rfl ?_⟩
  unfold wB wC
  simp only[↓ag,ah,simprocAttr]
  exact .val _ rfl
 ·cases h
theorem kFirst(rows:Rows)(k:D->Rows->Prop):aG Fi rows k []=k (jD gW) rows:=by
 refine(bk rfl (r:=(jD gW,[])) rfl).trans ?_
 simp[Ji,af]
def DE(K:FV)(i:Nat)(s:JS×Int):JS×Int:=
 if mP K ((256*i:Nat):Int) 32=0 then
  (bif (cU (sub (tA K) (256*i) 32)).2&&(decide (s.2=-1)||decide (s.1.q<(cU (sub (tA K) (256*i) 32)).1.q))then((cU (sub (tA K) (256*i) 32)).1,(i:Int))else s)
 else s
def nj(K:FV):JS×Int:=DE K 33 (DE K 32 (gW,-1))
noncomputable def Fj:Fn:=nv (cj GY) (λK=>decide (sr K<=1048576)) λK=>(.cd [jD (nj K).1,.raw (it (nj K).2)],[])
def atJ(K:FV):Nat->JS×Int
 |0=>(gW,-1)
 |1=>DE K 32 (gW,-1)
 | _=>nj K
theorem u32_gt(x y:BitVec 32)(k:D->Prop):cm .gtr (u32 x) (u32 y) k=k (.raw (.bool (decide (y<x)))):=by
 have:(x.toNat:Int)>(y.toNat:Int)↔y<x:=by rw[aci];omega
 simp only[cm,u32]
 by_cases h:y<x
 ·have:=this.2 h
  simp[h,aci.1 h]
 ·have h2:¬y.toNat<x.toNat:=λe=>h (aci.2 e)
  simp[h,h2]
theorem readj_ok(C:aU)(hC:aI C P)(hf:C.fn 203=some Fi)(hr:C.fn 152=some Av)(hp:C.fn 204=some Hn):aQ C.aZ P 149 (Fn.run Fj):=by
 refine aJ (IK C hC) λds rows r h=>?_
 obtain⟨d,K,rfl,rfl,hd,hp',rfl⟩:=bd h
 cases aH hd
 simp only[aaq]at hp'
 refine⟨rfl,ae rfl ?_⟩
 clear h hd
 unfold xW xX
 have hz:D.agg SJ [.raw (u32 0#32),.raw (it 0),.raw (it 0),.raw (it 0)]=jD ME:=rfl
 have hg:∀rs,Ud rs (GY K) K:=λrs=>Ue rs K
 have kr:=λrows (i:Nat) k=>kRead (hg rows) hp' ((256*i:Nat):Int) 32 k
 generalize hkk:GY K=kk at kr⊢
 simp only[↓ag,ah,simprocAttr,aK,hz,dK,hf,kFirst]
 refine bx 2 (λi env rows=>has env [(6,.raw (it ((32+i:Nat):Int))),(5,.raw (it (atJ K i).2)),(4,.ptr SJ 1 [0]),(2,.ptr SJ 0 [0]),(0,kk)]/\live rows 1=some ⟨SJ,[jD (atJ K i).1]⟩/\∃x,live rows 0=some ⟨SJ,[x]⟩) ?_ ?_ ?_
 ·rintro i hi env rows ⟨hh,r1,⟨x0,r0⟩⟩ R hR
  simp only[has]at hh
  have e0:(((32+i:Nat):Int)<34)=True:=aas (by omega)
  have e1:wz (256*((32+i:Nat):Int))=((256*(32+i):Nat):Int):=by rw[bh (by omega)];omega
  have e2:wz (((32+i:Nat):Int)+1)=((32+(i+1):Nat):Int):=by rw[bh (by omega)];omega
  have hs:atJ K (i+1)=DE K (32+i) (atJ K i):=by
   have:i=0\/i=1:=by omega
   rcases this with rfl|rfl<;>rfl
  have fin:∀env' aa,(has env' [(6,.raw (it ((32+(i+1):Nat):Int))),(5,.raw (it (atJ K (i+1)).2)),(4,.ptr SJ 1 [0]),(2,.ptr SJ 0 [0]),(0,kk)]/\live aa 1=some ⟨SJ,[jD (atJ K (i+1)).1]⟩/\∃x,live aa 0=some ⟨SJ,[x]⟩)->R env' aa:=λenv' aa h=>hR env' aa h
  rw[hs]at fin
  have kr':=kr rows (32+i)
  by_cases c:mP K ((256*(32+i):Nat):Int) 32=0
  ·rw [JA, aaJ c] at kr'
   have mH:(sub (tA K) (256*(32+i)) 32).length=32:=by
    rcases K with _|⟨x,ex⟩
    ·cases c
    ·obtain⟨b1,b2,b3,b4⟩:=Oj c
     exact tz (x:=x) (by omega)
   have e32:(32:Int).toNat=32:=rfl
   simp only[aaz,e32,shift,bD,af,abm,adJ,Sh.pure,aaU,abk]at kr'
   simp only[DE,aaJ c]at fin
   generalize sub (tA K) (256*(32+i)) 32=p at kr' fin mH
   generalize atJ K i=st at hh r1 fin
   have kp:=λk=>kParseJ (rows++[some ⟨L8,bs p⟩]) k (.sl L8 rows.length [] 0 32 false) p (aY.own (by rw[a9];rfl) _ mH.symm) (by omega)
   generalize cU p=qk at kp fin
   obtain⟨q,ok⟩:=qk
   obtain⟨s1,at1⟩:=st
   simp only at hh r1 fin kp
   have f1:=λl=>ab r1 l
   have f0:=λl=>ab r0 l
   have hw:∀rs,live rs 1=some ⟨SJ,[jD s1]⟩->live (rs.set 1 (some ⟨SJ,[jD q]⟩)) 1=some ⟨SJ,[jD q]⟩:=λrs h=>aD h
   have hw0:∀rs,live rs 0=some ⟨SJ,[x0]⟩->live (rs.set 1 (some ⟨SJ,[jD q]⟩)) 0=some ⟨SJ,[x0]⟩:=λrs h=>dH h (by decide)
   cases ok
   ·simp only[acQ,aaK]at fin
    simp only[↓ag,ah,simprocAttr,aK,hh,e0,e1,e2,hr,kr',hp,kp,dK,f1]
    exact fin _ _ ⟨by simp only[has,↓ag,ah,simprocAttr,hh],f1 _,_,f0 _⟩
   ·simp only[ab8]at fin
    by_cases c2:at1=-1
    ·have c3:(at1=-1)=True:=aas c2
     simp only[c3,aaD,adI,aaU]at fin
     simp only[↓ag,ah,simprocAttr,aK,hh,e0,e1,e2,hr,kr',hp,kp,dK,f1,c3]
     exact fin _ _ ⟨by simp only[has,↓ag,ah,simprocAttr,hh],hw _ (f1 _),_,hw0 _ (f0 _)⟩
    ·have c3:(at1=-1)=False:=aaw c2
     by_cases c4:s1.q<q.q
     ·have c5:(s1.q<q.q)=True:=aas c4
      simp only[c3,c5,aaD,aaE,acn,aaU]at fin
      simp only[↓ag,ah,simprocAttr,aK,hh,e0,e1,e2,hr,kr',hp,kp,dK,f1,c3,jD_g0,u32_gt,c5,aaD]
      exact fin _ _ ⟨by simp only[has,↓ag,ah,simprocAttr,hh],hw _ (f1 _),_,hw0 _ (f0 _)⟩
     ·have c5:(s1.q<q.q)=False:=aaw c4
      simp only[c3,c5,aaE,acn,aaK]at fin
      simp only[↓ag,ah,simprocAttr,aK,hh,e0,e1,e2,hr,kr',hp,kp,dK,f1,c3,jD_g0,u32_gt,c5,aaE]
      exact fin _ _ ⟨by simp only[has,↓ag,ah,simprocAttr,hh],f1 _,_,f0 _⟩
  ·rw[JA,aaC c]at kr'
   have c1:(mP K ((256*(32+i):Nat):Int) 32=0)=False:=aaw c
   simp only[shift,bD,af]at kr'
   simp only[DE,aaC c]at fin
   generalize atJ K i=st at hh r1 fin
   simp only[↓ag,ah,simprocAttr,aK,hh,e0,e1,e2,hr,kr',c1]
   exact fin _ _ ⟨by simp only[has,↓ag,ah,simprocAttr,hh],r1,_,r0⟩
 ·rintro env rows ⟨hh,r1,⟨x0,r0⟩⟩ R
  simp only[has]at hh
  have YP:atJ K 2=nj K:=rfl
  rw[YP]at hh r1
  have e5:live (rows.set 0 (some ⟨SJ,[jD (nj K).1]⟩)) 0=some ⟨SJ,[jD (nj K).1]⟩:=aD r0
  simp only[↓ag,ah,simprocAttr,aK,hh,r1,r0,dK,e5]
  exact .val _ rfl
 ·have:atJ K 0=(gW,-1):=rfl
  rw[this]
  exact⟨by simp only[has,↓ag,ah,simprocAttr],rfl,_,rfl⟩
theorem kReadJ{rows:Rows}{d:D}{K:FV}(h:Ud rows d K)(hl:sr K<=1048576)(k:D->Rows->Prop):aG Fj rows k [d]=k (.cd [jD (nj K).1,.raw (it (nj K).2)]) rows:=by
 refine(Jz h (vs:=[]) rfl rfl (r:=(.cd [jD (nj K).1,.raw (it (nj K).2)],[])) ?_ (by simp[jD,cv,lc,bf,Sh.pure]) k).trans ?_
 ·simp only[Fj,fn1_ev,bZ Dw,abg,hl,aaD,aaU]
 ·simp[shift,bD,Ji,af]
def refJ(x:List (BitVec 8)):JS×Int:=
 if x.length<8704 then(gW,-1)else
 bif (cU (sub x 8192 32)).2&&(!(cU (sub x 8448 32)).2||decide ((cU (sub x 8448 32)).1.q<=(cU (sub x 8192 32)).1.q))then((cU (sub x 8192 32)).1,32)else
 bif (cU (sub x 8448 32)).2 then((cU (sub x 8448 32)).1,33)else(gW,-1)
theorem JQ(x:List (BitVec 8))(e:Bool)(h:8704<=x.length):nj (some (x,e))=refJ x:=by
 have w1:mP (some (x,e)) ((256*32:Nat):Int) 32=0:=by simp only[mP];rw[aaC (by omega)]
 have w2:mP (some (x,e)) ((256*33:Nat):Int) 32=0:=by simp only[mP];rw[aaC (by omega)]
 unfold nj DE refJ
 rw[aaJ w1,aaJ w2,aaC (by omega)]
 show(bif (cU (sub x 8448 32)).2&&(decide ((bif (cU (sub x 8192 32)).2&&(decide ((-1:Int)=-1)||decide (gW.q<(cU (sub x 8192 32)).1.q))then((cU (sub x 8192 32)).1,(32:Int))else(gW,-1)).2=-1)||decide ((bif (cU (sub x 8192 32)).2&&(decide ((-1:Int)=-1)||decide (gW.q<(cU (sub x 8192 32)).1.q))then((cU (sub x 8192 32)).1,(32:Int))else(gW,-1)).1.q<(cU (sub x 8448 32)).1.q))then((cU (sub x 8448 32)).1,(33:Int))else bif (cU (sub x 8192 32)).2&&(decide ((-1:Int)=-1)||decide (gW.q<(cU (sub x 8192 32)).1.q))then((cU (sub x 8192 32)).1,(32:Int))else(gW,-1))=_
 generalize cU (sub x 8192 32)=A
 generalize cU (sub x 8448 32)=B
 obtain⟨a,x1⟩:=A
 obtain⟨b,y1⟩:=B
 have hlt:decide (a.q<b.q)=!decide (b.q<=a.q):=by
  by_cases c:b.q<=a.q
  ·rw[abA c,aa7 (by rw[aci];rw[abx]at c;omega)];rfl
  ·rw[aa7 c,abA (by rw[aci];rw[abx]at c;omega)];rfl
 cases x1<;>cases y1<;>simp[hlt]<;>cases decide (b.q<=a.q)<;>simp
theorem bY.fl{rows:Rows}{r m:Nat}{x:List (BitVec 8)}(h:fW rows r m x):∃e,bY rows (cj GY) (.ptr SF r [0]) (some (x,e)):=by
 obtain⟨e,hv⟩:=h.view
 exact⟨e,⟨_,hv,bZ Dw _⟩,λh=>by simp[bb]at h⟩
abbrev SOP:Sh:= .cons L8 (.cons LI (.cons LI (.cons .ref (.cons LI (.cons cN .nil)))))
def opD(kind:BitVec 8)(page:Nat)(d:D):D:= .agg SOP [.raw (u8 kind),.raw (it (page:Int)),.raw (it 0),d,.raw (it 0),.raw (u32 0#32)]
inductive OpB (rows:Rows) (m:Nat):BitVec 8->D->List (BitVec 8)->Prop where
 |er:OpB rows m 1#8 (.raw (.slice none 0 0)) []
 |wr (q:Nat) (p:List (BitVec 8)) (ex:Bool):live rows q=some ⟨L8,bs p⟩->0<p.length->p.length<=256->q≠m->OpB rows m 2#8 (.sl L8 q [] 0 p.length ex) p
theorem OpB.fits{rows:Rows}{m:Nat}{k:BitVec 8}{d:D}{p:List (BitVec 8)}(h:OpB rows m k d p)(i:Nat):(opD k i d).fits SOP=true:=by
 cases h<;>rfl
theorem OpB.bs{rows:Rows}{m:Nat}{k:BitVec 8}{d:D}{p:List (BitVec 8)}(h:OpB rows m k d p)(L:Rows):aY (rows++L) d p:=by
 cases h with
 |er=>exact eC.to (.inl ⟨rfl,rfl⟩)
 |wr q p ex h1 h2 h3 h4=>exact aY.own (ab h1 L) _ rfl
theorem OpB.len{rows:Rows}{m:Nat}{k:BitVec 8}{d:D}{p:List (BitVec 8)}(h:OpB rows m k d p):p.length<=256:=by
 cases h with
 |er=>simp
 |wr q p ex h1 h2 h3 h4=>exact h3
theorem Upd.of{rows L aa:Rows}{r m:Nat}{x:List (BitVec 8)}(h:Upd (rows++L) aa r m x):Upd rows aa r m x:=⟨h.fl,λq row hq hn=>h.frame q row (ab hq L) hn⟩
structure JO where
 k:BitVec 8
 i:Nat
 d:D
 p:List (BitVec 8)
def JO.D(o:JO):Am.D:=opD o.k o.i o.d
theorem OpB.keep{rows aa:Rows}{m:Nat}{k:BitVec 8}{d:D}{p:List (BitVec 8)}(h:OpB rows m k d p)(f:∀q row,live rows q=some row->q≠m->live aa q=some row):OpB aa m k d p:=by
 cases h with
 |er=>exact .er
 |wr q p ex h1 h2 h3 h4=>exact .wr q p ex (f _ _ h1 h4) h2 h3 h4
def Sl(rows:Rows)(d:D)(p:List (BitVec 8)):Prop:=eC d p\/∃r ex,d= .sl L8 r [] 0 p.length ex/\live rows r=some ⟨L8,bs p⟩
theorem Sl.to{rows:Rows}{d:D}{p:List (BitVec 8)}(h:Sl rows d p):aY rows d p:=by
 rcases h with h|⟨r,ex,rfl,h⟩
 ·exact h.to
 ·exact aY.own h _ rfl
theorem Sl.keep{rows aa:Rows}{d:D}{p:List (BitVec 8)}(h:Sl rows d p)(f:∀q row,live rows q=some row->live aa q=some row):Sl aa d p:=by
 rcases h with h|⟨r,ex,rfl,h⟩
 ·exact .inl h
 ·exact .inr ⟨r,ex,rfl,f _ _ h⟩
theorem Made.u6{rows jl fb:Rows}{r m:Nat}{x y:List (BitVec 8)}(h:Made rows jl r m x)(U:Upd jl fb r m y):Made rows fb r m y:=
 ⟨U.fl,λq row hq=>U.frame q row (h.frame q row hq) (by have:=aR hq;have:=h.hm;omega),h.hr,h.hm⟩
theorem Made.more{rows jl:Rows}{r m:Nat}{x:List (BitVec 8)}(h:Made rows jl r m x)(L:Rows):Made rows (jl++L) r m x:=
 ⟨h.fl.push L,λq row hq=>ab (h.frame q row hq) L,h.hr,h.hm⟩
structure JC (C:aU):Prop where
 nW:C.fn 19=none
 rW:C.cV 19=some (aB CF 3 dO dN)
 nN:C.fn 17=none
 rN:C.cV 17=some (aB CF 1 lH lG)
 cut:C.fn 59=some XY
end kj
end Go.Am

namespace Go.Am
attribute [local congr] cJ bI cK bJ bK b6 bw bN bO b7 bi b8 bP cI
namespace kj
open Go.Am.F
def vwAt(x bA:List (BitVec 8))(least:Int)(i n:Nat):D:=
 if mF x bA least i=0 then La 0 (gG x i).1 (.sl L8 n [] 0 (gG x i).2.2.1.length false)else La (mF x bA least i) fA (.raw (.slice none 0 0))
def vwR(x bA:List (BitVec 8))(least:Int)(i:Nat):Rows:=if mF x bA least i=0 then[some ⟨L8,bs (gG x i).2.2.1⟩]else[]
theorem fW.rd{rows:Rows}{r m:Nat}{x:List (BitVec 8)}(h:fW rows r m x):∃e,bY rows (cj GY) (.ptr SF r [0]) (some (x,e)):=by
 obtain⟨e,hv⟩:=h.view
 exact⟨e,⟨_,hv,bZ Dw _⟩,λh=>by simp[bb]at h⟩
theorem kLook{rows:Rows}{f m:Nat}{x bA:List (BitVec 8)}{dp:D}(hF:fW rows f m x)(hx:x.length=10240)(hp:aY rows dp bA)(qL:bA.length<=1000)(least:Int)(i:Nat)(hi:i<=1)(k:D->Rows->Prop):
  aG Ra rows k [.ptr SF f [0],dp,.raw (it least),.raw (it (i:Int))]=k (vwAt x bA least i rows.length) (rows++vwR x bA least i):=by
 obtain⟨e,hr⟩:=hF.rd
 refine(yn hr (.bs hp) (.int _) (.int _) (by simp[sr,hx,qL];omega) ?_ k).trans ?_
 ·simp only[YN,La,dw]
  split<;>simp[cv,lc,bf,Sh.pure]
 ·simp only[YN,vwAt,vwR,aaz,tA]
  by_cases c:mF x bA least i=0<;>simp[c,La,dw,shift,bD,af,Sh.pure]
theorem cslot_ok(C:aU)(hC:aI C P):aQ C.aZ P 236 (Fn.run Dl):=by
 refine aJ (KU C hC) λds rows r h=>?_
 obtain⟨d,i,rfl,rfl,hd,hp,rfl⟩:=bd h
 cases bX hd
 refine⟨rfl,ae rfl ?_⟩
 clear h hd
 unfold Ai Aj sj
 by_cases c0:i=0
 ·simp only[↓ag,ah,simprocAttr,c0,aaD,adI]
  exact .val _ rfl
 ·simp only[↓ag,ah,simprocAttr,c0,aaE,acn]
  exact .val _ rfl
structure Cho where
 i:Int
 s:JS
 c:Bool
 t:Bool
 e:Int
abbrev SCo:Sh:= .cons LI (.cons SJ (.cons LB (.cons LB (.cons LI .nil))))
def Se(c:Cho):D:= .agg SCo [.raw (it c.i),jD c.s,.raw (.bool c.c),.raw (.bool c.t),.raw (it c.e)]
def rdBo:D->Option Bool
 | .raw (.bool b)=>some b
 | _=>none
theorem YQ{d:D}{b:Bool}(h:rdBo d=some b):d= .raw (.bool b):=by
 unfold rdBo at h
 split at h
 ·cases h;rfl
 ·cases h
noncomputable def Ho:Fn:=gn4 u9 (cj jD) (cj jD) rdBo (λ_ _ _ _=>true) λi n w t=>(Se ⟨i,n,!decide (n=w),t,0⟩,[])
theorem YR(C:aU)(hC:aI C P):aQ C.aZ P 252 (Fn.run Ho):=by
 refine aJ (GR C hC) λds rows r h=>?_
 obtain⟨d0,d1,d2,d3,i,n,w,t,rfl,rfl,hd,he,hf,hg,hp,rfl⟩:=uN h
 cases bX hd
 cases aH he
 cases aH hf
 cases YQ hg
 refine⟨rfl,ae rfl ?_⟩
 clear h hd he hf hg
 unfold wJ wK
 have hz:D.agg SJ [.raw (u32 0#32),.raw (it 0),.raw (it 0),.raw (it 0)]=jD ⟨0#32,0,0,0⟩:=rfl
 have e:=TV n w
 simp only[hz]
 simp only[↓ag,ah,simprocAttr,aK,dK,e]
 exact .val _ rfl
theorem kChosen(rows:Rows)(k:D->Rows->Prop)(i:Int)(n w:JS)(t:Bool):aG Ho rows k [.raw (it i),jD n,jD w,.raw (.bool t)]=k (Se ⟨i,n,!decide (n=w),t,0⟩) rows:=by
 refine(bk rfl (TN (qd i) (bZ E0 n) (bZ E0 w) (x3:=t) rfl rfl)).trans ?_
 simp[Se,jD,shift,bD,af,Sh.pure]
def Wn(e0 e1 i:Int):Bool:=(decide (i=0)&&decide (e0=0))||(decide (i=1)&&decide (e1=0))
def Lb(mU:Int)(s:JS)(e0 e1:Int):Cho:=
 if mU=4 then⟨-1,s,false,false,17⟩else if mU<1\/3<mU then⟨-1,s,false,false,14⟩else
 bif Wn e0 e1 s.t&&decide (s.n<3)then⟨s.t,⟨s.q,s.a,s.t,s.n+1⟩,true,true,0⟩else
 bif Wn e0 e1 s.a then⟨s.a,⟨s.q,s.a,-1,0⟩,!decide ((⟨s.q,s.a,-1,0⟩:JS)=s),false,0⟩else
 bif Wn e0 e1 (1-s.a)then⟨1-s.a,⟨s.q,1-s.a,-1,0⟩,!decide ((⟨s.q,1-s.a,-1,0⟩:JS)=s),false,0⟩else
 ⟨-1,⟨s.q,s.a,-1,0⟩,!decide ((⟨s.q,s.a,-1,0⟩:JS)=s),false,3⟩
def e2D(x:Int×Int):D:= .agg (.ar 2 LI) [.raw (it x.1),.raw (it x.2)]
theorem e2D_inj(x y:Int×Int)(h:e2D x=e2D y):x=y:=by
 simp only[e2D,D.agg.injEq,abS,D.raw.injEq,Ik,acW,abf]at h
 exact adp h.1 h.2
noncomputable def YS:Fn:=Kx u9 (cj jD) (cj e2D) (λ_ s _=>jj s) λl s x=>(Se (Lb l s x.1 x.2),[])
theorem yD(C C1:aU)(hs:C1.fn 236=some Dl){rows:Rows}{r:Nat}{e0 e1 i:Int}(hr:live rows r=some ⟨.ar 2 LI,[e2D (e0,e1)]⟩){K:D->Rows->Prop}(hk:K (.raw (.bool (Wn e0 e1 i))) rows):
  aB C1 2 iY iX [.raw (it i),.ptr (.ar 2 LI) r [0]] rows K:=by
 refine ae rfl ?_
 unfold iX iY
 have ks:=λrows k=>kSlot rows k i
 unfold Wn at hk
 simp only[e2D]at hr
 by_cases c0:i=0
 ·subst c0
  simp only[↓ag,ah,simprocAttr,hs,ks,sj,hr]
  simpa using hk
 ·by_cases c1:i=1
  ·subst c1
   simp only[↓ag,ah,simprocAttr,hs,ks,sj,hr]
   simpa using hk
  ·simp only[↓ag,ah,simprocAttr,hs,ks,sj,c0,c1]
   simpa[c0,c1]using hk
theorem sel_ok(C C1:aU)(hC:aI C P)(hs:C1.fn 236=some Dl)(hc:C.fn 252=some Ho)(n0:C.fn 251=none)(r0:C.cV 251=some (aB C1 2 iY iX)):aQ C.aZ P 221 (Fn.run YS):=by
 refine aJ (GP C hC) λds rows r h=>?_
 obtain⟨d0,d1,d2,l,s,⟨e0,e1⟩,rfl,rfl,hd,he,hf,hp,rfl⟩:=fV h
 cases bX hd
 cases aH he
 cases aH hf
 refine⟨rfl,ae rfl ?_⟩
 clear h hd he hf
 unfold wH wI
 have hz:D.agg SJ [.raw (u32 0#32),.raw (it 0),.raw (it 0),.raw (it 0)]=jD ⟨0#32,0,0,0⟩:=rfl
 have ef:(e2D (e0,e1)).fits (.ar 2 LI)=true:=rfl
 have hmb:M2 251 []=false:=rfl
 simp only[hz,Lb]
 by_cases c1:l=4
 ·have O8:(l=4)=True:=aas c1
  simp only[↓ag,ah,simprocAttr,aK,dK,ef,O8,abR]
  exact .val _ rfl
 have O8:(l=4)=False:=aaw c1
 by_cases c2:l<1
 ·have We:(l<1)=True:=aas c2
  simp only[↓ag,ah,simprocAttr,aK,dK,ef,O8,We,abR,abP,aew]
  exact .val _ rfl
 have We:(l<1)=False:=aaw c2
 by_cases c3:3<l
 ·have Uv:(3<l)=True:=aas c3
  simp only[↓ag,ah,simprocAttr,aK,dK,ef,O8,We,Uv,abR,abP,or_true]
  exact .val _ rfl
 have Uv:(3<l)=False:=aaw c3
 have kc:=λrows k=>kChosen rows k
 obtain⟨q,a,t,n⟩:=s
 have hr:(a=0\/a=1)/\0<=n/\n<=3:=by
  simp only[jj,sj,aan,abM,aaq]at hp
  exact⟨hp.1.1.1,hp.1.2,hp.2⟩
 clear hp hz hmb
 have js1:∀s v,(jD s).set [1] (.raw (it v))=some (jD ⟨s.q,v,s.t,s.n⟩):=λ_ _=>rfl
 have js2:∀s v,(jD s).set [2] (.raw (it v))=some (jD ⟨s.q,s.a,v,s.n⟩):=λ_ _=>rfl
 have js3:∀s v,(jD s).set [3] (.raw (it v))=some (jD ⟨s.q,s.a,s.t,v⟩):=λ_ _=>rfl
 have w1:wz (n+1)=n+1:=bh (by omega)
 have w2:wz (1-a)=1-a:=bh (by omega)
 have cf:∀c,(Se c).fits SCo=true:=λ_=>rfl
 have hne:(⟨q,a,t,n+1⟩:JS)≠⟨q,a,t,n⟩:=λh=>by injection h;omega
 have DX:decide ((⟨q,a,t,n+1⟩:JS)=⟨q,a,t,n⟩)=false:=aa7 hne
 simp only[↓ag,ah,simprocAttr,aK,dK,ef,O8,We,Uv,abP,or_self,Gh,jD_g2,VL,n0,r0]
 refine⟨rfl,yD C C1 hs rfl ?_⟩
 cases k1:Wn e0 e1 t&&decide (n<3)with
 |true=>
  obtain⟨k2,k3⟩:=acU.1 k1
  have k3':(n<3)=True:=aas (acs k3)
  simp only[↓ag,ah,simprocAttr,aK,k2,k3',dK,jD_g2,VL,js3,w1,hc,kc,DX,cf]
  exact .val _ rfl
 | false =>
  simp only[aaK]
  have k4:Wn e0 e1 t=false\/Wn e0 e1 t=true/\(n<3)=False:=by
   cases h:Wn e0 e1 t
   ·exact .inl rfl
   ·rw[h,ab8]at k1
    exact .inr ⟨rfl,aaw (of_decide_eq_false k1)⟩
  rcases k4 with k2|⟨k2,k3⟩
  ·simp only[↓ag,ah,simprocAttr,aK,k2,dK,Gh,js2,js3,n0,r0]
   refine⟨rfl,yD C C1 hs rfl ?_⟩
   cases k5:Wn e0 e1 a with
   |true=>
    simp only[↓ag,ah,simprocAttr,aK,k5,dK,Gh,hc,kc,cf]
    exact .val _ rfl
   | false =>
    simp only[↓ag,ah,simprocAttr,aK,k5,dK,Gh,w2,n0,r0]
    refine⟨rfl,yD C C1 hs rfl ?_⟩
    cases k6:Wn e0 e1 (1-a)with
    |true=>
     simp only[↓ag,ah,simprocAttr,aK,k6,dK,js1,hc,kc,cf]
     exact .val _ rfl
    |false=>
     simp only[↓ag,ah,simprocAttr,aK,k6,dK,TV]
     exact .val _ rfl
  ·simp only[↓ag,ah,simprocAttr,aK,k2,k3,dK,Gh,VL,js2,js3,n0,r0]
   refine⟨rfl,yD C C1 hs rfl ?_⟩
   cases k5:Wn e0 e1 a with
   |true=>
    simp only[↓ag,ah,simprocAttr,aK,k5,dK,Gh,hc,kc,cf]
    exact .val _ rfl
   | false =>
    simp only[↓ag,ah,simprocAttr,aK,k5,dK,Gh,w2,n0,r0]
    refine⟨rfl,yD C C1 hs rfl ?_⟩
    cases k6:Wn e0 e1 (1-a)with
    |true=>
     simp only[↓ag,ah,simprocAttr,aK,k6,dK,js1,hc,kc,cf]
     exact .val _ rfl
    |false=>
     simp only[↓ag,ah,simprocAttr,aK,k6,dK,TV]
     exact .val _ rfl
theorem kSel(rows:Rows)(k:D->Rows->Prop)(l:Int)(s:JS)(hs:jj s=true)(e0 e1:Int):aG YS rows k [.raw (it l),jD s,.agg (.ar 2 LI) [.raw (it e0),.raw (it e1)]]=k (Se (Lb l s e0 e1)) rows:=by
 refine(bk rfl (r:=(Se (Lb l s e0 e1),[])) ?_).trans ?_
 ·have h:=bZ e2D_inj (e0,e1)
  simp only[YS,Ba,qd,bZ E0,abg,hs]
  rw[show D.agg (.ar 2 LI) [.raw (it e0),.raw (it e1)]=e2D (e0,e1)from rfl,h]
  rfl
 ·simp[Se,jD,shift,bD,af,Sh.pure]
abbrev Uy:Sh:= .ar 4 (.ar 32 L8)
abbrev Wo:Sh:= .cons Uy .nil
def Ld(r:List (List (BitVec 8))):D:= .agg Uy (r.map aV)
theorem DF:∀{a b:List (List (BitVec 8))},a.map aV=b.map aV->a=b
 |[],[],_=>rfl
 |[],_::_,h=>by simp at h
 | _::_,[],h=>by simp at h
 |x::a,y::b,h=>by
  simp only[abm,abS]at h
  rw[Dh _ _ h.1,DF h.2]
theorem Rb(x y:List (List (BitVec 8)))(h:Ld x=Ld y):x=y:=by
 injection h with _ h;exact DF h
def jm(r:List (List (BitVec 8))):D:= .agg Wo [Ld r]
theorem YT(x y:List (List (BitVec 8)))(h:jm x=jm y):x=y:=by
 injection h with _ h
 injection h with h _
 exact Rb _ _ h
def Wp(r:List (List (BitVec 8))):Bool:=decide (r.length=4)&&Ml r
theorem Fk{r:List (List (BitVec 8))}:Wp r=true↔r.length=4/\∀x∈r,x.length=32:=by simp[Wp,uM]
theorem all_pure(r:List (List (BitVec 8)))(rows:Rows):bY rows (cj Ld) (Ld r) r:=bY.agg rfl (bZ Rb r)
theorem MF(r:List (List (BitVec 8)))(rows:Rows):bY rows (cj jm) (jm r) r:=bY.agg rfl (bZ YT r)
theorem JR{r:List (List (BitVec 8))}(h:Wp r=true):r.flatten.length=128:=by
 obtain⟨h4,uO⟩:=Fk.1 h
 rw[uK uO,h4]
theorem okR_get{r:List (List (BitVec 8))}(h:Wp r=true){i:Nat}(hi:i<4):(r.getD i []).length=32:=by
 obtain⟨h4,uO⟩:=Fk.1 h
 have hi':i<r.length:=by omega
 rw[aay,aao hi']
 exact uO _ (abJ hi')
def Wq(i:Int):Bool:=decide (0<=i)&&decide (i<4)
def Ox:Fn:=nv u9 (λ_=>true) λi=>(.raw (.bool (Wq i)),[])
theorem there_ok(C:aU)(hC:aI C P):aQ C.aZ P 253 (Fn.run Ox):=by
 refine aJ (NN C hC) λds rows r h=>?_
 obtain⟨d,i,rfl,rfl,hd,hp,rfl⟩:=bd h
 cases bX hd
 refine⟨rfl,ae rfl ?_⟩
 clear h hd
 unfold C9 Da
 by_cases h0:0<=i
 ·have e0:(0<=i)=True:=aas h0
  by_cases h1:i<4
  ·have e1:(i<4)=True:=aas h1
   have e:Wq i=true:=by simp[Wq,h0,h1]
   simp only[↓ag,ah,simprocAttr,e0,e1,e,aaD]
   exact .val _ rfl
  ·have e1:(i<4)=False:=aaw h1
   have e:Wq i=false:=by simp[Wq,h0,h1]
   simp only[↓ag,ah,simprocAttr,e0,e1,e,aaD,aaE]
   exact .val _ rfl
 ·have e0:(0<=i)=False:=aaw h0
  have e:Wq i=false:=by simp[Wq,h0]
  simp only[↓ag,ah,simprocAttr,e0,e,aaE]
  exact .val _ rfl
theorem kThere(rows:Rows)(k:D->Rows->Prop)(i:Int):aG Ox rows k [.raw (it i)]=k (.raw (.bool (Wq i))) rows:=by
 refine(cL (bY.int _) rfl rfl k).trans ?_
 simp[shift,af]
def zR:List (List (BitVec 8)):=List.replicate 4 sO
theorem zR_eq:List.replicate 4 (D.agg (.ar 32 L8) (bs sO))=zR.map aV:=rfl
def JT:Fn
 |[],[]=>some (jm zR,[])
 | _,_=>none
theorem msnew_ok(C:aU)(hC:aI C P):aQ C.aZ P 195 (Fn.run JT):=by
 refine aJ (Tv C hC) λds rows r h=>?_
 unfold JT at h
 split at h
 ·cases h
  refine⟨rfl,ae rfl ?_⟩
  unfold IS IT
  simp only[eu,zR_eq]
  simp only[↓ag,ah,simprocAttr,aK]
  exact .val _ rfl
 ·cases h
theorem kMsNew(rows:Rows)(k:D->Rows->Prop):aG JT rows k []=k (jm zR) rows:=by
 refine(bk rfl (r:=(jm zR,[])) rfl).trans ?_
 simp[shift,af,jm,Ld,Sh.pure]
noncomputable def JU:Fn:=nv (cj Ld) Wp λr=>eR r.flatten false
theorem mtext_ok(C:aU)(hC:aI C P):aQ C.aZ P 254 (Fn.run JU):=by
 refine aJ (Qn C hC) λds rows r h=>?_
 obtain⟨d,l,rfl,rfl,hd,hp,rfl⟩:=bd h
 cases aH hd
 obtain⟨h4,uO⟩:=Fk.1 hp
 refine⟨rfl,ae rfl ?_⟩
 clear h hd
 unfold F6 F7
 simp only[eu]
 simp only[Ld,↓ag,ah,simprocAttr,aK]
 have hlt:∀i,i<=4->((l.take i).flatten).length=32*i:=λi hi=>by
  rw[uK (λx hx=>uO x (aaY hx)),aau]
  omega
 refine bx 4 (λi env rows=>has env [(7,.raw (it (i:Int))),(6,.agg Uy (l.map aV))]/\∃d,look env 3=some d/\jy L8 d rows (bs (l.take i).flatten)) ?_ ?_ ⟨?_,_,by simp only[↓ag,ah,simprocAttr],.nil⟩
 ·rintro i hi env rows ⟨hh,d,h3,hO⟩ R hR
  simp only[has]at hh
  have e0:((i:Int)<4)=True:=aas (by omega)
  have b0:∀n:Nat,((0:Int)<=(n:Int))=True:=λn=>aas (by omega)
  have e1:=cG i (by omega)
  have hi':i<l.length:=by omega
  have hx:=uO _ (abJ hi')
  have g:(l.map aV)[i]?=some (.agg (.ar 32 L8) (bs l[i])):=by simp[aV,hi']
  have hs:(l.take i).flatten++l[i]=(l.take (i+1)).flatten:=by
   rw[aaX hi',abW];simp
  have hlen:=hlt i (by omega)
  generalize l[i]=xi at*
  have ea:∀ex,elems (rows++[some ⟨.ar 32 L8,[.agg (.ar 32 L8) (bs xi)]⟩]) (.sl L8 rows.length [0] 0 32 ex)=some (bs xi):=λex=>qS (n:=32) (by rw[a9];rfl) rfl hx
  simp only[↓ag,ah,simprocAttr,aK,hh,e0,e1,b0,h3,g,ea,aE,hx]
  refine lg (hO.push) (by rw[aE,aE,hx,hlen];simp[most];omega) (by rw[aE,aE,hx,hlen];simp[most];omega) λd' aa GV qJ yt _=>?_
  rw[qe,hs]at GV
  simp only[↓ag,ah,simprocAttr,aK,hh,e1]
  exact hR _ _ ⟨by simp only[has,↓ag,ah,simprocAttr,hh],d',by simp only[↓ag,ah,simprocAttr],GV⟩
 ·rintro env rows ⟨hh,d,h3,hO⟩ R
  simp only[has]at hh
  rw[aar (by omega)]at hO
  simp only[↓ag,ah,simprocAttr,aK,hh,h3,hO.qc]
  exact hO.No
 ·simp only[has,↓ag,ah,simprocAttr]
theorem kMText(rows:Rows)(k:D->Rows->Prop)(r:List (List (BitVec 8)))(h:Wp r=true):aG JU rows k [Ld r]=k (.sl L8 (0+rows.length) [] 0 128 false) (rows++[some ⟨L8,bs r.flatten⟩]):=by
 refine(cL (all_pure r rows) h rfl k).trans ?_
 simp[eR,shift,af,Sh.pure,JR h]
def Oy(r:List (List (BitVec 8)))(i:Int)(p:List (BitVec 8)):List (List (BitVec 8)):=bif Wq i then r.set i.toNat (eY (r.getD i.toNat []++eY p))else r
theorem extR_ok{r:List (List (BitVec 8))}(h:Wp r=true)(i:Int)(p:List (BitVec 8)):Wp (Oy r i p)=true:=by
 unfold Oy
 cases Wq i with
 |false=>exact h
 |true=>
  obtain⟨h4,uO⟩:=Fk.1 h
  refine Fk.2 ⟨by simp[h4],λx hx=>?_⟩
  simp only[aaU]at hx
  rcases adw hx with h1|h1
  ·exact uO x h1
  ·rw[h1];exact dk _
noncomputable def DH:Fn:=Kx (cj jm) u9 qv (λr _ ls=>Wp r&&(Nat.ble ls.length most&&Nat.ble ls.flatten.length most)) λr i ls=>(.cd [jm (Oy r i ls.flatten),.raw (it (bif Wq i then 0 else 1))],[])
theorem YU(C:aU)(hC:aI C P)(h1:C.fn 253=some Ox)(h2:C.fn 125=some EU):aQ C.aZ P 223 (Fn.run DH):=by
 refine aJ (A8 C hC) λds rows r h=>?_
 obtain⟨d0,d1,d2,r,i,ls,rfl,rfl,g0,g1,g2,hp,rfl⟩:=fV h
 cases aH g0
 cases bX g1
 obtain⟨l,e,rfl,hl⟩:=vM g2
 simp only[aan,abD]at hp
 obtain⟨hr,Bb,qL⟩:=hp
 unfold most at Bb qL
 obtain⟨h4,uO⟩:=Fk.1 hr
 refine⟨rfl,ae rfl ?_⟩
 clear h g0 g1 g2
 unfold rV rX
 have zr:D.agg Wo [.agg Uy (List.replicate 4 (.agg (.ar 32 L8) (bs sO)))]=jm zR:=rfl
 have mf:∀r,D.fits (jm r) Wo=true:=λ_=>rfl
 simp only[eu,zr]
 simp only[↓ag,ah,simprocAttr,aK,h1,kThere,mf]
 cases hi:Wq i with
 |false=>
  have hx:Oy r i ls.flatten=r:=by simp[Oy,hi]
  rw[hx]
  simp only[↓ag,ah,simprocAttr,aK,mf]
  exact .val _ rfl
 | true =>
  have KF:0<=i/\i<4:=by simpa[Wq]using hi
  obtain⟨n,rfl⟩:=aaH KF.1
  have hn:n<4:=by omega
  have kS:∀(rows:Rows) k,aG EU rows k [.dh .ref l e]=k (.agg (.ar 32 L8) (bs (eY ls.flatten))) rows:=λrows k=>by
   have hv:bY rows qv (.dh .ref l e) ls:=by
    have nA:=hl
    refine⟨?_,λ_=>hl⟩
    obtain⟨hlen,lp⟩:=lC hl
    have hv:aW (λx y=>aY rows x y) l ls:=⟨hlen.symm,λi x y hx hy=>(fC (lp i x y hx hy)).to⟩
    obtain⟨l',q1,q2⟩:=sa hv
    exact⟨.dh .ref l' e,by simp only[view,Sh.pure,aaK,q1],by simpa[qv]using q2⟩
   refine(cL hv (by simp only[aan,abD];exact⟨Bb,qL⟩) (by simp[aV,cv,bf,Sh.pure]) k).trans ?_
   simp[aV,shift,af,Sh.pure]
  have e0:((n:Int)<4)=True:=aas (by omega)
  have b0:((0:Int)<=(n:Int))=True:=aas (by omega)
  have g:∀x,(D.agg Uy (r.map aV)).set [n] x=some (.agg Uy ((r.map aV).set n x)):=λx=>by simp[D.set,h4,hn]
  simp only[↓ag,ah,simprocAttr,aK,h2,kS,e0,b0,jm,Ld]
  have Nd:n<r.length:=by omega
  have hx:(r.getD n []).length=32:=okR_get hr hn
  have hg:cM [D.agg Wo [D.agg Uy (r.map aV)]] [0,0,n]=some (.agg (.ar 32 L8) (bs (r.getD n []))):=by
   simp[cM,D.get,List.getD,Nd,aV]
  have hy:=dk ls.flatten
  refine Eq.mpr (TL _ _ _ 2 _ _ [r.getD n [],eY ls.flatten] rfl rfl (.cons (aY.uL (n:=32) rfl hg hx) (.cons (aY.uL (n:=32) rfl rfl hy) .nil)) (by simp) (by simp only[abZ,acb,aap,aaV,hx,hy];omega)) ?_
  have e:eY [r.getD n [],eY ls.flatten].flatten=eY (r.getD n []++eY ls.flatten):=by simp
  have hm:(r.map aV).set n (.agg (.ar 32 L8) (bs (eY (r.getD n []++eY ls.flatten))))=(r.set n (eY (r.getD n []++eY ls.flatten))).map aV:=by
   rw[acr];rfl
  have hxx:Oy r (n:Int) ls.flatten=r.set n (eY (r.getD n []++eY ls.flatten)):=by simp[Oy,hi]
  rw[e,hxx]
  simp only[↓ag,ah,simprocAttr,aK,e0,b0,g,hm]
  exact .val _ rfl
theorem kExtend(rows:Rows)(k:D->Rows->Prop)(r:List (List (BitVec 8)))(i:Int)(q n:Nat)(ex:Bool)(l:List D)(ls:List (List (BitVec 8)))(h:Wp r=true)(hl:live rows q=some ⟨.ref,l⟩)(hn:l.length=n)
  (hv:aW (λx y=>aY rows x y) l ls)(hp:ls.length<=1099511627776)(qL:ls.flatten.length<=1099511627776):
  aG DH rows k [jm r,.raw (it i),.sl .ref q [] 0 n ex]=k (.cd [jm (Oy r i ls.flatten),.raw (it (bif Wq i then 0 else 1))]) rows:=by
 refine(gP (MF r rows) (bY.int i) (bY.parts hl hn hv) (by simp only[aan,abD];exact⟨h,hp,qL⟩) (by simp[cv,lc,bf,jm,Sh.pure]) k).trans ?_
 simp[shift,bD,af,jm,Sh.pure]
end kj
end Go.Am
namespace Go.Am
attribute [local congr] cJ bI cK bJ bK b6 bw bN bO b7 bi b8 bP cI
namespace kj
open Go.Am.F
namespace Ms
def fz(n:Nat):List (BitVec 8):=[BitVec.ofNat 8 (n/16777216),BitVec.ofNat 8 (n/65536),BitVec.ofNat 8 (n/256),BitVec.ofNat 8 n]
theorem Q5(n:Nat):(fz n).length=4:=rfl
theorem Ou(n:Int)(m:BitVec 64)(k:D->Prop):cm .shr (it n) (u64 m) k=k (.raw (it (n.fdiv (2^(min m.toNat 64))))):=by
 simp only[cm,it,u64,aaz,IntKind.bits]
 simp
theorem pV(n m:Nat):(n:Int).fdiv (m:Int)=((n/m:Nat):Int):=by
 rw[ab5 _ (by omega)];rfl
end Ms
open Ms
theorem bY.dh{rows:Rows}{e:Bool}{l:List D}{ls:List (List (BitVec 8))}(h:aW (λx y=>eC x y) l ls):bY rows qv (.dh .ref l e) ls:=by
 have h0:∀(l:List D) (ls:List (List (BitVec 8))),aW (λx y=>eC x y) l ls->eK eP l=some ls:=by
  intro l
  induction l with
  |nil=>intro ls h;have:=h.len;cases ls with
   |nil=>rfl
   |cons _ _=>simp at this
  |cons x l ih=>intro ls h;cases ls with
   |nil=>have:=h.len;simp at this
   |cons y ls=>simp only[eK,h.head.rd,ih ls h.tail]
 refine⟨?_,λ_=>by simpa[qv]using h0 l ls h⟩
 obtain⟨l',q1,q2⟩:=sa (rows:=rows) (h.mono λx y hb=>eC.to hb)
 exact⟨.dh .ref l' e,by simp only[view,Sh.pure,aaK,q1],by simpa[qv]using q2⟩
def quo:List (BitVec 8):=[81#8,85#8,79#8,84#8]
end kj
end Go.Am

import Derived.Test.YtgcejocgnfkciaaGreatDoorKc5
import Derived.MapKept
import Derived.LoopN
namespace Go.Am
set_option linter.unusedVariables false
set_option linter.unusedSimpArgs false
variable {C:be} {P:Program} {n:Nat} {ρ:Pl} {T:Nat→Prop} {env:Env} {rows:Rows} {a:Act} {w:World}
def zg(s:Sh):Prop:=(∃c,s= .leaf c)∨(s.isAgg=true∧mq s=true)
theorem rp{t:TypeId}{s:Sh}(h:rf P t s=true):zg s:=by
 unfold rf at h
 split at h
 ·exact .inl ⟨.str,by simpa using h⟩
 ·simp only[Bool.and_eq_true]at h
  exact .inr ⟨h.1.1.1,h.1.1.2⟩
 ·cases h
theorem HO:∀{s:Sh} {i:Nat} {e:Sh},mq s=true→s.sub i=some e→∃k,e= .leaf k
 | .nil,i,e,_,h=>by simp[Sh.sub]at h
 | .cons (.leaf k) b,0,e,_,h=>by simp[Sh.sub]at h;exact⟨k,h.symm⟩
 | .cons (.leaf k) b,i+1,e,hl,h=>HO (s:=b) (by simpa[mq]using hl) (by simpa[Sh.sub]using h)
 | .cons .ref b,_,_,hl,_| .cons .nil b,_,_,hl,_| .cons (.cons _ _) b,_,_,hl,_| .cons (.ar _ _) b,_,_,hl,_=>by simp[mq]at hl
 | .leaf _,_,_,hl,_| .ref,_,_,hl,_| .ar _ _,_,_,hl,_=>by simp[mq]at hl
def Ll(l:List D):Prop:=∀x∈l,∃v k,x= .raw v∧mE v k=true
theorem qe{s:Sh}{l:List D}(h:mq s=true)(ha:s.isAgg=true)(hs:aK s (.agg s l)):Ll l:=by
 obtain⟨l',e,hlen,fh⟩:=hs.iJ ha
 cases e
 intro x hx
 obtain⟨i,hi,rfl⟩:=List.mem_iff_getElem.1 hx
 obtain⟨e,he⟩:=kz (s:=s) (i:=i) (by omega)
 obtain⟨k,rfl⟩:=HO h he
 obtain⟨v,hv,hk⟩:=lL (fh i _ _ he (List.getElem?_eq_getElem hi))
 exact⟨v,k,hv,hk⟩
theorem rq:∀{l:List D},Ll l→au l=l
 |[],_=>rfl
 |x::l,h=>by
  obtain⟨v,k,rfl,_⟩:=h x (by simp)
  simp[au,D.flat,rq (l:=l) fun y hy=>h y (by simp[hy])]
theorem wo:∀{l:List D} {cs:List Value},Ll l→aY (LR ρ w T) l cs→cs=l.map yX
 |[],cs,_,h=>List.eq_nil_of_length_eq_zero (by simpa using h.len.symm)
 |x::l,[],_,h=>by simpa using h.len
 |x::l,c::cs,h,hc=>by
  obtain⟨v,k,rfl,_⟩:=h x (by simp)
  have h1:=VR.ofRaw (VR.bG hc.head)
  have h2:=wo (l:=l) (fun y hy=>h y (by simp[hy])) hc.tail
  simp[yX,h1,h2]
theorem Qm:∀{l:List D},Ll l→aY (LR ρ w T) l (l.map yX)
 |[],_=> .nil
 |x::l,h=>by
  obtain⟨v,k,rfl,hk⟩:=h x (by simp)
  exact .cons (.raw v (Et hk)) (Qm (l:=l) fun y hy=>h y (by simp[hy]))
theorem uV{s t:Sh}{l:List D}(h:Ll l):kv (.agg t l)= .agg (l.map yX).toArray:=by simp[kv,rq h]
theorem VX{s:Sh}{d:D}{v:Value}(h:zg s)(hd:aK s d)(hv:VR ρ w T d v):v=kv d:=by
 rcases h with⟨_,rfl⟩|⟨ha,hl⟩
 ·obtain⟨x,rfl,_⟩:=lL hd
  exact VR.ofRaw hv
 ·obtain⟨l,rfl,_,_⟩:=hd.iJ ha
  obtain⟨cs,rfl,_,hc⟩:=hv
  have hr:=qe hl ha hd
  rw[rq hr]at hc
  rw[uV (s:=s) hr,←wo hr hc]
theorem Lm{s:Sh}{d:D}(h:zg s)(hd:aK s d):VR ρ w T d (kv d):=by
 rcases h with⟨_,rfl⟩|⟨ha,hl⟩
 ·obtain⟨x,rfl,hk⟩:=lL hd
  exact VR.raw (Et hk)
 ·obtain⟨l,rfl,_,_⟩:=hd.iJ ha
  have hr:=qe hl ha hd
  rw[uV (s:=s) hr]
  exact⟨_,rfl,hd,by rw[rq hr];simpa using Qm hr⟩
theorem EO{x y:Value}{b:Bool}(h:gW (.raw x) (.raw y)=some b):b=true↔x=y:=by
 cases x<;>cases y<;>simp only[gW]at h<;>try cases h
 ·simp
 ·split at h
  ·rename_i hk;cases h;simp[hk]
  ·cases h
 ·simp
  rename_i p q
  constructor
  ·intro h
   obtain⟨⟨p⟩⟩:=p
   obtain⟨⟨q⟩⟩:=q
   simp[ByteArray.toList_eq]at h
   simpa using h
  ·rintro rfl;rfl
theorem Qn:∀{l l':List D} {b:Bool},Ll l→Ll l'→yV l l'=some b→(b=true↔l.map yX=l'.map yX)
 |[],[],b,_,_,h=>by simp[yV]at h;simp[←h]
 |[],_::_,b,_,_,h=>by simp[yV]at h
 | _::_,[],b,_,_,h=>by simp[yV]at h
 | x :: l, y :: l', b, h1, h2, h => by
  obtain⟨u,_,rfl,_⟩:=h1 x (by simp)
  obtain⟨v,_,rfl,_⟩:=h2 y (by simp)
  simp only[yV,sK]at h
  split at h
  ·rename_i t ht
   split at h
   ·rename_i q hq
    cases h
    have e1:=EO ht
    have e2:=Qn (l:=l) (l':=l') (fun y hy=>h1 y (by simp[hy])) (fun y hy=>h2 y (by simp[hy])) hq
    simp only[Bool.and_eq_true,List.map_cons,yX,List.cons.injEq,e1,e2]
   ·cases h
  ·cases h
theorem EP{x y:Value}{k:Sc}(hx:mE x k=true)(hy:mE y k=true):∃b,gW (.raw x) (.raw y)=some b:=by
 cases k<;>cases x<;>simp[mE]at hx<;>cases y<;>simp[mE]at hy
 ·subst hx;subst hy;exact⟨_,by simp only[gW,if_true];rfl⟩
 ·exact⟨_,rfl⟩
 ·exact⟨_,rfl⟩
theorem Qo:∀{s:Sh} {l l':List D},mq s=true→l.length=s.count→l'.length=s.count→(∀i e d,s.sub i=some e→l[i]?=some d→aK e d)→(∀i e d,s.sub i=some e→l'[i]?=some d→aK e d)→∃b,yV l l'=some b
 | .nil,l,l',_,h1,h2,_,_=>by
  have e1:l=[]:=List.eq_nil_of_length_eq_zero (by simpa[Sh.count]using h1)
  have e2:l'=[]:=List.eq_nil_of_length_eq_zero (by simpa[Sh.count]using h2)
  exact⟨true,by rw[e1,e2];rfl⟩
 | .cons (.leaf k) b, l, l', hl, h1, h2, h3, h4 => by
  cases l with
  |nil=>simp[Sh.count]at h1
  | cons x l =>
   cases l' with
   |nil=>simp[Sh.count]at h2
   | cons y l' =>
    obtain⟨u,rfl,hu⟩:=lL (h3 0 (.leaf k) x rfl rfl)
    obtain⟨v,rfl,hv⟩:=lL (h4 0 (.leaf k) y rfl rfl)
    obtain⟨t,ht⟩:=EP hu hv
    obtain⟨q,hq⟩:=Qo (s:=b) (l:=l) (l':=l') (by simpa[mq]using hl) (by simpa[Sh.count]using h1) (by simpa[Sh.count]using h2)
     (fun i e d he hd=>h3 (i+1) e d (by simpa[Sh.sub]using he) (by simpa using hd)) (fun i e d he hd=>h4 (i+1) e d (by simpa[Sh.sub]using he) (by simpa using hd))
    exact⟨t&&q,by simp[yV,sK,ht,hq]⟩
 | .cons .ref b,_,_,hl,_,_,_,_| .cons .nil b,_,_,hl,_,_,_,_| .cons (.cons _ _) b,_,_,hl,_,_,_,_| .cons (.ar _ _) b,_,_,hl,_,_,_,_=>by simp[mq]at hl
 | .leaf _,_,_,hl,_,_,_,_| .ref,_,_,hl,_,_,_,_| .ar _ _,_,_,hl,_,_,_,_=>by simp[mq]at hl
theorem Qp{s:Sh}{x y:D}(h:zg s)(hx:aK s x)(hy:aK s y):∃b,sK x y=some b∧(b=true↔kv x=kv y):=by
 rcases h with⟨_,rfl⟩|⟨ha,hl⟩
 ·obtain⟨u,rfl,hu⟩:=lL hx
  obtain⟨v,rfl,hv⟩:=lL hy
  obtain⟨b,hb⟩:=EP hu hv
  exact⟨b,by simpa[sK]using hb,by simpa[kv]using EO hb⟩
 ·obtain⟨l,rfl,h1,h2⟩:=hx.iJ ha
  obtain⟨l',rfl,h3,h4⟩:=hy.iJ ha
  obtain⟨b,hb⟩:=Qo hl h1 h3 h2 h4
  have r1:=qe hl ha hx
  have r2:=qe hl ha hy
  refine⟨b,by simpa[sK]using hb,?_⟩
  rw[Qn r1 r2 hb,uV (s:=s) r1,uV (s:=s) r2]
  simp
theorem EQ{ks vs:Sh}{k:D}(h:zg ks)(hk:aK ks k):∀{l:List D} {o:Option Value},(∀d∈l,aK (pP ks vs) d)→Hy k l=some o→
  (∀v,firstM l (kv k) v↔o=some v)
 |[],o,_,hm=>by simp[Hy]at hm;subst hm;simp[firstM]
 | d :: l, o, hl, hm => by
  obtain⟨l0,rfl,hlen,fh⟩:=(hl d (by simp)).iJ rfl
  simp only[Hy]at hm
  split at hm
  ·rename_i k' v' he
   have Lf:aK ks k':=by
    unfold Hx at he
    split at he
    ·rename_i heq;cases heq;cases he;exact fh 0 ks _ rfl rfl
    ·cases he
   obtain⟨b,hb,VY⟩:=Qp h hk Lf
   rw[hb]at hm
   intro v
   simp only[firstM,he]
   cases b with
   |true=>
    cases hm
    have e:kv k'=kv k:=(VY.1 rfl).symm
    simp[e]
   |false=>
    have e:¬kv k'=kv k:=fun q=>by have:=VY.2 q.symm;cases this
    have ih:=EQ h hk (l:=l) (o:=o) (fun d hd=>hl d (by simp[hd])) hm v
    simp[e,ih]
  ·cases hm
theorem ER{ks:Sh}{k:D}(hs:ks= .leaf .str)(hk:aK ks k):MapKept.IsKey .string (kv k):=by
 subst hs
 obtain⟨v,rfl,hv⟩:=lL hk
 cases v<;>simp[mE]at hv
 simp[kv,MapKept.IsKey]
def Keys(ks:Sh)(es:List MapEntry):Prop:=∀e∈es,∃kd,aK ks kd∧e.key=kv kd
theorem uW{t:TypeId}{ks:Sh}{k:D}(hok:A2 P 40 t ks=true)(h:zg ks)(hk:aK ks k)(w:World):∀(es:List MapEntry) (i:Nat),Keys ks es→
  ((Instr.findAsking t (kv k) es i).run P w= .ok none w∧∀e∈es,e.key≠kv k)∨∃j e,(Instr.findAsking t (kv k) es i).run P w= .ok (some (i+j,e.val)) w∧es[j]?=some e∧e.key=kv k
 |[],i,_=> .inl ⟨by simp[Instr.findAsking],by simp⟩
 | e :: es, i, hes => by
  obtain⟨kd,Dm,he⟩:=hes e (by simp)
  obtain⟨b,hb,VY⟩:=Qp h hk Dm
  have hq:=wm (P:=P) (ρ:=eT) (w:=w) (T:=fun _=>True) 40 9960 hok hk Dm (Lm h hk) (Lm h Dm) hb
  have hq':(Op.equal t (kv k) e.key).run P w= .ok b w:=by rw[he];exact hq
  cases b with
  |true=>exact .inr ⟨0,e,by simp[Instr.findAsking,Sem.run_bind,hq',Result.andThen],rfl,by rw[he];exact(VY.1 rfl).symm⟩
  | false =>
   have hne:e.key≠kv k:=fun q=>by have:=VY.2 (by rw[←q,he]);cases this
   rcases uW hok h hk w es (i+1) (fun x hx=>hes x (by simp[hx]))with⟨h1,h2⟩|⟨j,e',h1,h2,h3⟩
   ·refine .inl ⟨by simp[Instr.findAsking,Sem.run_bind,hq',Result.andThen,h1],fun x hx=>?_⟩
    rcases List.mem_cons.1 hx with rfl|hx
    ·exact hne
    ·exact h2 x hx
   ·exact .inr ⟨j+1,e',by simp[Instr.findAsking,Sem.run_bind,hq',Result.andThen,h1];omega,by simpa using h2,h3⟩
theorem HP{t:TypeId}{ks:Sh}{k:D}(hok:rf P t ks=true)(hk:aK ks k)(w:World)(es:List MapEntry)(hes:Keys ks es):
  ((Instr.findKey t (kv k) es).run P w= .ok none w∧∀e∈es,e.key≠kv k)∨∃j e,(Instr.findKey t (kv k) es).run P w= .ok (some (j,e.val)) w∧es[j]?=some e∧e.key=kv k:=by
 have h:=rp hok
 unfold rf at hok
 split at hok
 ·rename_i hu
  have hs:ks= .leaf .str:=by simpa using hok
  rcases MapKept.findNow_spec (ER hs hk) es 0 (fun x hx=>by obtain⟨kd,h1,h2⟩:=hes x hx;rw[h2];exact ER hs h1)with⟨h1,h2⟩|⟨j,e,h1,h2,h3⟩
  ·exact .inl ⟨MapKept.run_findKey hu h1,h2⟩
  ·exact .inr ⟨j,e,by simpa using MapKept.run_findKey (w:=w) hu h1,h2,h3⟩
 ·rename_i fs hu
  simp only[Bool.and_eq_true]at hok
  cases es with
  |nil=>exact .inl ⟨by simp[Instr.findKey,run_underlying hu,Result.andThen,Instr.findNow],by simp⟩
  | cons e es =>
   have hn:Instr.findNow (.struct fs) (kv k) (e::es) 0=none:=by simp[Instr.findNow,Instr.sameNow]
   have:=uW hok.1.2 h hk w (e::es) 0 hes
   simp only[Nat.zero_add]at this
   have e1:(Instr.findKey t (kv k) (e::es)).run P w=(Instr.findAsking t (kv k) (e::es) 0).run P w:=by
    simp[Instr.findKey,run_underlying hu,Result.andThen,hn]
   rw[e1]
   exact this
 ·cases hok
theorem ES{t:TypeId}(h:A3 P t=true)(em:Bool)(m:Nat)(v:Value)(w:World):(Instr.checkKey em (m+1) t v).run P w= .ok () w:=by
 unfold A3 at h
 split at h
 all_goals first
  |(rename_i hu;unfold Instr.checkKey;simp only[Sem.run_bind,run_underlying hu,Result.andThen_ok];cases v<;>rfl)
  |cases h
theorem sV{t:TypeId}{ks:Sh}{k:D}(hok:rf P t ks=true)(hk:aK ks k)(em:Bool)(w:World):(Instr.checkKey em 10000 t (kv k)).run P w= .ok () w:=by
 unfold rf at hok
 split at hok
 ·rename_i hu
  exact MapKept.run_checkKey hu (ER (by simpa using hok) hk) em 9999
 ·rename_i fs hu
  simp only[Bool.and_eq_true]at hok
  obtain⟨⟨⟨ha,hl⟩,he⟩,hp⟩:=hok
  obtain⟨l,rfl,hlen,fh⟩:=hk.iJ ha
  have hr:=qe hl ha hk
  have UY:=Lm (ρ:=eT) (w:=w) (T:=fun _=>True) (.inr ⟨ha,hl⟩) hk
  rw[uV (s:=ks) hr]at UY⊢
  obtain⟨cs,hcs,_,bY⟩:=UY
  cases hcs
  have he':(!P.stoodInHeld t&&ks.isAgg&&fs.toList.length==ks.count&&NJ P (A2 P 39) ks 0 fs.toList)=true:=by
   have:=he
   unfold A2 at this
   rw[hu]at this
   exact this
  simp only[Bool.and_eq_true,beq_iff_eq]at he'
  obtain⟨⟨_,hc⟩,hf⟩:=he'
  rw[show(10000:Nat)=9999+1 from rfl,Instr.checkKey]
  simp only[Sem.run_bind,run_underlying hu,Result.andThen_ok]
  rw[←Array.forIn_toList]
  have VZ:∀f∈fs.toList,∃v,f.name≠ "_" ∧(part f.type (l.map yX).toArray f.offset).run P w= .ok v w∧A3 P f.type=true:=by
   have key:∀(gs:List Field) (i:Nat),i+gs.length=ks.count→NJ P (A2 P 39) ks i gs=true→(gs.all fun f=>A3 P f.type)=true→
     ∀f∈gs,∃v,f.name≠ "_" ∧(part f.type (l.map yX).toArray f.offset).run P w= .ok v w∧A3 P f.type=true:=by
    intro gs
    induction gs with
    |nil=>intro i _ _ _ f hf;simp at hf
    | cons f gs ih =>
     intro i hi hf hp
     simp only[NJ,Bool.and_eq_true]at hf
     obtain⟨⟨⟨f1,f2⟩,f3⟩,f4⟩:=hf
     simp only[List.length_cons]at hi
     simp only[List.all_cons,Bool.and_eq_true]at hp
     split at f3
     ·rename_i e hse
      simp only[Bool.and_eq_true,beq_iff_eq]at f3
      obtain⟨⟨f5,f6⟩,f7⟩:=f3
      obtain⟨va,r1,r2,r3⟩:=EL (P:=P) hk bY hse (List.getElem?_eq_getElem (by omega)) f5 f6
      have f1':f.name≠ "_" :=by simpa using f1
      have f2':f.offset=ks.ju i:=by simpa using f2
      intro g hg
      rcases List.mem_cons.1 hg with rfl|hg
      ·exact⟨va,f1',by rw[f2'];exact r1,hp.1⟩
      ·exact ih (i+1) (by omega) f4 hp.2 g hg
     ·cases f3
   exact key fs.toList 0 (by omega) hf hp
  generalize fs.toList=L at VZ
  induction L with
  |nil=>simp
  |cons f L ih=>
   obtain⟨v,h1,h2,h3⟩:=VZ f (by simp)
   have h4:=ES h3 em 9998 v w
   simp only[List.forIn_cons,Sem.run_bind,h1,ne_eq,not_false_eq_true,if_true,h2,Result.andThen_ok,h4,Sem.run_pure]
   exact ih (fun g hg=>VZ g (by simp[hg]))
 ·cases hok
theorem zh{v:Value}{k:Sc}(h:mE v k=true)(m:Nat):Instr.sameBits m v v=true:=by
 cases k<;>cases v<;>simp[mE]at h<;>simp[Instr.sameBits,MapKept.bytes_beq]
theorem NY{t:TypeId}{ks:Sh}{k:D}(hok:rf P t ks=true)(hk:aK ks k)(w:World):(Instr.keyThatStays (kv k) (kv k)).run P w= .ok (kv k) w:=by
 have hb : Instr.sameBits 10000 (kv k) (kv k) = true := by
  rcases rp hok with⟨_,rfl⟩|⟨ha,hl⟩
  ·obtain⟨v,rfl,hv⟩:=lL hk
   exact zh hv _
  ·obtain⟨l,rfl,hlen,fh⟩:=hk.iJ ha
   have hr:=qe hl ha hk
   rw[uV (s:=ks) hr]
   show(_&&_)=true
   simp only[beq_self_eq_true,Bool.true_and,List.all_eq_true]
   intro p hp
   have:∀(l:List D),Ll l→∀p∈(l.map yX).zip (l.map yX),Instr.sameBits 9999 p.1 p.2=true:=by
    intro l
    induction l with
    |nil=>intro _ p hp;simp at hp
    | cons x l ih =>
     intro hr p hp
     simp only[List.map_cons,List.zip_cons_cons,List.mem_cons]at hp
     rcases hp with rfl|hp
     ·obtain⟨v,k,rfl,hk⟩:=hr x (by simp)
      exact zh hk _
     ·exact ih (fun y hy=>hr y (by simp[hy])) p hp
   exact this l hr p (by simpa using hp)
 simp[Instr.keyThatStays,hb]
theorem oP.push{s:Sh}{l:List D}{es:Array MapEntry}(h:oP s l es){ks:Sh}{kd d:D}{val:Value}{born:Nat}(hs:s.sub 0=some ks)(hk:aK ks kd)(hd:Hx d=some (kd,val))(hn:∀e∈es.toList,e.key≠kv kd):
  oP s (d::l) (es.push ⟨kv kd,val,born⟩):=by
 refine⟨h.pure,fun e he=>?_,?_,fun k v=>?_⟩
 ·simp only[Array.toList_push,List.mem_append,List.mem_singleton]at he
  rcases he with he|rfl
  ·exact h.key e he
  ·exact⟨kd,ks,hs,hk,rfl⟩
 ·simp only[Array.toList_push]
  refine List.pairwise_append.2 ⟨h.jg,by simp,fun a ha b hb=>?_⟩
  simp only[List.mem_singleton]at hb
  subst hb
  exact hn a ha
 ·simp only[firstM,hd,Array.toList_push,List.mem_append,List.mem_singleton]
  constructor
  ·rintro⟨e,he|rfl,h1,h2⟩
   ·exact .inr ⟨fun q=>hn e he (by rw[h1,q]),(h.at_ k v).1 ⟨e,he,h1,h2⟩⟩
   ·exact .inl ⟨h1,h2⟩
  ·rintro(⟨h1,h2⟩|⟨h1,h2⟩)
   ·exact⟨_,.inr rfl,h1,h2⟩
   ·obtain⟨e,he,h3⟩:=(h.at_ k v).2 h2
    exact⟨e,.inl he,h3⟩
theorem oP.modify{s:Sh}{l:List D}{es:Array MapEntry}(h:oP s l es){kd d:D}{val:Value}{j:Nat}{e0:MapEntry}(hd:Hx d=some (kd,val))(hj:es[j]?=some e0)(h0:e0.key=kv kd):
  oP s (d::l) (es.modify j fun e=>{e with key:=kv kd,val:=val}):=by
 have jz:∀i:Nat,(es.modify j fun e=>{e with key:=kv kd,val:=val})[i]?=if j=i then some {e0 with key:=kv kd,val:=val}else es[i]?:=by
  intro i
  rw[Array.getElem?_modify]
  split
  ·rename_i e;subst e;simp[hj]
  ·rfl
 have So:∀e:MapEntry,e∈(es.modify j fun e=>{e with key:=kv kd,val:=val}).toList↔∃i:Nat,(es.modify j fun e=>{e with key:=kv kd,val:=val})[i]?=some e:=by
  intro e
  rw[List.mem_iff_getElem?]
  simp only[Array.getElem?_toList]
 have Qq:∀e:MapEntry,e∈es.toList↔∃i:Nat,es[i]?=some e:=by
  intro e
  rw[List.mem_iff_getElem?]
  simp
 have hone:∀(i:Nat) (e:MapEntry),es[i]?=some e→e.key=kv kd→i=j:=by
  intro i e hi he
  have hp:=List.pairwise_iff_getElem.1 h.jg
  obtain⟨l1,rfl⟩:=Array.getElem?_eq_some_iff.1 hi
  obtain⟨l2,rfl⟩:=Array.getElem?_eq_some_iff.1 hj
  rcases Nat.lt_trichotomy i j with h1|h1|h1
  ·exact absurd (show(es.toList[i]'(by simpa using l1)).key=(es.toList[j]'(by simpa using l2)).key from he.trans h0.symm) (hp i j (by simpa using l1) (by simpa using l2) h1)
  ·exact h1
  ·exact absurd (show(es.toList[j]'(by simpa using l2)).key=(es.toList[i]'(by simpa using l1)).key from h0.trans he.symm) (hp j i (by simpa using l2) (by simpa using l1) h1)
 refine⟨h.pure,fun e he=>?_,?_,fun k v=>?_⟩
 ·obtain⟨i,hi⟩:=(So e).1 he
  rw[jz]at hi
  split at hi
  ·cases hi
   obtain⟨ZW,ks,g1,g2,g3⟩:=h.key e0 ((Qq _).2 ⟨j,hj⟩)
   exact⟨ZW,ks,g1,g2,by rw[←g3,h0]⟩
  ·exact h.key e ((Qq _).2 ⟨i,hi⟩)
 ·have hkeys:(es.modify j fun e=>{e with key:=kv kd,val:=val}).toList.map (·.key)=es.toList.map (·.key):=by
   apply List.ext_getElem?
   intro i
   simp only[List.getElem?_map,Array.getElem?_toList,jz]
   split
   ·rename_i e;subst e;simp[hj,h0]
   ·rfl
  have:=h.jg
  rw[←List.pairwise_map (f:=fun e:MapEntry=>e.key) (R:=fun a b=>a≠b)]at this⊢
  rw[hkeys]
  exact this
 ·simp only[firstM,hd]
  constructor
  ·rintro⟨e,he,h1,h2⟩
   obtain⟨i,hi⟩:=(So e).1 he
   rw[jz]at hi
   split at hi
   ·cases hi;exact .inl ⟨h1,h2⟩
   ·rename_i hne
    exact .inr ⟨fun q=>hne (hone i e hi (by rw[h1,q])).symm,(h.at_ k v).1 ⟨e,(Qq _).2 ⟨i,hi⟩,h1,h2⟩⟩
  ·rintro(⟨h1,h2⟩|⟨h1,h2⟩)
   ·exact⟨_,(So _).2 ⟨j,by rw[jz,if_pos rfl]⟩,h1,h2⟩
   ·obtain⟨e,he,h3,h4⟩:=(h.at_ k v).2 h2
    obtain⟨i,hi⟩:=(Qq e).1 he
    refine⟨e,(So _).2 ⟨i,?_⟩,h3,h4⟩
    rw[jz,if_neg]
    ·exact hi
    ·intro q
     subst q
     rw[hj]at hi
     cases hi
     exact h1 (by rw[←h3,h0])
theorem ET{s:Sh}(h:B8 s=true):zg s:=by
 unfold B8 at h
 split at h
 ·exact .inl ⟨_,rfl⟩
 ·simp only[Bool.and_eq_true]at h
  exact .inr h
theorem dV_kv{s:Sh}{e:D}(h:zg s)(he:aK s e):dV s (kv e)=e:=by
 rcases h with⟨_,rfl⟩|⟨ha,hl⟩
 ·obtain⟨u,rfl,_⟩:=lL he
  rfl
 ·obtain⟨l,rfl,_,_⟩:=he.iJ ha
  have hr:=qe hl ha he
  have e1:(l.map yX).map D.raw=l:=by
   rw[List.map_map]
   refine(List.map_congr_left fun x hx=>?_).trans (List.map_id l)
   obtain⟨v,_,rfl,_⟩:=hr x hx
   rfl
  rw[uV (s:=s) hr]
  cases s<;>simp[Sh.isAgg,mq]at ha hl<;>simp[dV,Value.cells]<;>simpa using e1
theorem pQ.ofVR{s:Sh}{d:D}{v:Value}(hd:aK s d)(h:VR ρ w T d v):pQ ρ w T d v:=by
 cases d with
 |cA l=>cases hd<;>simp_all[D.ee]
 |agg=>exact h
 | _=>exact h
theorem zero_kv{t:TypeId}{vs:Sh}{z:D}(hk:zg vs)(hs:sh P t=some vs)(hz:zero P t=some z):aK vs z∧∀w,(zeroValue t).run P w= .ok (kv z) w:=by
 obtain⟨h1,v0,h2,h3,h4⟩:=jy hs hz
 refine⟨h1,?_⟩
 have hv : v0 = kv z := by
  have hb : (match (generalizing := false) v0 with | .agg _ => z.isAgg | .tuple _ => false | _ => !z.isAgg) = true := by
   unfold zero at hz
   split at hz
   ·split at hz
    ·rename_i i hi
     split at hz
     ·rename_i v hv
      obtain⟨EG,hdz⟩:=EF hz
      have hb:=(Bool.and_eq_true_iff.1 EG).2
      rw[hdz]at hb
      have e0:v0=v:=by
       have:=h2 default
       simp[zeroValue,typeInfo,hi,hv]at this
       exact this.symm
      subst e0
      exact hb
     ·cases hz
    ·cases hz
   ·cases hz
  have h5:=h4 eT default (fun _=>True)
  rcases hk with⟨c,rfl⟩|⟨ha,hl⟩
  ·obtain⟨zx,rfl,hk⟩:=lL h1
   have h6:=wo (l:=[D.raw zx]) (fun x hx=>by simp at hx;exact⟨zx,c,hx,hk⟩) (by simpa[D.flat]using h5)
   cases v0<;>simp_all[D.isAgg,Value.cells,yX,kv]
  ·obtain⟨l,rfl,_,_⟩:=h1.iJ ha
   have hr:=qe hl ha h1
   have h6:=wo hr (by simpa[D.flat,rq hr]using h5)
   rw[uV (s:=vs) hr,←h6]
   cases v0<;>first|(simp[Value.cells];done)|(simp[D.isAgg]at hb)
 rw[←hv]
 exact h2
theorem EU{ks vs:Sh}:∀{l:List D} {k v:Value},(∀d∈l,aK (pP ks vs) d)→firstM l k v→∃e,aK vs e∧v=kv e
 |[],_,_,_,h=>h.elim
 | d :: l, k, v, hl, h => by
  obtain⟨l0,rfl,hlen,fh⟩:=(hl d (by simp)).iJ rfl
  simp only[firstM]at h
  split at h
  ·rename_i k' v' he
   rcases h with⟨_,rfl⟩|⟨_,h⟩
   ·unfold Hx at he
    split at he
    ·rename_i heq
     cases heq
     cases he
     exact⟨_,fh 1 vs _ rfl rfl,rfl⟩
    ·cases he
   ·exact EU (fun d hd=>hl d (by simp[hd])) h
  ·exact h.elim
theorem x8:∀{s:Sh},mq s=true→s.pure=true
 | .nil,_=>rfl
 | .cons (.leaf _) b,h=>by simp[Sh.pure,x8 (s:=b) (by simpa[mq]using h)]
 | .cons .ref b,h| .cons .nil b,h| .cons (.cons _ _) b,h| .cons (.ar _ _) b,h=>by simp[mq]at h
 | .leaf _,h| .ref,h| .ar _ _,h=>by simp[mq]at h
theorem V0{t:TypeId}{ks vs:Sh}(hok:rf P t ks=true)(hv:B8 vs=true):(pP ks vs).pure=true:=by
 have h1:ks.pure=true:=by
  rcases rp hok with⟨_,rfl⟩|⟨_,h⟩
  ·rfl
  ·exact x8 h
 have h2:vs.pure=true:=by
  rcases ET hv with⟨_,rfl⟩|⟨_,h⟩
  ·rfl
  ·exact x8 h
 simp[Sh.pure,h1,h2]
theorem x9{t:TypeId}{ks vs:Sh}(h:KZ P t=some (ks,vs)):∃kt et,P.underlying t=some (.map kt et)∧sh P kt=some ks∧sh P et=some vs∧rf P kt ks=true∧B8 vs=true:=by
 unfold KZ mapT at h
 obtain⟨⟨kt,et⟩,h1,h⟩:=aD h
 split at h1
 ·rename_i hu
  cases h1
  obtain⟨ks',h2,h⟩:=aD h
  obtain⟨vs',h3,h⟩:=aD h
  obtain⟨h4,h⟩:=cx h
  cases h
  simp only[Bool.and_eq_true]at h4
  exact⟨_,_,hu,h2,h3,h4.1,h4.2⟩
 ·cases h1
section ops
variable (hs:dO n ρ T env rows a w) (hG:rj C ρ w T) {o:Oper} {k:D→Rows→Prop}
include hs hG
omit hG in
theorem op_mkm{t kt:TypeId}{ks vs:Sh}(ho:o.op= .makeMap t none)(hok:rf P kt ks=true)(hvs:B8 vs=true)(h:df C env rows (.ZU ks vs) k):bU P n o ρ T env rows a w k:=by
 obtain⟨g1,g2⟩:=hs.pushMap (w':={w with heap:=w.heap.push (.map #[] 0)}) (pP ks vs) (V0 hok hvs) rfl rfl rfl rfl
 refine ow (v:= .map (some w.heap.size)) h g1 g2 (VR.bG (.mp rows.length ⟨w.heap.size,pP ks vs,0,true⟩ (by simp[sE]) rfl)) (fun _=>⟨fun b hb=> .inl (rk hb),fun _ h=> .inl h⟩) ?_
 simp only[execOp,ho]
 rfl
theorem op_mset{t kt et:TypeId}{ks vs:Sh}{m x v:Operand}{m' x' v':X}(ho:o.op= .mapUpdate t m x v)(hu:P.underlying t=some (.map kt et))(hok:rf P kt ks=true)(hvs:B8 vs=true)
  (h1:cX m=some m')(h2:cX x=some x')(h3:cX v=some v')(h:df C env rows (.oL ks vs m' x' v') k):bU P n o ρ T env rows a w k:=by
 obtain⟨dm,he1,hk⟩:=ah h
 have hvm:=bI h1 he1 hs hG
 split at hk
 ·rename_i r
  obtain⟨kd,uR,hk⟩:=ah hk
  obtain⟨dv,he3,hk⟩:=ah hk
  have hvk:=bI h2 uR hs hG
  have hvv:=bI h3 he3 hs hG
  obtain⟨hf,hfv,hk⟩:=hk
  obtain⟨row,hl,hk⟩:=ah hk
  obtain⟨hsh,hk⟩:=hk
  have Sp:=(hvk.cells hf).1
  have hVs:=(hvv.cells hfv).1
  have ek:=VX (rp hok) Sp hvk
  have ev':=VX (ET hvs) hVs hvv
  have UZ:LR ρ w T (.mp r) _:=hvm
  generalize hm:a.eval m=vm at UZ
  cases UZ with
  | mp _ L hL hmp =>
   have hrow:=hs.bD.row r row L hl hL
   obtain⟨es,clock,hb,hR⟩:=hrow.oQ hmp
   have V1:Keys ks es.toList:=fun e he=>by
    obtain⟨ZW,ks',g1,g2,g3⟩:=hR.key e he
    rw[hsh]at g1
    cases g1
    exact⟨ZW,g2,g3⟩
   have fV:∀d∈D.agg (pP ks vs) [kd,dv]::row.els,aK row.sh d:=by
    intro d hd
    rcases List.mem_cons.1 hd with rfl|hd
    ·rw[hsh]
     refine .agg _ _ rfl rfl fun i e d hi hd=>?_
     match i,hi,hd with
     |0,hi,hd=>simp[Sh.sub]at hi hd;subst hi;subst hd;exact Sp
     |1,hi,hd=>simp[Sh.sub]at hi hd;subst hi;subst hd;exact hVs
     |i+2,hi,hd=>simp[Sh.sub]at hi
    ·exact hrow.els d hd
   have hlt:L.b<w.heap.size:=hrow.lt
   have fin:∀es' clock',oP row.sh (D.agg (pP ks vs) [kd,dv]::row.els) es'→(Instr.mapUpdate t (.map (some L.b)) (kv kd) (kv dv)).run P w= .ok () {w with heap:=w.heap.setIfInBounds L.b (.map es' clock')}→bU P n o ρ T env rows a w k:=by
    intro es' clock' Qg hrun
    obtain⟨u1,u2⟩:=hs.Vz (w':={w with heap:=w.heap.setIfInBounds L.b (.map es' clock')}) hl hL _ es' clock' hmp fV Qg (by simp[hlt]) (fun b hb=>by simp[Ne.symm hb]) (by simp) rfl rfl rfl
    refine⟨_,_,ρ,T,undef,_,hk,u1,u2,?_,.inr ⟨?_,rfl⟩,fun hq=>by rw[ho]at hq;cases hq⟩
    ·exact⟨#[],rfl,.nil⟩
    ·simp[execOp,ho,hm,ek,ev',hrun]
   rcases HP hok Sp w es.toList V1 with⟨q1,q2⟩|⟨j,e,q1,q2,q3⟩
   ·refine fin _ (clock+1) (hR.push (born:=clock) (by rw[hsh];rfl) Sp rfl q2) ?_
    simp[Instr.mapUpdate,run_underlying hu,MapKept.run_getObj_map hb,sV hok Sp,q1,MapKept.run_setObj_map _ hb,Result.andThen]
   ·have q2':es[j]?=some e:=by simpa using q2
    refine fin _ clock (hR.modify (d:= .agg (pP ks vs) [kd,dv]) rfl q2' q3) ?_
    simp[Instr.mapUpdate,run_underlying hu,MapKept.run_getObj_map hb,sV hok Sp,q1,q2',q3,NY hok Sp,MapKept.run_setObj_map _ hb,Result.andThen]
 ·exact hk.elim
theorem op_mget{t kt et:TypeId}{ks vs:Sh}{ok:Bool}{z:D}{m x:Operand}{m' x':X}(ho:o.op= .lookup t m x ok)(hu:P.underlying t=some (.map kt et))(hok:rf P kt ks=true)(hse:sh P et=some vs)(hz:zero P et=some z)(hzf:z.fits vs=true)(hvs:B8 vs=true)
  (h1:cX m=some m')(h2:cX x=some x')(h:df C env rows (.KV ks vs ok z m' x') k):bU P n o ρ T env rows a w k:=by
 obtain⟨dm,he1,hk⟩:=ah h
 obtain⟨kd,uR,hk⟩:=ah hk
 obtain⟨hf,hk⟩:=hk
 obtain⟨els,fV,hk⟩:=ah hk
 obtain⟨r,hr,hk⟩:=ah hk
 have hvm:=bI h1 he1 hs hG
 have hvk:=bI h2 uR hs hG
 have Sp:=(hvk.cells hf).1
 have ek:=VX (rp hok) Sp hvk
 have bY : ∃ b es clock, a.eval m = .map (some b) ∧ w.heap[b]? = some (.map es clock) ∧ oP (pP ks vs) els es ∧ ∀ d ∈ els, aK (pP ks vs) d := by
  unfold A1 at fV
  split at fV
  ·rename_i r' Nx
   split at fV
   ·rename_i row hl
    have UZ:LR ρ w T (.mp r') _:=hvm
    generalize hm:a.eval m=vm at UZ
    cases UZ with
    | mp _ L hL hmp =>
     have hrow:=hs.bD.row r' row L hl hL
     obtain⟨es,clock,hb,hR⟩:=hrow.oQ hmp
     cases hq:(row.sh==pP ks vs)with
     |false=>simp[hq]at fV
     |true=>
      have hsh:row.sh=pP ks vs:=by simpa using hq
      simp[hq]at fV
      subst fV
      exact⟨L.b,es,clock,rfl,hb,by rw[←hsh];exact hR,fun d hd=>by rw[←hsh];exact hrow.els d hd⟩
   ·cases fV
  ·rename_i s' l' Nx
   have UZ:LR ρ w T (.om s' l') _:=hvm
   generalize hm:a.eval m=vm at UZ
   cases UZ with
   | om _ _ b es clock g1 g2 g3 g4 =>
    cases hq:(s'==pP ks vs)with
    |false=>simp[hq]at fV
    |true=>
     have hsh:s'=pP ks vs:=by simpa using hq
     simp[hq]at fV
     subst fV
     exact⟨b,es,clock,rfl,g3,by rw[←hsh];exact g4,fun d hd=>by rw[←hsh];exact g1 d hd⟩
  ·cases fV
 obtain⟨b,es,clock,hm,hb,hR,hE⟩:=bY
 have hspec:=EQ (rp hok) Sp hE hr
 have V1:Keys ks es.toList:=fun e he=>by
  obtain⟨ZW,ks',g1,g2,g3⟩:=hR.key e he
  cases g1
  exact⟨ZW,g2,g3⟩
 have hKv:=ET hvs
 obtain⟨Qr,z2⟩:=zero_kv hKv hse hz
 rcases HP hok Sp w es.toList V1 with⟨q1,q2⟩|⟨j,e,q1,q2,q3⟩
 ·have hnone:r=none:=by
   cases r with
   |none=>rfl
   |some v=>
    obtain⟨e,he,h3,_⟩:=(hR.at_ _ _).2 ((hspec v).2 rfl)
    exact absurd h3 (q2 e he)
  subst hnone
  have hrun:(Instr.lookup t (.map (some b)) (kv kd) ok).run P w= .ok (if ok then .tuple #[kv z,.bool false]else kv z) w:=by
   simp[Instr.lookup,run_underlying hu,MapKept.run_getObj_map hb,sV hok Sp,q1,z2,Result.andThen]
  have hvz:VR ρ w T z (kv z):=Lm hKv Qr
  cases ok with
  |false=>
   refine .here hs hk (v:=kv z) hvz ?_
   simp[execOp,ho,hm,ek,hrun]
  |true=>
   refine .here hs hk (v:= .tuple #[kv z,.bool false]) ⟨_,rfl,.cons (pQ.ofVR Qr hvz) (.cons (pQ.bG (.raw _ rfl)) .nil)⟩ ?_
   simp[execOp,ho,hm,ek,hrun]
 ·have hsome:r=some e.val:=(hspec e.val).1 ((hR.at_ _ _).1 ⟨e,bN q2,q3,rfl⟩)
  subst hsome
  obtain⟨d,hd1,yQ⟩:=EU hE ((hR.at_ _ _).1 ⟨e,bN q2,q3,rfl⟩)
  have hvd:VR ρ w T (dV vs e.val) e.val:=by rw[yQ,dV_kv hKv hd1];exact Lm hKv hd1
  have I4:aK vs (dV vs e.val):=by rw[yQ,dV_kv hKv hd1];exact hd1
  have hrun:(Instr.lookup t (.map (some b)) (kv kd) ok).run P w= .ok (if ok then .tuple #[e.val,.bool true]else e.val) w:=by
   simp[Instr.lookup,run_underlying hu,MapKept.run_getObj_map hb,sV hok Sp,q1,Result.andThen]
  cases ok with
  |false=>
   refine .here hs hk (v:=e.val) hvd ?_
   simp[execOp,ho,hm,ek,hrun]
  |true=>
   refine .here hs hk (v:= .tuple #[e.val,.bool true]) ⟨_,rfl,.cons (pQ.ofVR I4 hvd) (.cons (pQ.bG (.raw _ rfl)) .nil)⟩ ?_
   simp[execOp,ho,hm,ek,hrun]
end ops
end Go.Am
namespace Go.Am
set_option linter.unusedVariables false
set_option linter.unusedSimpArgs false
variable {C:be} {P:Program} {n:Nat} {ρ:Pl} {T:Nat→Prop} {env:Env} {rows:Rows} {a:Act} {w:World}
theorem jk{α β:Type}{f:α→Option β}:∀{l:List α} {l':List β},cW f l=some l'→l'.length=l.length∧∀(i:Nat) (x:α) (y:β),l[i]?=some x→l'[i]?=some y→f x=some y
 |[],l',h=>by simp[cW]at h;subst h;simp
 | x :: l, l', h => by
  simp only[cW]at h
  split at h
  ·rename_i y hy
   split at h
   ·rename_i ys hys
    cases h
    obtain⟨h1,h2⟩:=jk hys
    refine⟨by simp[h1],fun i a b ha hb=>?_⟩
    cases i with
    |zero=>simp at ha hb;subst ha;subst hb;exact hy
    |succ i=>exact h2 i a b (by simpa using ha) (by simpa using hb)
   ·cases h
  ·cases h
theorem sX{f:D→Option D}{R:D→Value→Prop}:∀{l l':List D} {cs:List Value},cW f l=some l'→aY (LR ρ w T) (au l) cs→
  (∀d∈l,∃s,aK s d)→(∀d∈l,∀d' s cs,f d=some d'→aK s d→aY (LR ρ w T) d.flat cs→aK s d'∧aY R d'.flat cs)→aY R (au l') cs
 |[],l',cs,h,hc,_,_=>by
  simp[cW]at h;subst h
  have:cs=[]:=List.eq_nil_of_length_eq_zero (by simpa[au]using hc.len.symm)
  subst this
  exact .nil
 | x :: l, l', cs, h, hc, hs, hf => by
  simp only[cW]at h
  split at h
  ·rename_i y hy
   split at h
   ·rename_i ys hys
    cases h
    simp only[au]at hc⊢
    obtain⟨s,hsx⟩:=hs x (by simp)
    have h1:=hc.take x.flat.length
    have h2:=hc.drop x.flat.length
    rw[List.take_left]at h1
    rw[List.drop_left]at h2
    obtain⟨g1,g2⟩:=hf x (by simp) y s _ hy hsx h1
    have g3:=sX hys h2 (fun d hd=>hs d (by simp[hd])) (fun d hd=>hf d (by simp[hd]))
    have:=g2.append g3
    rwa [List.take_append_drop]at this
   ·cases h
  ·cases h
theorem iV.V2(h:iV ρ rows w T){s:Sh}{r:Nat}{p:List Nat}{v:Value}{row:Row}{d:D}(hv:LR ρ w T (.ptr s r p) v)(hl:live rows r=some row)(hg:cP row.els p=some d):
  ∃b o cs,v= .pointer (some ⟨b,o,none⟩)∧aK s d∧aY (LR ρ w T) d.flat cs∧At w b o cs∧NQ ρ T rows b:=by
 cases hv with
 |ptr _ _ _ L hL hp=>
  obtain⟨b,o,cs,h1,h2,h3,h4⟩:=h.I2 (.ptr s r p L hL hp) hl hg
  cases h1
  exact⟨L.b,L.off p,cs,rfl,h2,h3,h4,.inr ⟨r,row,L,hl,hL,rfl⟩⟩
theorem ya (hr : iV ρ rows w T) : ∀ (k : Nat) (d d' : D) (s : Sh) (cs : List Value), view rows k d = some d' → aK s d → aY (LR ρ w T) d.flat cs →
  aK s d'∧aY (LR eT w (NQ ρ T rows)) d'.flat cs
 |0,d,d',s,cs,h,_,_=>by simp[view]at h
 | k + 1, d, d', s, cs, h, hsh, hc => by
  have ih:=fun d d' s cs=>ya hr k d d' s cs
  cases d with
  |raw v=>
   simp[view]at h
   subst h
   exact⟨hsh,hc.ofRaw (by simp[D.flat])⟩
  |lF=>simp[view]at h
  |A0=>simp[view]at h
  | ptr t r p =>
   have tI:(D.ptr t r p).ee=true:=rfl
   rw[cj tI]at hc
   have uX:=hc.len
   match cs,uX with
   | [v], _ =>
    have hv:=hc.head
    have zi:s= .ref:=by
     cases hsh with
     |ref=>rfl
    subst zi
    simp only[view]at h
    split at h
    ·rename_i row hl
     split at h
     ·rename_i d0 hg
      obtain⟨b,o',cs',hx,m1,m2,m3⟩:=hr.V2 hv hl hg
      cases hp:t.pure with
      |true=>
       simp[hp]at h
       subst h
       refine⟨.ref _ rfl,?_⟩
       rw[cj rfl,hx]
       exact aY.single (LR.xW m1 m3.2 (m2.ofRaw (oE m1 hp)) m3.1)
      | false =>
       simp only[hp,cond_false]at h
       split at h
       ·rename_i d1 hd1
        cases h
        obtain⟨q1,q2⟩:=ih d0 d1 t cs' hd1 m1 m2
        refine⟨.ref _ rfl,?_⟩
        rw[cj rfl,hx]
        exact aY.single (LR.xW q1 m3.2 q2 m3.1)
       ·cases h
     ·cases h
    ·cases h
  | b5 d0 =>
   have tI:(D.b5 d0).ee=true:=rfl
   rw[cj tI]at hc
   have uX:=hc.len
   match cs,uX with
   | [v], _ =>
    have hv:=hc.head
    simp only[view]at h
    cases hh:aQ d0 with
    |true=>simp[hh]at h
    |false=>
     simp[hh]at h
     subst h
     refine⟨hsh,?_⟩
     rw[cj tI]
     exact aY.single ((hv.closed hh).mono (fun _ _ e=>e) (fun _ _=>rfl) (fun _ hb=> .inl hb))
  |cA=>simp[view]at h
  | mp r =>
   have tI:(D.mp r).ee=true:=rfl
   rw[cj tI]at hc
   have uX:=hc.len
   match cs,uX with
   | [v], _ =>
    have hv:=hc.head
    have zi:s= .ref:=by
     cases hsh with
     |ref=>rfl
    subst zi
    simp only[view]at h
    split at h
    ·rename_i row hl
     cases h
     refine⟨.ref _ rfl,?_⟩
     rw[cj rfl]
     cases hv with
     |mp _ L hL hm=>
      have hrow:=hr.row r row L hl hL
      obtain⟨es,clock,h1,h2⟩:=hrow.oQ hm
      exact aY.single (.om _ _ _ es clock hrow.els (.inr ⟨r,row,L,hl,hL,rfl⟩) h1 h2)
    ·cases h
  | om t l =>
   have tI:(D.om t l).ee=true:=rfl
   rw[cj tI]at hc
   have uX:=hc.len
   match cs,uX with
   | [v], _ =>
    have hv:=hc.head
    have zi:s= .ref:=by
     cases hsh with
     |ref=>rfl
    subst zi
    simp only[view]at h
    cases h
    refine⟨.ref _ rfl,?_⟩
    rw[cj rfl]
    cases hv with
    |om _ _ b es clock h1 hb h2 h3=>exact aY.single (.om _ _ _ es clock h1 (.inl hb) h2 h3)
  | agg t l =>
   obtain⟨rfl,ha⟩:=nM hsh
   simp only[view]at h
   cases hp:s.pure with
   |true=>
    simp[hp]at h
    subst h
    exact⟨hsh,hc.ofRaw (oE hsh hp)⟩
   | false =>
    simp only[hp,cond_false]at h
    split at h
    ·rename_i l' mh
     cases h
     obtain⟨l2,e2,hlen,fh⟩:=hsh.iJ ha
     cases e2
     obtain⟨g1,g2⟩:=jk mh
     have hex:∀d∈l,∃e,aK e d:=by
      intro d hd
      obtain⟨i,hi,rfl⟩:=List.mem_iff_getElem.1 hd
      obtain⟨e,he⟩:=kz (s:=s) (i:=i) (by omega)
      exact⟨e,fh i e _ he (List.getElem?_eq_getElem hi)⟩
     simp only[D.flat]at hc
     have hc2:=sX (R:=LR eT w (NQ ρ T rows)) mh hc hex (fun d _ d' s cs h1 h2 h3=>ih d d' s cs h1 h2 h3)
     refine⟨.agg s l' ha (by omega) (fun i e d' hi je=>?_),by simpa[D.flat]using hc2⟩
     have Dn:i<l.length:=by have:=cN je;omega
     have hd:=List.getElem?_eq_getElem Dn
     have hv:=g2 i _ d' hd je
     have qX:=fh i e _ hi hd
     obtain⟨q1,q2,q3⟩:=hsh.part ha hi
     --its own cells
     have V3:∃c,aY (LR ρ w T) (l[i]).flat c:=by
      rw[fu hd]at hc
      have:=(hc.drop (au (l.take i)).length).take (l[i]).flat.length
      rw[List.drop_left,List.take_left]at this
      exact⟨_,this⟩
     obtain⟨c,U0⟩:=V3
     exact(ih _ _ e c hv qX U0).1
    ·cases h
  | cF t l ex =>
   have tI:(D.cF t l ex).ee=true:=rfl
   rw[cj tI]at hc
   have uX:=hc.len
   match cs,uX with
   | [v], _ =>
    have hv:=hc.head
    have zi:s= .ref:=by
     cases hsh with
     |ref=>rfl
    subst zi
    have key:∀l',(∀d∈l',aK t d)→l'.length=l.length→(∀c,aY (LR ρ w T) (au l) c→aY (LR eT w (NQ ρ T rows)) (au l') c)→d'= .cF t l' ex→aK .ref d'∧aY (LR eT w (NQ ρ T rows)) d'.flat [v]:=by
     intro l' h1 h2 h3 h4
     subst h4
     refine⟨.ref _ rfl,?_⟩
     rw[cj rfl]
     refine aY.single ?_
     cases hv with
     |ou _ _ ad cap c1 c2=>
      have:l'=[]:=List.eq_nil_of_length_eq_zero (by simpa using h2)
      subst this
      exact .ou _ _ _ _ c1 c2
     |cF _ _ _ b o' cap f c1 hb c2 c3 c4 c5=>
      obtain⟨q1,q2⟩:=y9 (d:=default) c2 c3
      rw[←h2]
      exact LR.K7 h1 (.inl hb) (h3 _ q1) q2 (by omega) (by rw[h2];exact c5)
    have fV:∀d∈l,aK t d:=by
     cases hv with
     |ou=>simp
     |cF _ _ _ _ _ _ _ c1=>exact c1
    simp only[view]at h
    cases hp:t.pure with
    |true=>
     simp[hp]at h
     exact key l fV rfl (fun c hc=>hc.ofRaw (jh fV hp)) h.symm
    | false =>
     simp only[hp,cond_false]at h
     split at h
     ·rename_i l' mh
      cases h
      obtain⟨g1,g2⟩:=jk mh
      refine key l' (fun d' je=>?_) g1 (fun c hc=>sX (R:=LR eT w (NQ ρ T rows)) mh hc (fun d hd=>⟨t,fV d hd⟩) (fun d _ d' s cs h1 h2 h3=>ih d d' s cs h1 h2 h3)) rfl
      obtain⟨i,hi,rfl⟩:=List.mem_iff_getElem.1 je
      have Dn:i<l.length:=by omega
      have hd:=List.getElem?_eq_getElem Dn
      have hv2:=g2 i _ _ hd (List.getElem?_eq_getElem hi)
      have V3:∃c,aY (LR ρ w T) (l[i]).flat c:=by
       cases hv with
       |ou=>simp at Dn
       |cF _ _ _ b o' cap f c1 hb c2 c3 c4 c5=>
        obtain⟨q1,q2⟩:=y9 (d:=default) c2 c3
        rw[fu hd]at q1
        have:=(q1.drop (au (l.take i)).length).take (l[i]).flat.length
        rw[List.drop_left,List.take_left]at this
        exact⟨_,this⟩
      obtain⟨c,U0⟩:=V3
      exact(ih _ _ t c hv2 (fV _ (List.getElem_mem Dn)) U0).1
     ·cases h
  | sl t r p off len ex =>
   have tI:(D.sl t r p off len ex).ee=true:=rfl
   rw[cj tI]at hc
   have uX:=hc.len
   match cs,uX with
   | [v], _ =>
    have hv:=hc.head
    have zi:s= .ref:=by
     cases hsh with
     |ref=>rfl
    subst zi
    simp only[view]at h
    split at h
    ·rename_i l hl
     cases HE:(l.length==len)with
     |false=>rw[HE]at h;simp at h
     | true =>
      rw[HE]at h
      simp only[Bool.not_true,cond_false]at h
      have hlen:l.length=len:=by simpa using HE
      obtain⟨ad,cap,c,hH⟩:=hr.holds (s:=t) hv hl rfl hlen (by simp[eK])
      have hexc:ex=true→cap=len:=by
       intro hx
       have kU:=hv
       rw[hH.hv]at kU
       cases kU with
       |sl _ _ _ _ _ _ _ _ _ _ c2 _=>exact c2 hx
       |yP=>rfl
      have key:∀l',(∀d∈l',aK t d)→l'.length=l.length→aY (LR eT w (NQ ρ T rows)) (au l') c→d'= .cF t l' ex→aK .ref d'∧aY (LR eT w (NQ ρ T rows)) d'.flat [v]:=by
       intro l' h1 h2 h3 h4
       subst h4
       refine⟨.ref _ rfl,?_⟩
       rw[cj rfl,hH.hv]
       refine aY.single ?_
       by_cases hz:len=0
       ·have:l'=[]:=List.eq_nil_of_length_eq_zero (by omega)
        subst this
        rw[hz]
        exact .ou _ _ _ _ (fun hx=>by rw[hexc hx,hz]) hH.nil
       ·obtain⟨b,o',UT,hB⟩:=hH.adr hz
        have GZ:At w b o' c:=by
         intro j x hx
         obtain⟨b2,o2',e1,e2⟩:=hH.at_ j x hx
         rw[UT]at e1
         cases e1
         exact e2
        rw[UT]
        have e:len=l'.length:=by omega
        have hcap:=hH.hcap
        rw[e]
        exact LR.K7 h1 hB h3 GZ (by omega) (fun hx=>by rw[hexc hx,e])
      cases hp:t.pure with
      |true=>
       simp[hp]at h
       exact key l hH.els rfl (hH.hcs.ofRaw (jh hH.els hp)) h.symm
      | false =>
       simp only[hp,cond_false]at h
       split at h
       ·rename_i l' mh
        cases h
        obtain⟨g1,g2⟩:=jk mh
        refine key l' (fun d' je=>?_) g1 (sX (R:=LR eT w (NQ ρ T rows)) mh hH.hcs (fun d hd=>⟨t,hH.els d hd⟩) (fun d _ d' s cs h1 h2 h3=>ih d d' s cs h1 h2 h3)) rfl
        obtain⟨i,hi,rfl⟩:=List.mem_iff_getElem.1 je
        have Dn:i<l.length:=by omega
        have hd:=List.getElem?_eq_getElem Dn
        have hv2:=g2 i _ _ hd (List.getElem?_eq_getElem hi)
        have V3:∃c,aY (LR ρ w T) (l[i]).flat c:=by
         have q1:=hH.hcs
         rw[fu hd]at q1
         have:=(q1.drop (au (l.take i)).length).take (l[i]).flat.length
         rw[List.drop_left,List.take_left]at this
         exact⟨_,this⟩
        obtain⟨cc,U0⟩:=V3
        exact(ih _ _ t cc hv2 (hH.els _ (List.getElem_mem Dn)) U0).1
       ·cases h
    ·cases h
theorem Jb(hr:iV ρ rows w T){k:Nat}{d d':D}{v:Value}(h:view rows k d=some d')(hv:VR ρ w T d v):VR eT w (NQ ρ T rows) d' v:=by
 cases d with
 |agg s l=>
  obtain⟨cs,rfl,h1,h2⟩:=hv
  obtain⟨g1,g2⟩:=ya hr k _ d' s cs.toList h h1 (by simpa[D.flat]using h2)
  exact VR.xg (pQ.K6 g1 (nM h1).2 g2)
 |cA l=>cases k<;>simp[view]at h
 | _=>
  have hl:=LR.leaf hv
  obtain⟨g1,g2⟩:=ya hr k _ d' .ref [v] h (.ref _ hl) (by rw[cj hl];exact aY.single hv)
  have mh:=g1.oO rfl
  rw[cj mh]at g2
  exact VR.bG g2.head
structure Bc (K:D→Rows→Prop) (ρ:Pl) (T:Nat→Prop) (rows:Rows) (w:World) (e:Ending) (w':World):Prop where
 ex:∃v d ab ρ' T',e= .returned v∧K d ab∧iV ρ' ab w' T'∧(∀r,ab.length≤r→ρ' r=none)∧(∀b,T' b→b<w'.heap.size)∧Step ρ T rows w ρ' T' ab w'∧VR ρ' w' T' d v
def aO(G:Nat→Option D)(P:Program)(f:FuncId)(A:jx):Prop:=
 ∀ds rows K,A ds rows K→∀(ρ:Pl) (w:World) (T:Nat→Prop) (args:Array Value),iV ρ rows w T→(∀r,rows.length≤r→ρ r=none)→(∀b,T b→b<w.heap.size)→
  aY (VR ρ w T) ds args.toList→(∀g d,G g=some d→LR eT w T (.b5 d) (.pointer (some ⟨g,0,none⟩)))→Calls P f args w (Bc K ρ T rows w)
def Fn.run(F:Fn):jx:=fun ds rows K=>bd (F ds rows) fun r=>K r.1 r.2
structure BackQ (K:D→Rows→Prop) (ρ:Pl) (T:Nat→Prop) (rows:Rows) (w:World) (e:Ending) (w':World):Prop where
 ex:∃v d ab ρ' T',e= .returned v∧K d ab∧iV ρ' ab w' T'∧(∀r,ab.length≤r→ρ' r=none)∧(∀b,T' b→b<w'.heap.size)∧Step ρ T rows w ρ' T' ab w'∧VR ρ' w' T' d v∧QH ρ rows w w'∧∀b,T' b→T b∨w.heap.size≤b
def Jc(G:Nat→Option D)(P:Program)(f:FuncId)(A:jx):Prop:=
 ∀ds rows K,A ds rows K→∀(ρ:Pl) (w:World) (T:Nat→Prop) (args:Array Value),iV ρ rows w T→(∀r,rows.length≤r→ρ r=none)→(∀b,T b→b<w.heap.size)→
  aY (VR ρ w T) ds args.toList→(∀g d,G g=some d→LR eT w T (.b5 d) (.pointer (some ⟨g,0,none⟩)))→Calls P f args w (BackQ K ρ T rows w)
def aI(C:be)(P:Program):Prop:=(∀f F,C.fn f=some F→aO C.aZ P f (Fn.run F))∧(∀f A,C.fU f=some A→aO C.aZ P f A)∧(∀f q,C.Vk f=some q→Jc C.aZ P f (KW q))
theorem aI.quiet{C:be}{P:Program}(h:aI C P):aI C.quiet P:=⟨h.1,(fun f A hA=>by cases hA),h.2.2⟩
end Go.Am

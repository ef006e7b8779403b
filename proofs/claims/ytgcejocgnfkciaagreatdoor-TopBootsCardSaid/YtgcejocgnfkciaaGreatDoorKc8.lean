import Derived.Test.YtgcejocgnfkciaaGreatDoorKc7
namespace Go.Am
set_option linter.unusedVariables false
set_option linter.unusedSimpArgs false
variable {C:be} {P:Program} {n:Nat}
theorem u6{all:List Oper}:∀{l:List Oper} {al:List aT},uN P n all l=some al→al.length=l.length∧∀(i:Nat) (o:Oper) (x:aT),l[i]?=some o→al[i]?=some x→
  NK n o.dst=true∧ZV P o.op=some x.op∧kn all o.guard=some x.guard∧x.dst=o.dst
 |[],al,h=>by simp[uN]at h;subst h;simp
 |o::l,al,h=>by
  obtain⟨ao,g,r,h0,h1,h2,h3,rfl⟩:=Be h
  obtain⟨g1,g2⟩:=u6 h3
  refine⟨by simp[g1],fun i o' x hi hx=>?_⟩
  cases i with
  |zero=>simp at hi hx;subst hi;subst hx;exact⟨h0,h1,h2,rfl⟩
  |succ i=>exact g2 i o' x (by simpa using hi) (by simpa using hx)
theorem Step.to{ρ ρ' Vw:Pl}{T T' US:Nat→Prop}{rows ab Ez:Rows}{w w' w'':World}(h:Step ρ T rows w ρ' T' ab w')(h':Step ρ' T' ab w' Vw US Ez w''):Step ρ T rows w Vw US Ez w'':=h.trans h'
theorem ex_wp(hN:∀f,C.fU f=none)(hC:aI C P){ops:Array Oper}{i:Nat}{o:Oper}{x:aT}(ho:ops[i]?=some o)(hop:ZV P o.op=some x.op)(hgd:kn ops.toList o.guard=some x.guard){env:Env}{rows ab:Rows}{d:D}{ρ:Pl}{T:Nat→Prop}{a:Act}{w:World}
  {Q':Exit→Act→World→Prop}{next:Act→World→Prop}(hs:dO n ρ T env rows a w)(hg:dM C w T)(hq:fJ o.op=true)(hx:Ex C env rows x d ab)
  (hn:∀ρ' T' v w',dO n ρ' T' env ab a w'→Step ρ T rows w ρ' T' ab w'→VR ρ' w' T' d v→(QH ρ rows w w'∧∀b,T' b→T b∨w.heap.size≤b)→next (a.put o.dst v) w'):wpOp P ops Q' i next a w:=by
 have go:∀(h:df C env rows x.op fun d2 r2=>d2=d∧r2=ab),o.wp P a w next Q':=by
  intro h
  refine uY hs hg hC hop h ?_
  rintro d2 r2 ρ' T' v w' ⟨rfl,rfl⟩ fD hst hv hk
  exact hn ρ' T' v w' fD hst hv (hk hN hq)
 have skip:d= .cA []→ab=rows→next (a.put o.dst undef) w:=by
  rintro rfl rfl
  exact hn ρ T undef w hs (Step.refl _ _ _ _) ⟨#[],rfl,.nil⟩ ⟨fun _ _=> .inl rfl,fun _ h=> .inl h⟩
 unfold wpOp
 simp only[ho]
 cases N4:o.guard with
 |none=>
  rw[N4]at hgd
  simp[kn]at hgd
  have hw:Region.wanted o (yielded ops a.tmps)=true:=by simp[Region.wanted,N4]
  rw[if_pos hw]
  refine .inl (go ?_)
  unfold Ex at hx
  rw[←hgd]at hx
  exact hx
 | some jw =>
  obtain⟨j,want⟩:=jw
  rw[N4]at hgd
  simp only[kn]at hgd
  split at hgd
  ·rename_i oj hj
   split at hgd
   ·rename_i t ht
    have hgx:x.guard=some (t,want):=by simpa using hgd.symm
    have mr:ops[j]?=some oj:=by simpa using hj
    unfold Ex at hx
    rw[hgx]at hx
    rcases hx with⟨b,EC,pS,zj⟩|⟨EC,pS,zj⟩
    ·have hb:=VR.ofRaw (hs.env t _ EC)
     have wO:a.tmps[t]?=some (.bool b):=by
      unfold Array.getD at hb
      split at hb
      ·rename_i hlt
       rw[Array.getElem?_eq_getElem hlt]
       simpa using hb
      ·cases hb
     have hy:yielded ops a.tmps j=some b:=by simp[yielded,mr,ht,wO]
     have hw:Region.wanted o (yielded ops a.tmps)=(b==want):=by
      simp only[Region.wanted,N4,hy]
      cases b<;>cases want<;>rfl
     rw[hw]
     by_cases Ss:b=want
     ·rw[if_pos (by simp[Ss])]
      exact .inl (go (pS Ss))
     ·rw[if_neg (by simpa using Ss)]
      have EG:b=!want:=by cases b<;>cases want<;>simp_all
      exact skip (zj EG).1 (zj EG).2
    ·obtain⟨vs,hvs,bY⟩:=hs.env t _ EC
     have N2:vs=#[]:=by
      have:=bY.len
      apply Array.ext'
      exact List.eq_nil_of_length_eq_zero (by simpa using this.symm)
     subst N2
     have hy:yielded ops a.tmps j=none:=by
      simp only[yielded,mr,Option.bind_some,ht]
      unfold Array.getD at hvs
      split at hvs
      ·rename_i hlt
       rw[Array.getElem?_eq_getElem hlt]
       have:a.tmps[t]= .tuple #[]:=by simpa using hvs
       rw[this]
      ·rename_i hlt
       rw[Array.getElem?_eq_none (by omega)]
     have hw:Region.wanted o (yielded ops a.tmps)=false:=by
      simp only[Region.wanted,N4,hy]
      rfl
     rw[if_neg (by rw[hw];simp)]
     exact skip pS zj
   ·cases hgd
  ·cases hgd
theorem zk(hC:aI C P){ops:Array Oper}{i:Nat}{o:Oper}{x:aT}(ho:ops[i]?=some o)(hd:NK n o.dst=true)(hop:ZV P o.op=some x.op)(hgd:kn ops.toList o.guard=some x.guard)(Sv:x.dst=o.dst){env:Env}{rows:Rows}{ρ:Pl}{T:Nat→Prop}{a:Act}{w:World}
  {Q':Exit→Act→World→Prop}{next:Act→World→Prop}{l:List aT}{K:Env→Rows→Prop}(hs:dO n ρ T env rows a w)(hg:dM C w T)(h:dt C (x::l) env rows K)
  (hn:∀env' ab ρ' T' a' w',dt C l env' ab K→dO n ρ' T' env' ab a' w'→Step ρ T rows w ρ' T' ab w'→next a' w'):wpOp P ops Q' i next a w:=by
 have je:=wq hd
 have go:∀(h:df C env rows x.op fun d rows=>dt C l (put o.dst d env) rows K),o.wp P a w next Q':=by
  intro h
  refine uY hs hg hC hop h ?_
  intro d ab ρ' T' v w' hk fD hst hv _
  exact hn _ ab ρ' T' _ w' hk (fD.put hv je) hst
 have skip:∀(h:dt C l (put o.dst (.cA []) env) rows K),next (a.put o.dst undef) w:=by
  intro h
  exact hn _ rows ρ T _ w h (hs.put ⟨#[],rfl,.nil⟩ je) (Step.refl _ _ _ _)
 unfold wpOp
 simp only[ho]
 obtain⟨dst,xo,g⟩:=x
 simp only at hop hgd Sv
 subst Sv
 cases N4:o.guard with
 |none=>
  rw[N4]at hgd
  simp[kn]at hgd
  subst hgd
  have hw:Region.wanted o (yielded ops a.tmps)=true:=by simp[Region.wanted,N4]
  rw[if_pos hw]
  exact .inl (go h)
 | some jw =>
  obtain⟨j,want⟩:=jw
  rw[N4]at hgd
  simp only[kn]at hgd
  split at hgd
  ·rename_i oj hj
   split at hgd
   ·rename_i t ht
    cases hgd
    have mr:ops[j]?=some oj:=by simpa using hj
    obtain⟨d,EC,h⟩:=ah h
    have hv:=hs.env t d EC
    split at h
    ·rename_i b
     have hb:=VR.ofRaw hv
     have wO:a.tmps[t]?=some (.bool b):=by
      unfold Array.getD at hb
      split at hb
      ·rename_i hlt
       rw[Array.getElem?_eq_getElem hlt]
       simpa using hb
      ·cases hb
     have hy:yielded ops a.tmps j=some b:=by simp[yielded,mr,ht,wO]
     have hw:Region.wanted o (yielded ops a.tmps)=(b==want):=by
      simp only[Region.wanted,N4,hy]
      cases b<;>cases want<;>rfl
     rw[hw]
     by_cases Ss:b=want
     ·rw[if_pos (by simp[Ss])]
      exact .inl (go (h.1 Ss))
     ·rw[if_neg (by simpa using Ss)]
      exact skip (h.2 (by cases b<;>cases want<;>simp_all))
    ·obtain⟨vs,hvs,bY⟩:=hv
     have N2:vs=#[]:=by
      have:=bY.len
      apply Array.ext'
      exact List.eq_nil_of_length_eq_zero (by simpa using this.symm)
     subst N2
     have hy:yielded ops a.tmps j=none:=by
      simp only[yielded,mr,Option.bind_some,ht]
      unfold Array.getD at hvs
      split at hvs
      ·rename_i hlt
       rw[Array.getElem?_eq_getElem hlt]
       have:a.tmps[t]= .tuple #[]:=by simpa using hvs
       rw[this]
      ·rename_i hlt
       rw[Array.getElem?_eq_none (by omega)]
     have hw:Region.wanted o (yielded ops a.tmps)=false:=by
      simp only[Region.wanted,N4,hy]
      rfl
     rw[if_neg (by rw[hw];simp)]
     exact skip h
    ·exact h.elim
   ·cases hgd
  ·cases hgd
def done(L:Array Bool)(j:Nat):Prop:=L.getD j false=true
theorem V9{ops:Array Oper}{i j:Nat}{o:Oper}(ho:ops[i]?=some o)(h:uF ops.toList i j=true):∃e∈o.after,Region.binds .any e=true∧e.on=j:=by
 unfold uF at h
 have:ops.toList[i]?=some o:=by simpa using ho
 rw[this]at h
 obtain⟨e,he,hb⟩:=List.any_eq_true.1 h
 simp only[Bool.and_eq_true,beq_iff_eq]at hb
 exact⟨e,by simpa using he,hb⟩
theorem iF{ops:Array Oper}{L:Array Bool}{i:Nat}(h:i∈Region.ready .any ops L):(∃o,ops[i]?=some o)∧L.getD i true=false∧∀j,uF ops.toList i j=true→done L j:=by
 obtain⟨h1,o,ho,h3⟩:=mem_ready.1 h
 refine⟨⟨o,ho⟩,h1,fun j hj=>?_⟩
 obtain⟨e,he,hb,rfl⟩:=V9 ho hj
 exact h3 e he hb
theorem u7{ops:Array Oper}{L:Array Bool}{i:Nat}(hi:i<ops.size)(h1:L.getD i true=false)(h:∀j,uF ops.toList i j=true→done L j):i∈Region.ready .any ops L:=by
 refine mem_ready.2 ⟨h1,ops[i],Array.getElem?_eq_getElem hi,fun e he hb=>?_⟩
 refine h e.on ?_
 unfold uF
 have:ops.toList[i]?=some ops[i]:=by simp[hi]
 rw[this]
 exact List.any_eq_true.2 ⟨e,by simpa using he,by simp[hb]⟩
def iW(L:Array Bool)(k:Nat):Nat:=((List.range k).filter fun j=>!L.getD j false).length
theorem jl{L:Array Bool}{i k:Nat}(hi:i<k)(hL:i<L.size)(h:L.getD i true=false):iW (L.setIfInBounds i true) k<iW L k:=by
 unfold iW
 have hf:L.getD i false=false:=by
  simp only[Array.getD,hL,dif_pos]at h⊢
  exact h
 have key : ∀ (l : List Nat), i ∈ l → ((l.filter fun j => !(L.setIfInBounds i true).getD j false).length < (l.filter fun j => !L.getD j false).length) ∨ ¬ l.Nodup := by
  intro l
  induction l with
  |nil=>intro h;cases h
  | cons x l ih =>
   intro hm
   by_cases hx:x=i
   ·subst hx
    by_cases uv:x∈l
    ·right;simp[uv]
    ·left
     have h1:(L.setIfInBounds x true).getD x false=true:=by simp[Array.getD,hL]
     have h2:∀j∈l,(!(L.setIfInBounds x true).getD j false)=!L.getD j false:=by
      intro j hj
      have:x≠j:=fun e=>uv (e▸hj)
      rw[getD_set_ne false this]
     rw[List.filter_cons,List.filter_cons]
     simp only[h1,hf,Bool.not_true,Bool.not_false,if_true,Bool.false_eq_true,if_false]
     rw[List.filter_congr h2]
     simp
   ·have uv:i∈l:=by
     rcases List.mem_cons.1 hm with h|h
     ·exact absurd h.symm hx
     ·exact h
    rcases ih uv with h|h
    ·left
     have h1:(L.setIfInBounds i true).getD x false=L.getD x false:=getD_set_ne false (fun e=>hx e.symm)
     rw[List.filter_cons,List.filter_cons,h1]
     cases hc:(!L.getD x false)
     ·simpa only[Bool.false_eq_true,if_false]using h
     ·simp only[if_true,List.length_cons];omega
    ·right;intro hn;exact h (List.nodup_cons.1 hn).2
 rcases key (List.range k) (by simpa using hi)with h|h
 ·exact h
 ·exact absurd List.nodup_range h
theorem qi{L:Array Bool}{i:Nat}(h:L.getD i true=false):¬done L i∧i<L.size:=by
 unfold done
 by_cases hh:i<L.size
 ·refine⟨?_,hh⟩
  simp only[Array.getD,hh,dif_pos]at h⊢
  rw[h];simp
 ·simp[Array.getD,hh]at h
theorem lO{L:Array Bool}{i:Nat}(h:¬done L i)(hi:i<L.size):L.getD i true=false:=by
 unfold done at h
 simp only[Array.getD,hi,dif_pos]at h⊢
 simpa using h
theorem bW{L:Array Bool}{i j:Nat}(hi:i<L.size):done (L.setIfInBounds i true) j↔done L j∨j=i:=by
 unfold done
 by_cases h:i=j
 ·subst h
  simp[Array.getD,hi]
 ·rw[getD_set_ne false h]
  constructor
  ·exact .inl
  ·rintro(h2|h2)
   ·exact h2
   ·exact absurd h2.symm h
theorem EY{ops:Array Oper}{al:List aT}{m i:Nat}{L:Array Bool}(hd:DOK ops.toList al m)(ja:∀i,done L i→∀j,uF ops.toList i j=true→done L j)(hi:i<ops.size)(hm:m≤i)(hr:∀j,uF ops.toList i j=true→done L j):
  ∀j,j<i→done L j:=by
 have key:∀(k j:Nat),i-j≤k→j<i→done L j:=by
  intro k
  induction k with
  |zero=>intro j h1 h2;omega
  |succ k ih=>
   intro j h1 h2
   rcases hd.tail i (by simpa using hi) hm j h2 with h|⟨q,Sw,N5,hq3⟩
   ·exact hr j h
   ·exact ja q (ih q (by omega) Sw) j hq3
 exact fun j hj=>key i j (by omega) hj
structure G7 (C:be) (n:Nat) (al:List aT) (m:Nat) (env:Env) (Dd:Nat→D) (R:Nat→Rows) (jj:Pl) (T0:Nat→Prop) (w0:World) (L:Array Bool) (ρ:Pl) (T:Nat→Prop) (a:Act) (w:World):Prop where
 size:a.tmps.size=n
 defers:a.defers=[]
 uo:∀b,T b→b<w.heap.size
 aZ:dM C w T
 ur:∀r,(R m).length≤r→ρ r=none
 rows:∀j,j≤m→iV (jt ρ (R j).length) (R j) w T
 hole:∀j,j<m→¬done L j→∀r,(R j).length≤r→r<(R (j+1)).length→ρ r=none
 base:∀t d,look env t=some d→(∀j,j<m→done L j→bF al j≠some t)→VR (jt ρ (R 0).length) w T d (a.tmps.getD t undef)
 out:∀j,j<m→done L j→∀t,bF al j=some t→VR (jt ρ (R (j+1)).length) w T (Dd j) (a.tmps.getD t undef)
 step:Step jj T0 (R 0) w0 ρ T (R m) w
theorem Ci{a:Act}{dst:Option Nat}{v:Value}{t:Nat}(h:dst≠some t):(a.put dst v).tmps.getD t undef=a.tmps.getD t undef:=by
 cases dst with
 |none=>rfl
 |some d=>
  have hne:d≠t:=fun e=>h (by rw[e])
  simp only[Act.put,Array.getD_eq_getD_getElem?]
  rw[Array.getElem?_setIfInBounds_ne hne]
theorem Lr{a:Act}{v:Value}{t:Nat}(h:t<a.tmps.size):(a.put (some t) v).tmps.getD t undef=v:=by
 simp[Act.put,Array.getD,h]
theorem HU{R:Nat→Rows}{m:Nat}(hR:∀i,i<m→∃new,R (i+1)=R i++new):∀(k i:Nat),i+k≤m→∃new,R (i+k)=R i++new
 |0,i,_=>⟨[],by simp⟩
 |k+1,i,h=>by
  obtain⟨new,h1⟩:=HU hR k i (by omega)
  obtain⟨new2,h2⟩:=hR (i+k) (by omega)
  exact⟨new++new2,by rw[←Nat.add_assoc,h2,h1,List.append_assoc]⟩
theorem Sx{R:Nat→Rows}{m i j:Nat}(hR:∀i,i<m→∃new,R (i+1)=R i++new)(R9:i≤j)(hj:j≤m):∃new,R j=R i++new:=by
 obtain⟨new,h⟩:=HU hR (j-i) i (by omega)
 exact⟨new,by rwa [show i+(j-i)=j by omega]at h⟩
end Go.Am
namespace Go.Am
set_option linter.unusedVariables false
set_option linter.unusedSimpArgs false
variable {C:be} {P:Program} {n:Nat}
theorem Wa{env:Env}{l:List Nat}{x:X}(h:∀t,x= .tmp t→t∈l):ev C (small env l) x=ev C env x:=by
 cases x with
 |tmp t=>simp only[ev];rw[oU (h t rfl)]
 |const _=>rfl
 |aZ _=>rfl
theorem Ex.congr{env:Env}{rows ab:Rows}{x:aT}{d:D}(h:Ex C env rows x d ab):Ex C (small env (nf x)) rows x d ab:=by
 have wv:∀y∈x.op.xs,ev C env y=ev C (small env (nf x)) y:=by
  intro y hy
  refine(Wa fun t ht=>?_).symm
  subst ht
  exact List.mem_append_left _ (sY hy)
 unfold Ex at h⊢
 split at h
 ·rename_i hg
  rw[←Bf wv];exact h
 ·rename_i s want hg
  have hs:look (small env (nf x)) s=look env s:=oU (by unfold nf;rw[hg];simp)
  rw[hs]
  rcases h with⟨b,h1,h2,h3⟩|h
  ·exact .inl ⟨b,h1,fun hb=>by rw[←Bf wv];exact h2 hb,h3⟩
  ·exact .inr h
theorem dM.keep{w w':World}{T T':Nat→Prop}(hg:dM C w T)(hw:∀b,T b→w'.heap[b]?=w.heap[b]?)(hT:∀b,T b→T' b):dM C w' T':=
 fun g d hd=>(hg g d hd).mono (fun _ _ h=>h) hw hT
structure N6 (C:be) (P:Program) (n:Nat) (ops:Array Oper) (al:List aT) (m:Nat):Prop where
 ok:V7 ops.toList al m
 co:uN P n ops.toList ops.toList=some al
 ctx:aI C P
theorem N6.get{ops:Array Oper}{al:List aT}{m:Nat}(h:N6 C P n ops al m):al.length=ops.size∧∀i,i<ops.size→∃o x,ops[i]?=some o∧al[i]?=some x∧NK n o.dst=true∧ZV P o.op=some x.op∧kn ops.toList o.guard=some x.guard∧x.dst=o.dst:=by
 obtain⟨h1,h2⟩:=u6 h.co
 have ZY:al.length=ops.size:=by simpa using h1
 refine⟨ZY,fun i hi=>?_⟩
 have hia:i<al.length:=by omega
 obtain⟨q1,q2,q3,q4⟩:=h2 i ops[i] al[i] (by simp[hi]) (by simp[hia])
 exact⟨ops[i],al[i],by simp[hi],by simp[hia],q1,q2,q3,q4⟩
theorem Ls{ops:Array Oper}{al:List aT}{m:Nat}(hD:DOK ops.toList al m)(hd:N6 C P n ops al m){K:Env→Rows→Prop}{Q':Exit→Act→World→Prop}{jj:Pl}{T0:Nat→Prop}{dG:Rows}{w0:World}
  (hK:∀env' ab ρ' T' a' w',K env' ab→dO n ρ' T' env' ab a' w'→Step jj T0 dG w0 ρ' T' ab w'→Q' .normal a' w'):
  ∀(fuel:Nat) (L:Array Bool) (k:Nat) (env:Env) (rows:Rows) (ρ:Pl) (T:Nat→Prop) (a:Act) (w:World),m≤k→k≤ops.size→ops.size-k≤fuel→L.size=ops.size→(∀j,done L j↔j<k)→
   dt C (al.drop k) env rows K→dO n ρ T env rows a w→dM C w T→Step jj T0 dG w0 ρ T rows w→wpAny P .any ops Q' fuel L a w:=by
 obtain⟨hlen,jz⟩:=hd.get
 intro fuel
 have fin:∀(L:Array Bool) (k:Nat) (env:Env) (rows:Rows) (ρ:Pl) (T:Nat→Prop) (a:Act) (w:World),k=ops.size→dt C (al.drop k) env rows K→dO n ρ T env rows a w→Step jj T0 dG w0 ρ T rows w→Q' .normal a w:=by
  intro L k env rows ρ T a w hk h hs hst
  subst hk
  rw[List.drop_eq_nil_of_le (by omega)]at h
  exact hK env rows ρ T a w h hs hst
 have noReady:∀(L:Array Bool) (k:Nat),k=ops.size→(∀j,done L j↔j<k)→Region.ready .any ops L=[]:=by
  intro L k hk hL
  cases hr:Region.ready .any ops L with
  |nil=>rfl
  |cons i l=>
   exfalso
   obtain⟨⟨o,ho⟩,h1,_⟩:=iF (L:=L) (ops:=ops) (i:=i) (by rw[hr];simp)
   have hi:i<ops.size:=(Array.getElem?_eq_some_iff.1 ho).1
   exact(qi h1).1 ((hL i).2 (by omega))
 induction fuel with
 |zero=>
  intro L k env rows ρ T a w hmk hk hf hsz hL h hs hg hst
  exact⟨noReady L k (by omega) hL,fin L k env rows ρ T a w (by omega) h hs hst⟩
 | succ fuel ih =>
  intro L k env rows ρ T a w hmk hk hf hsz hL h hs hg hst
  refine⟨fun hr=>?_,fun i hi=>?_⟩
  ·by_cases hke:k=ops.size
   ·exact fin L k env rows ρ T a w hke h hs hst
   ·exfalso
    have Nz:k<ops.size:=by omega
    have:k∈Region.ready .any ops L:=u7 Nz (lO (fun pZ=>by have:=(hL k).1 pZ;omega) (by omega)) (fun j hj=>(hL j).2 (hd.ok.back k j hj))
    rw[hr]at this
    cases this
  ·obtain⟨⟨o',N7⟩,h1,h2⟩:=iF hi
   have uv:i<ops.size:=(Array.getElem?_eq_some_iff.1 N7).1
   obtain⟨Cj,ox⟩:=qi h1
   have hik:k≤i:=by
    rcases Nat.lt_or_ge i k with h3|h3
    ·exact absurd ((hL i).2 h3) Cj
    ·exact h3
   have bY:=EY hD (fun i' hi' j hj=>(hL j).2 (Nat.lt_trans (hd.ok.back i' j hj) ((hL i').1 hi'))) uv (by omega) h2
   have hie:i=k:=by
    rcases Nat.lt_or_ge k i with h3|h3
    ·have:=(hL k).1 (bY k h3);omega
    ·omega
   subst hie
   obtain⟨o,x,ho,hx,q1,q2,q3,q4⟩:=jz i uv
   have V8:al.drop i=x::al.drop (i+1):=by
    have hlt:i<al.length:=by omega
    rw[List.drop_eq_getElem_cons hlt]
    congr 1
    rw[List.getElem?_eq_getElem hlt]at hx
    exact Option.some.inj hx
   rw[V8]at h
   refine zk hd.ctx ho q1 q2 q3 q4 hs hg h ?_
   intro env' ab ρ' T' a' w' h' fD cM
   refine ih _ (i+1) env' ab ρ' T' a' w' (by omega) (by omega) (by omega) (by simpa using hsz) (fun j=>?_) h' fD (hg.step hs cM) (hst.trans cM)
   rw[bW ox,hL j]
   omega
structure Dp (C:be) (P:Program) (n:Nat) (ops:Array Oper) (al:List aT) (m:Nat) (env:Env) (Dd:Nat→D) (R:Nat→Rows):Prop extends N6 C P n ops al m where
 nor:∀f,C.fU f=none
 tr:∀i,i<m→∃x new,al[i]?=some x∧R (i+1)=R i++new∧Ex C (lA al Dd env i) (R i) x (Dd i) (R (i+1))
section
variable {ops:Array Oper} {al:List aT} {m:Nat} {env:Env} {Dd:Nat→D} {R:Nat→Rows}
theorem Dp.pre(h:Dp C P n ops al m env Dd R){i j:Nat}(R9:i≤j)(hj:j≤m):∃new,R j=R i++new:=
 Sx (fun i hi=>by obtain⟨x,new,_,h2,_⟩:=h.tr i hi;exact⟨new,h2⟩) R9 hj
theorem Dp.le(h:Dp C P n ops al m env Dd R){i j:Nat}(R9:i≤j)(hj:j≤m):(R i).length≤(R j).length:=by
 obtain⟨new,h1⟩:=h.pre R9 hj
 rw[h1];simp
theorem Dp.liv(h:Dp C P n ops al m env Dd R){i j r:Nat}(R9:i≤j)(hj:j≤m)(hr:r<(R i).length):live (R j) r=live (R i) r:=by
 obtain⟨new,h1⟩:=h.pre R9 hj
 exact fj h1 hr
theorem Dp.Vu(h:Dp C P n ops al m env Dd R){i j t:Nat}(hi:i<m)(hj:j<m)(hne:j≠i)(ht:bF al i=some t):bF al j≠some t:=by
 obtain⟨x,o,h1,h2,_,_,h5,_⟩:=h.ok.quiet i hi
 exact h5 j hj hne t (by simpa[bF,h1]using ht)
theorem Dp.sees(h:Dp C P n ops al m env Dd R){L:Array Bool}{jj ρ:Pl}{T0 T:Nat→Prop}{a:Act}{w0 w:World}(hI:G7 C n al m env Dd R jj T0 w0 L ρ T a w){i t:Nat}{d:D}(hi:i≤m)
  (pZ:∀j,j<m→bF al j=some t→done L j∧j<i)(hl:look (lA al Dd env i) t=some d):VR (jt ρ (R i).length) w T d (a.tmps.getD t undef):=by
 by_cases hex:∃j,j<m∧bF al j=some t
 ·obtain⟨j,hj,Qs⟩:=hex
  obtain⟨h1,h2⟩:=pZ j hj Qs
  rw[u5 Qs i h2 (fun j' mr hne=>h.Vu hj (by omega) hne Qs)]at hl
  cases hl
  exact(hI.out j hj h1 t Qs).mono (Lq (h.le (by omega) hi)) (fun _ _=>rfl) (fun _ h=>h)
 ·have hno:∀j,j<m→bF al j≠some t:=fun j hj Qs=>hex ⟨j,hj,Qs⟩
  rw[uZ i (fun j hj=>hno j (by omega))]at hl
  exact(hI.base t d hl (fun j hj _=>hno j hj)).mono (Lq (h.le (by omega) hi)) (fun _ _=>rfl) (fun _ h=>h)
theorem Dp.all(h:Dp C P n ops al m env Dd R){L:Array Bool}{jj ρ:Pl}{T0 T:Nat→Prop}{a:Act}{w0 w:World}(hI:G7 C n al m env Dd R jj T0 w0 L ρ T a w)(bY:∀j,j<m→done L j):
  dO n ρ T (lA al Dd env m) (R m) a w:=by
 refine⟨⟨fun r row Lc h1 h2=>?_,fun r r' row row' Lc EZ h1 h2 h3 h4=>?_⟩,fun t d hl=>?_,hI.size,hI.uo,hI.ur,hI.defers⟩
 ·have hr:=bn h1
  have:=(hI.rows m (Nat.le_refl _)).row r row Lc h1 (by unfold jt;rw[if_pos hr];exact h2)
  exact this.mono jA (fun _ _=>rfl) (fun _ h=>h) rfl this.mj
 ·have hr:=bn h1
  have sF:=bn h2
  exact(hI.rows m (Nat.le_refl _)).jg r r' row row' Lc EZ h1 h2 (by unfold jt;rw[if_pos hr];exact h3) (by unfold jt;rw[if_pos sF];exact h4)
 ·exact(h.sees hI (Nat.le_refl _) (fun j hj _=>⟨bY j hj,hj⟩) hl).mono jA (fun _ _=>rfl) (fun _ h=>h)
theorem Dp.start(h:Dp C P n ops al m env Dd R){L:Array Bool}{ρ:Pl}{T:Nat→Prop}{a:Act}{w:World}(hs:dO n ρ T env (R 0) a w)(hg:dM C w T)(hL:∀j,¬done L j):G7 C n al m env Dd R ρ T w L ρ T a w:=by
 have fh:∀j,j≤m→∀r Lc,ρ r=some Lc→jt ρ (R j).length r=some Lc:=by
  intro j hj r Lc hr
  unfold jt
  rw[if_pos]
  ·exact hr
  ·have:=h.le (Nat.zero_le j) hj
   rcases Nat.lt_or_ge r (R 0).length with h1|h1
   ·omega
   ·rw[hs.ur r h1]at hr;cases hr
 have wP:∀r Lc,ρ r=some Lc→r<(R 0).length:=by
  intro r Lc hr
  rcases Nat.lt_or_ge r (R 0).length with h1|h1
  ·exact h1
  ·rw[hs.ur r h1]at hr;cases hr
 refine⟨hs.size,hs.defers,hs.uo,hg,fun r hr=>hs.ur r (Nat.le_trans (h.le (Nat.zero_le m) (Nat.le_refl _)) hr),fun j hj=>⟨fun r row Lc h1 h2=>?_,fun r r' row row' Lc EZ h1 h2 h3 h4=>?_⟩,
  fun j hj _ r hr _=>hs.ur r (Nat.le_trans (h.le (Nat.zero_le j) (by omega)) hr),fun t d hl _=>(hs.env t d hl).mono (fh 0 (Nat.zero_le _)) (fun _ _=>rfl) (fun _ h=>h),
  fun j hj pZ=>absurd pZ (hL j),?_⟩
 ·have h3:=jA r Lc h2
  rw[h.liv (Nat.zero_le j) hj (wP r Lc h3)]at h1
  have:=hs.bD.row r row Lc h1 h3
  exact this.mono (fh j hj) (fun _ _=>rfl) (fun _ h=>h) rfl this.mj
 ·have q3:=jA r Lc h3
  have q4:=jA r' EZ h4
  rw[h.liv (Nat.zero_le j) hj (wP r Lc q3)]at h1
  rw[h.liv (Nat.zero_le j) hj (wP r' EZ q4)]at h2
  exact hs.bD.jg r r' row row' Lc EZ h1 h2 q3 q4
 ·refine⟨fun _ _ h=>h,fun _ h=>h,fun _ h=> .inl h,Nat.le_refl _,fun _ _ _=>rfl,fun r row Lc h1 h2=>?_,rfl,rfl,rfl,h.le (Nat.zero_le m) (Nat.le_refl _),fun _ _=>rfl⟩
  rw[h.liv (Nat.zero_le m) (Nat.le_refl _) (wP r Lc h2)]at h1
  exact .inl ⟨r,row,Lc,h1,h2,rfl⟩
theorem Dp.next(h:Dp C P n ops al m env Dd R){L:Array Bool}{jj ρ ρ':Pl}{T0 T T':Nat→Prop}{a:Act}{w0 w w':World}(hI:G7 C n al m env Dd R jj T0 w0 L ρ T a w){i:Nat}(hi:i<m)(ox:i<L.size)(Cj:¬done L i)
  {env':Env}{v:Value}(Sv:∀t,bF al i=some t→t<n)(hs:dO n ρ' T' env' (R (i+1)) a w')(hst:Step (jt ρ (R i).length) T (R i) w ρ' T' (R (i+1)) w')(hv:VR ρ' w' T' (Dd i) v)(Qh:QH (jt ρ (R i).length) (R i) w w')(oD:∀b,T' b→T b∨w.heap.size≤b):
  G7 C n al m env Dd R jj T0 w0 (L.setIfInBounds i true) (fun r=>if r<(R i).length then ρ r else if r<(R (i+1)).length then ρ' r else ρ r) T' (a.put (bF al i) v) w':=by
 let G8:Pl:=fun r=>if r<(R i).length then ρ r else if r<(R (i+1)).length then ρ' r else ρ r
 show G7 C n al m env Dd R jj T0 w0 (L.setIfInBounds i true) G8 T' (a.put (bF al i) v) w'
 have hle:(R i).length≤(R (i+1)).length:=h.le (by omega) (by omega)
 have hw:∀b,T b→w'.heap[b]?=w.heap[b]?:=fun b hb=>by
  rcases Qh b (hI.uo b hb)with h1|⟨_,r,row,Lc,h2,h3,rfl⟩
  ·exact h1
  ·exact absurd hb ((hI.rows i (by omega)).row r row Lc h2 h3).mj
 --old and new places
 have e1:∀r,r<(R i).length→G8 r=ρ r:=fun r hr=>by simp only[G8];rw[if_pos hr]
 have e2:∀r,(R i).length≤r→r<(R (i+1)).length→G8 r=ρ' r:=fun r hr sF=>by simp only[G8];rw[if_neg (by omega),if_pos sF]
 have e3:∀r,(R (i+1)).length≤r→G8 r=ρ r:=fun r hr=>by simp only[G8];rw[if_neg (by omega),if_neg (by omega)]
 have hA:∀r Lc,ρ r=some Lc→G8 r=some Lc:=by
  intro r Lc hr
  rcases Nat.lt_or_ge r (R i).length with h1|h1
  ·rw[e1 r h1];exact hr
  ·rcases Nat.lt_or_ge r (R (i+1)).length with h2|h2
   ·rw[hI.hole i hi Cj r h1 h2]at hr;cases hr
   ·rw[e3 r h2];exact hr
 have hB:∀r Lc,ρ' r=some Lc→G8 r=some Lc∧r<(R (i+1)).length:=by
  intro r Lc hr
  rcases Nat.lt_or_ge r (R (i+1)).length with h2|h2
  ·refine⟨?_,h2⟩
   rcases Nat.lt_or_ge r (R i).length with h1|h1
   ·rw[e1 r h1]
    have:=hst.same r h1
    rw[this]at hr
    exact jA r Lc hr
   ·rw[e2 r h1 h2];exact hr
  ·rw[hs.ur r h2]at hr;cases hr
 have U1:∀k r Lc,jt ρ k r=some Lc→jt G8 k r=some Lc:=by
  intro k r Lc hr
  unfold jt at hr⊢
  split at hr
  ·rename_i hlt;rw[if_pos hlt];exact hA r Lc hr
  ·cases hr
 have hBr:∀k,(R (i+1)).length≤k→∀r Lc,ρ' r=some Lc→jt G8 k r=some Lc:=by
  intro k hkk r Lc hr
  obtain⟨h1,h2⟩:=hB r Lc hr
  unfold jt
  rw[if_pos (by omega)];exact h1
 --a place is old or new
 have Lt : ∀ j, j ≤ m → ∀ r row Lc, live (R j) r = some row → G8 r = some Lc → (ρ r = some Lc) ∨ ((R i).length ≤ r ∧ r < (R (i + 1)).length ∧ ρ' r = some Lc ∧ live (R (i + 1)) r = some row ∧ w.heap.size ≤ Lc.b ∧ i + 1 ≤ j) := by
  intro j hj r row Lc hl hr
  rcases Nat.lt_or_ge r (R i).length with h1|h1
  ·exact .inl (by rw[←e1 r h1];exact hr)
  ·rcases Nat.lt_or_ge r (R (i+1)).length with h2|h2
   ·rw[e2 r h1 h2]at hr
    have R9:i+1≤j:=by
     rcases Nat.lt_or_ge i j with h3|h3
     ·exact h3
     ·have:=h.le h3 (by omega)
      have:=bn hl
      omega
    have mh:live (R (i+1)) r=some row:=by rw[←h.liv R9 hj h2];exact hl
    refine .inr ⟨h1,h2,hr,mh,?_,R9⟩
    rcases hst.fresh r row Lc mh hr with⟨r0,oR,L0,q1,q2,q3⟩|q
    ·exfalso
     have hr0:=bn q1
     have q4:live (R (i+1)) r0=some oR:=by rw[h.liv (by omega) (by omega) hr0];exact q1
     exact hs.bD.jg r0 r oR row L0 Lc q4 mh (hst.pl r0 L0 q2) hr (by omega) q3
    ·exact q
   ·exact .inl (by rw[←e3 r h2];exact hr)
 have hold:∀j,j≤m→∀r row Lc,live (R j) r=some row→ρ r=some Lc→lH (jt ρ (R j).length) row Lc w T:=by
  intro j hj r row Lc hl hr
  refine(hI.rows j hj).row r row Lc hl ?_
  unfold jt;rw[if_pos (bn hl)];exact hr
 refine⟨?_,?_,hs.uo,hI.aZ.keep hw hst.tt,fun r hr=>?_,fun j hj=>⟨fun r row Lc h1 h2=>?_,fun r r' row row' Lc EZ h1 h2 h3 h4 hne=>?_⟩,fun j hj pZ r h1 h2=>?_,fun t d hl hno=>?_,fun j hj pZ t ht=>?_,?_⟩
 ·cases hdd:bF al i with
  |none=>exact hI.size
  |some t=>simpa[Act.put]using hI.size
 ·cases hdd:bF al i with
  |none=>exact hI.defers
  |some t=>simpa[Act.put]using hI.defers
 ·have:=h.le (i:=i+1) (j:=m) (by omega) (Nat.le_refl _)
  rw[e3 r (by omega)]
  exact hI.ur r hr
 ·rcases Lt j hj r row Lc h1 (jA r Lc h2)with h3|⟨q1,q2,q3,q4,q5,q6⟩
  ·have hro:=hold j hj r row Lc h1 h3
   refine hro.Vv (U1 _) hw hst.tt ((Qh _ hro.lt).imp_right (·.1)) (fun hT=>?_)
   rcases oD _ hT with h4|h4
   ·exact hro.mj h4
   ·have:=hro.lt;omega
  ·have hro:=hs.bD.row r row Lc q4 q3
   exact hro.mono (hBr _ (h.le q6 hj)) (fun _ _=>rfl) (fun _ h=>h) rfl hro.mj
 ·rcases Lt j hj r row Lc h1 (jA r Lc h3)with p|⟨q1,q2,q3,q4,q5,q6⟩
  ·rcases Lt j hj r' row' EZ h2 (jA r' EZ h4)with p'|⟨q1',q2',q3',q4',q5',q6'⟩
   ·refine(hI.rows j hj).jg r r' row row' Lc EZ h1 h2 ?_ ?_ hne
    ·unfold jt;rw[if_pos (bn h1)];exact p
    ·unfold jt;rw[if_pos (bn h2)];exact p'
   ·have:=(hold j hj r row Lc h1 p).lt;omega
  ·rcases Lt j hj r' row' EZ h2 (jA r' EZ h4)with p'|⟨q1',q2',q3',q4',q5',q6'⟩
   ·have:=(hold j hj r' row' EZ h2 p').lt;omega
   ·exact hs.bD.jg r r' row row' Lc EZ q4 q4' q3 q3' hne
 ·have hne:j≠i:=fun e=>pZ ((bW ox).2 (.inr e))
  have hnd':¬done L j:=fun hh=>pZ ((bW ox).2 (.inl hh))
  rcases Nat.lt_or_gt_of_ne hne with h3|h3
  ·have:=h.le (i:=j+1) (j:=i) (by omega) (by omega)
   rw[e1 r (by omega)]
   exact hI.hole j hj hnd' r h1 h2
  ·have:=h.le (i:=i+1) (j:=j) (by omega) (by omega)
   rw[e3 r (by omega)]
   exact hI.hole j hj hnd' r h1 h2
 ·rw[Ci (hno i hi ((bW ox).2 (.inr rfl)))]
  exact(hI.base t d hl (fun j hj pZ=>hno j hj ((bW ox).2 (.inl pZ)))).mono (U1 _) hw hst.tt
 ·by_cases Qt:j=i
  ·subst Qt
   rw[ht,Lr (by rw[hI.size];exact Sv t ht)]
   exact hv.mono (hBr _ (Nat.le_refl _)) (fun _ _=>rfl) (fun _ h=>h)
  ·have hdn':done L j:=by
    rcases(bW ox).1 pZ with h1|h1
    ·exact h1
    ·exact absurd h1 Qt
   rw[Ci (h.Vu hj hi (fun e=>Qt e.symm) ht)]
   exact(hI.out j hj hdn' t ht).mono (U1 _) hw hst.tt
 ·have Ce:=hI.step
  refine⟨fun r Lc hr=>hA r Lc (Ce.pl r Lc hr),fun b hb=>hst.tt b (Ce.tt b hb),fun b hb=>?_,Nat.le_trans Ce.size hst.size,fun b hb hn=>?_,fun r row Lc h1 h2=>?_,hst.os.trans Ce.os,hst.tape.trans Ce.tape,hst.output.trans Ce.output,Ce.len,fun r hr=>?_⟩
  ·rcases oD b hb with h1|h1
   ·exact Ce.um b h1
   ·exact .inr (.inl (Nat.le_trans Ce.size h1))
  ·rcases Qh b (Nat.lt_of_lt_of_le hb Ce.size)with h1|⟨_,r,row,Lc,h2,h3,h4⟩
   ·rw[h1]
    exact Ce.keep b hb hn
   ·exfalso
    have h5:live (R m) r=some row:=by rw[h.liv (by omega) (Nat.le_refl _) (bn h2)];exact h2
    rcases Ce.fresh r row Lc h5 (jA r Lc h3)with⟨r0,oR,L0,q1,q2,q3⟩|q
    ·exact hn r0 oR L0 q1 q2 (q3.trans h4)
    ·omega
  ·rcases Lt m (Nat.le_refl _) r row Lc h1 h2 with p|⟨q1,q2,q3,q4,q5,q6⟩
   ·exact Ce.fresh r row Lc h1 p
   ·exact .inr (Nat.le_trans Ce.size q5)
  ·have:=h.le (i:=0) (j:=i) (by omega) (by omega)
   rw[e1 r (by omega)]
   exact Ce.same r hr
theorem Dp.any (hD : DOK ops.toList al m) (h : Dp C P n ops al m env Dd R) {C' : be} (hC' : aI C' P) (hGl : ∀ w T, dM C w T → dM C' w T) {K : Env → Rows → Prop} {Q' : Exit → Act → World → Prop} {jj : Pl} {T0 : Nat → Prop} {w0 : World} (Qu : dt C' (al.drop m) (lA al Dd env m) (R m) K)
  (hK:∀env' ab ρ' T' a' w',K env' ab→dO n ρ' T' env' ab a' w'→Step jj T0 (R 0) w0 ρ' T' ab w'→Q' .normal a' w'):
  ∀(fuel:Nat) (L:Array Bool) (ρ:Pl) (T:Nat→Prop) (a:Act) (w:World),iW L ops.size≤fuel→L.size=ops.size→(∀j,done L j→j<m)→(∀i,done L i→∀j,uF ops.toList i j=true→done L j)→G7 C n al m env Dd R jj T0 w0 L ρ T a w→wpAny P .any ops Q' fuel L a w:=by
 obtain⟨hlen,jz⟩:=h.toN6.get
 have hm:m≤ops.size:=by have:=h.ok.le;simpa using this
 intro fuel
 induction fuel with
 | zero =>
  intro L ρ T a w hf hsz Nx ja hI
  have bY:∀j,j<ops.size→done L j:=by
   intro j hj
   refine Classical.byContradiction fun hn=>?_
   have:=jl hj (by omega) (lO hn (by omega))
   omega
  have hs:=h.all hI (fun j hj=>bY j (by omega))
  have hme:m=ops.size:=by
   rcases Nat.lt_or_ge m ops.size with h1|h1
   ·have:=Nx m (bY m h1);omega
   ·omega
  exact Ls hD (C:=C') ⟨h.ok,h.co,hC'⟩ hK 0 L m _ _ ρ T a w (Nat.le_refl _) hm (by omega) hsz (fun j=>⟨Nx j,fun hj=>bY j (by omega)⟩) Qu hs (hGl _ _ hI.aZ) hI.step
 | succ fuel ih =>
  intro L ρ T a w hf hsz Nx ja hI
  by_cases bY:∀j,j<m→done L j
  ·have hs:=h.all hI bY
   refine Ls hD (C:=C') ⟨h.ok,h.co,hC'⟩ hK (fuel+1) L m _ _ ρ T a w (Nat.le_refl _) hm ?_ hsz (fun j=>⟨Nx j,bY j⟩) Qu hs (hGl _ _ hI.aZ) hI.step
   have:∀k,k≤ops.size→m≤k→k-m≤iW L k:=by
    intro k
    induction k with
    |zero=>intro _ _;omega
    | succ k ihk =>
     intro h1 h2
     rcases Nat.lt_or_ge k m with h3|h3
     ·omega
     ·have:=ihk (by omega) h3
      have hnk:L.getD k false=false:=by
       cases hb:L.getD k false with
       |false=>rfl
       |true=>have:=Nx k hb;omega
      have hu:iW L (k+1)=iW L k+1:=by
       unfold iW
       rw[List.range_succ,List.filter_append,List.filter_cons,hnk]
       simp only[Bool.not_false,if_true,List.filter_nil,List.length_append,List.length_cons,List.length_nil]
      omega
   have:=this ops.size (Nat.le_refl _) hm
   omega
  ·have hex : ∃ j, j < m ∧ ¬ done L j := by
    refine Classical.byContradiction fun hne=>?_
    exact bY fun j hj=>by
     refine Classical.byContradiction fun hn=>?_
     exact hne ⟨j,hj,hn⟩
   refine⟨fun hr=>?_,fun i hi=>?_⟩
   ·exfalso
    --the least one not done is ready
    have key : ∀ k, (∀ j, j < k → j < m → done L j) ∨ ∃ j, j < k ∧ j < m ∧ ¬ done L j ∧ ∀ j', j' < j → done L j' := by
     intro k
     induction k with
     |zero=>left;intro j hj;omega
     | succ k ihk =>
      rcases ihk with h1|⟨j,q1,q2,q3,q4⟩
      ·by_cases hk:k<m∧¬done L k
       ·right
        exact⟨k,by omega,hk.1,hk.2,fun j' mr=>h1 j' mr (by omega)⟩
       ·left
        intro j hj hjm
        rcases Nat.lt_or_ge j k with h3|h3
        ·exact h1 j h3 hjm
        ·have:j=k:=by omega
         subst this
         refine Classical.byContradiction fun hn=>?_
         exact hk ⟨hjm,hn⟩
      ·right;exact⟨j,by omega,q2,q3,q4⟩
    rcases key m with h1|⟨j,q1,q2,q3,q4⟩
    ·exact bY fun j hj=>h1 j hj hj
    ·have:j∈Region.ready .any ops L:=u7 (by omega) (lO q3 (by omega)) (fun j' mr=>q4 j' (h.ok.back j j' mr))
     rw[hr]at this
     cases this
   ·obtain⟨⟨o',N7⟩,h1,h2⟩:=iF hi
    have uv:i<ops.size:=(Array.getElem?_eq_some_iff.1 N7).1
    obtain⟨Cj,ox⟩:=qi h1
    have KK:i<m:=by
     rcases Nat.lt_or_ge i m with h3|h3
     ·exact h3
     ·exfalso
      have:=EY hD ja uv h3 h2
      obtain⟨j,hj,hn⟩:=hex
      exact hn (this j (by omega))
    obtain⟨o,x,ho,hx,q1,q2,q3,q4⟩:=jz i uv
    obtain⟨x',new,hx',hR,hE⟩:=h.tr i KK
    rw[hx]at hx'
    cases hx'
    obtain⟨x',o',hx',ho'',hqa,hqo,_,hu⟩:=h.ok.quiet i KK
    rw[hx]at hx'
    cases hx'
    have ho3:ops[i]?=some o':=by simpa using ho''
    rw[ho]at ho3
    cases ho3
    have hs:dO n (jt ρ (R i).length) T (small (lA al Dd env i) (nf x)) (R i) a w:=by
     refine⟨hI.rows i (by omega),fun t d hl=>?_,hI.size,hI.uo,fun r hr=>?_,hI.defers⟩
     ·obtain⟨ht,hl⟩:=ww hl
      refine h.sees hI (by omega) (fun j hj Qs=>?_) hl
      have:=hu t ht j hj Qs
      exact⟨h2 j this,h.ok.back i j this⟩
     ·unfold jt;rw[if_neg (by omega)]
    have qY:bF al i=o.dst:=by simp[bF,hx,q4]
    refine ex_wp h.nor h.ctx ho q2 q3 hs hI.aZ hqo hE.congr ?_
    intro ρ' T' v w' fD cM kU Lf
    have Lu:=h.next hI KK ox Cj (fun t ht=>wq q1 t (by rw[←qY];exact ht)) fD cM kU Lf.1 Lf.2
    rw[qY]at Lu
    refine ih _ _ T' _ w' ?_ (by simpa using hsz) (fun j hj=>?_) (fun i' hi' j hj=>?_) Lu
    ·have:=jl uv ox h1
     omega
    ·rcases(bW ox).1 hj with h3|h3
     ·exact Nx j h3
     ·omega
    ·refine(bW ox).2 (.inl ?_)
     rcases(bW ox).1 hi' with h3|h3
     ·exact ja i' h3 j hj
     ·subst h3;exact h2 j hj
end
theorem E0(hN:∀f,C.fU f=none)(hC:aI C P)(hP:P.follows .mixedOrders=true){id:Nat}{ops:Array Oper}{al:List aT}(hc:uN P n ops.toList ops.toList=some al)(hd:NL ops.toList al=true)
  {env:Env}{rows:Rows}{ρ:Pl}{T:Nat→Prop}{a:Act}{w:World}{Q:fa→Env→Rows→Prop}{Q':Exit→Act→World→Prop}(h:dt C al env rows (Q .normal))(hs:dO n ρ T env rows a w)(hg:dM C w T)
  (hp:Post n ρ T rows w Q Q'):(Code.region id ops true).wp P Q' a w:=by
 obtain⟨m,_,hm⟩:=List.any_eq_true.1 hd
 have hok:=Lp hm
 have hlen:=(u6 hc).1
 have hq:∀i,i<m→∃x,al[i]?=some x∧ko x.op=true:=by
  intro i hi
  obtain⟨x,o,h1,_,h3,_⟩:=hok.quiet i hi
  exact⟨x,h1,h3⟩
 obtain⟨Dd,R,h0,h1,h2⟩:=trace hN m (by rw[hlen];exact hok.le) hq h
 subst h0
 have hrun:Dp C P n ops al m env Dd R:=⟨⟨hok.toV7,hc,hC⟩,hN,h1⟩
 have hw1:dO n ρ T env (R 0) a {w with drawn:=w.drawn+1}:=hs.heap rfl
 have Sy:dM C {w with drawn:=w.drawn+1} T:=hg.keep (fun _ _=>rfl) (fun _ h=>h)
 have N8:∀j,¬done (Array.replicate ops.size false) j:=by
  intro j hj
  unfold done at hj
  simp[Array.getD]at hj
 refine wp_region_any hP (hrun.any hok hC (fun _ _ h=>h) h2 (w0:={w with drawn:=w.drawn+1}) (jj:=ρ) (T0:=T) ?_ ops.size _ ρ T a _ ?_ (by simp) (fun j hj=>absurd hj (N8 j)) (fun i hi=>absurd hi (N8 i)) (hrun.start hw1 Sy N8))
 ·intro env' ab ρ' T' a' w' hk fD cM
  exact hp .normal env' ab ρ' T' a' w' hk fD ⟨cM.pl,cM.tt,cM.um,cM.size,cM.keep,cM.fresh,cM.os,cM.tape,cM.output,cM.len,cM.same⟩
 ·unfold iW
  exact Nat.le_trans (List.length_filter_le _ _) (by simp)
end Go.Am
namespace Go.Am
set_option linter.unusedVariables false
set_option linter.unusedSimpArgs false
variable {C:be} {P:Program} {n:Nat}
def Lv(env:Env)(ts:List Nat):Env:=env.filter fun p=>!ts.contains p.1
theorem ru(ts:List Nat)(t:Nat):∀(env:Env),look (Lv env ts) t=if t∈ts then none else look env t
 |[]=>by simp[Lv,look]
 | (k, d) :: env => by
  have ih:=ru ts t env
  simp only[Lv,List.filter_cons]at ih⊢
  by_cases hk:k∈ts
  ·have:(!ts.contains k)=false:=by simp[hk]
   simp only[this]
   rw[if_neg (by simp),ih]
   by_cases ht:t∈ts
   ·simp[ht]
   ·have:(k==t)=false:=by
     have:k≠t:=fun e=>ht (e▸hk)
     simpa using this
    simp[ht,look,this]
  ·have:(!ts.contains k)=true:=by simp[hk]
   simp only[this,if_true,look]
   cases hkt:(k==t)with
   |true=>
    have:k=t:=by simpa using hkt
    subst this
    simp[hk]
   |false=>simpa using ih
def undL(al:List aT)(m:Nat)(L:Array Bool):List Nat:=(List.range m).filterMap fun j=>bif L.getD j false then none else bF al j
theorem Lw{al:List aT}{m:Nat}{L:Array Bool}{t:Nat}:t∈undL al m L↔∃j,j<m∧¬done L j∧bF al j=some t:=by
 unfold undL done
 rw[List.mem_filterMap]
 constructor
 ·rintro⟨j,hj,h⟩
  cases hb:L.getD j false with
  |true=>rw[hb]at h;cases h
  |false=>rw[hb]at h;exact⟨j,by simpa using hj,by rw[hb];simp,h⟩
 ·rintro⟨j,hj,h1,h2⟩
  refine⟨j,by simpa using hj,?_⟩
  have:L.getD j false=false:=by simpa using h1
  rw[this];exact h2
def gV(al:List aT)(m:Nat)(L:Array Bool)(env:Env):Env:=Lv env (undL al m L)
theorem rv{al:List aT}{m:Nat}{L:Array Bool}{env:Env}{t:Nat}(h:∀j,j<m→¬done L j→bF al j≠some t):look (gV al m L env) t=look env t:=by
 unfold gV
 rw[ru,if_neg]
 rw[Lw]
 rintro⟨j,h1,h2,h3⟩
 exact h j h1 h2 h3
theorem mX{al:List aT}{m:Nat}{L:Array Bool}{env:Env}{t:Nat}{d:D}(h:look (gV al m L env) t=some d):look env t=some d∧∀j,j<m→¬done L j→bF al j≠some t:=by
 unfold gV at h
 rw[ru]at h
 split at h
 ·cases h
 ·rename_i hn
  refine⟨h,fun j h1 h2 h3=>hn (Lw.2 ⟨j,h1,h2,h3⟩)⟩
theorem dO.ext{ρ:Pl}{T:Nat→Prop}{env env':Env}{rows:Rows}{a:Act}{w:World}(h:dO n ρ T env rows a w)(he:∀t d,look env' t=some d→look env t=some d):dO n ρ T env' rows a w:=
 ⟨h.bD,fun t d hd=>h.env t d (he t d hd),h.size,h.uo,h.ur,h.defers⟩
def KH(dst:Option Nat)(hd env:Env)(K0:Env→Rows→Prop):Env→Rows→Prop:=fun env' rows=>match dst with
 |some t=>∃d,env'=(t,d)::hd∧K0 ((t,d)::env) rows
 |none=>env'=hd∧K0 env rows
theorem Jd(dst:Option Nat)(hd env:Env)(K0:Env→Rows→Prop)(d:D)(rows:Rows):KH dst hd env K0 (put dst d hd) rows=K0 (put dst d env) rows:=by
 cases dst with
 |none=>simp[KH,put]
 | some t =>
  simp only[KH,put]
  apply propext
  constructor
  ·rintro⟨d',h1,h2⟩
   cases h1
   exact h2
  ·intro h
   exact⟨d,rfl,h⟩
theorem zm{x:aT}{hd env:Env}{rows:Rows}{K0:Env→Rows→Prop}(wv:∀t,t∈nf x→look hd t=look env t)(h:dt C [x] env rows K0):dt C [x] hd rows (KH x.dst hd env K0):=by
 obtain⟨dst,o,g⟩:=x
 have hx:∀y∈o.xs,ev C hd y=ev C env y:=by
  intro y hy
  cases y with
  |tmp t=>exact wv t (List.mem_append_left _ (sY hy))
  |const _=>rfl
  |aZ _=>rfl
 have hop:∀k:D→Rows→Prop,df C hd rows o k=df C env rows o k:=fun k=>Bf hx k
 have e1:(fun d rows=>dt C [] (put dst d hd) rows (KH dst hd env K0))=fun d rows=>dt C [] (put dst d env) rows K0:=by
  funext d r
  exact Jd dst hd env K0 d r
 cases g with
 |none=>
  show df C hd rows o (fun d rows=>dt C [] (put dst d hd) rows (KH dst hd env K0))
  rw[e1,hop]
  exact h
 | some gw =>
  obtain⟨g,want⟩:=gw
  have hg:look hd g=look env g:=wv g (by simp[nf])
  have h':=h
  simp only[dt]at h'⊢
  rw[hg]
  obtain⟨v,hv,hk⟩:=ah h'
  rw[hv]
  split at hk
  ·rename_i t
   show((t=want→df C hd rows o fun d rows=>KH dst hd env K0 (put dst d hd) rows)∧(t=!want→KH dst hd env K0 (put dst (.cA []) hd) rows))
   refine⟨fun ht=>?_,fun ht=>?_⟩
   ·have e2:(fun d rows=>KH dst hd env K0 (put dst d hd) rows)=fun d rows=>K0 (put dst d env) rows:=by
     funext d r
     exact Jd dst hd env K0 d r
    rw[e2,hop]
    exact hk.1 ht
   ·rw[Jd];exact hk.2 ht
  ·show KH dst hd env K0 (put dst (.cA []) hd) rows
   rw[Jd];exact hk
  ·exact hk.elim
theorem jS{ops:Array Oper}{L:Array Bool}(ja:∀i,done L i→∀j,uF ops.toList i j=true→done L j):∀(f i j:Nat),(∀j,uF ops.toList i j=true→done L j)→G6 ops.toList f i j=true→done L j
 |0,i,j,_,h=>by simp[G6]at h
 | f + 1, i, j, hd, h => by
  simp only[G6,Bool.or_eq_true]at h
  rcases h with h|h
  ·exact hd j h
  ·obtain⟨k,_,hk⟩:=List.any_eq_true.1 h
   simp only[Bool.and_eq_true]at hk
   exact jS ja f k j (fun q hq=>ja k (hd k hk.1) q hq) hk.2
theorem Bh{env:Env}{rows:Rows}:∀{l:List aT} {y:aT},ra C env rows l→y∈l→df C env rows y.op (yZ env rows y.dst)
 |[],y,_,h=>by simp at h
 |x::l,y,h,hy=>by
  rcases List.mem_cons.1 hy with rfl|hy
  ·exact h.1
  ·exact Bh h.2 hy
theorem Sz {ops : Array Oper} {al : List aT} {m : Nat} (hD : DOK2 ops.toList al m) (hd : N6 C P n ops al m) {K : Env → Rows → Prop} {Q' : Exit → Act → World → Prop} {jj : Pl} {T0 : Nat → Prop} {dG : Rows} {w0 : World}
  (hK:∀env' ab ρ' T' a' w',K env' ab→dO n ρ' T' env' ab a' w'→Step jj T0 dG w0 ρ' T' ab w'→Q' .normal a' w'):
  ∀(fuel:Nat) (L:Array Bool) (k:Nat) (env:Env) (rows:Rows) (ρ:Pl) (T:Nat→Prop) (a:Act) (w:World),m≤k→k≤ops.size→iW L ops.size≤fuel→L.size=ops.size→(∀j,k≤j→¬done L j)→(∀j,m≤j→j<k→done L j)→
   (∀i,done L i→∀j,uF ops.toList i j=true→done L j)→(∀j,j<m→¬done L j→∃y,al[j]?=some y∧y.guard=none∧(∃t,y.dst=some t)∧df C env rows y.op (yZ env rows y.dst))→
   uM C (B9 ops.toList al m k (ops.size-k)) env rows K→dO n ρ T (gV al m L env) rows a w→dM C w T→Step jj T0 dG w0 ρ T rows w→wpAny P .any ops Q' fuel L a w:=by
 obtain⟨hlen,jz⟩:=hd.get
 intro fuel
 have fin:∀(L:Array Bool) (k:Nat) (env:Env) (rows:Rows) (ρ:Pl) (T:Nat→Prop) (a:Act) (w:World),k=ops.size→(∀j,j<ops.size→done L j)→m≤k→uM C (B9 ops.toList al m k (ops.size-k)) env rows K→dO n ρ T (gV al m L env) rows a w→Step jj T0 dG w0 ρ T rows w→Q' .normal a w:=by
  intro L k env rows ρ T a w hk bY hmk h hs hst
  subst hk
  rw[Nat.sub_self]at h
  exact hK env rows ρ T a w h (hs.ext fun t d hl=>by rw[rv (fun j hj hn=>absurd (bY j (by omega)) hn)];exact hl) hst
 have VV : ∀ (L : Array Bool), L.size = ops.size → (∃ j, j < ops.size ∧ ¬ done L j) → ∃ j, j ∈ Region.ready .any ops L := by
  intro L hsz ⟨j,hj,hn⟩
  have key : ∀ q, (∀ j, j < q → done L j) ∨ ∃ j, j < q ∧ ¬ done L j ∧ ∀ j', j' < j → done L j' := by
   intro q
   induction q with
   |zero=>left;intro j hj;omega
   | succ q ih =>
    rcases ih with h1|⟨j,q1,q2,q3⟩
    ·by_cases hq:done L q
     ·left;intro j hj
      rcases Nat.lt_or_ge j q with h2|h2
      ·exact h1 j h2
      ·have:j=q:=by omega
       subst this;exact hq
     ·exact .inr ⟨q,by omega,hq,h1⟩
    ·exact .inr ⟨j,by omega,q2,q3⟩
  rcases key ops.size with h1|⟨j',q1,q2,q3⟩
  ·exact absurd (h1 j hj) hn
  ·exact⟨j',u7 q1 (lO q2 (by omega)) (fun j'' hj''=>q3 j'' (hd.ok.back j' j'' hj''))⟩
 have Je:∀(L:Array Bool),L.size=ops.size→Region.ready .any ops L=[]→∀j,j<ops.size→done L j:=by
  intro L hsz hr j hj
  refine Classical.byContradiction fun hn=>?_
  obtain⟨i,hi⟩:=VV L hsz ⟨j,hj,hn⟩
  rw[hr]at hi
  cases hi
 have kend:∀(L:Array Bool) (k:Nat),k≤ops.size→(∀j,k≤j→¬done L j)→(∀j,j<ops.size→done L j)→k=ops.size:=by
  intro L k hk h1 h2
  rcases Nat.lt_or_ge k ops.size with h3|h3
  ·exact absurd (h2 k h3) (h1 k (Nat.le_refl _))
  ·omega
 induction fuel with
 | zero =>
  intro L k env rows ρ T a w hmk hk hf hsz UW hlo ja hob h hs hg hst
  have bY:∀j,j<ops.size→done L j:=by
   intro j hj
   refine Classical.byContradiction fun hn=>?_
   have:=jl hj (by omega) (lO hn (by omega))
   omega
  have hke:=kend L k hk UW bY
  refine⟨?_,fin L k env rows ρ T a w hke bY hmk h hs hst⟩
  cases hr:Region.ready .any ops L with
  |nil=>rfl
  |cons i l=>
   exfalso
   obtain⟨⟨o,ho⟩,h1,_⟩:=iF (L:=L) (ops:=ops) (i:=i) (by rw[hr];simp)
   exact(qi h1).1 (bY i (Array.getElem?_eq_some_iff.1 ho).1)
 | succ fuel ih =>
  intro L k env rows ρ T a w hmk hk hf hsz UW hlo ja hob h hs hg hst
  refine⟨fun hr=>?_,fun i hi=>?_⟩
  ·have bY:=Je L hsz hr
   exact fin L k env rows ρ T a w (kend L k hk UW bY) bY hmk h hs hst
  ·obtain⟨⟨o',N7⟩,h1,h2⟩:=iF hi
   have uv:i<ops.size:=(Array.getElem?_eq_some_iff.1 N7).1
   obtain⟨Cj,ox⟩:=qi h1
   obtain⟨o,x,ho,hx,q1,q2,q3,q4⟩:=jz i uv
   have SA:iW (L.setIfInBounds i true) ops.size≤fuel:=by have:=jl uv ox h1;omega
   have SB:∀i',done (L.setIfInBounds i true) i'→∀j,uF ops.toList i' j=true→done (L.setIfInBounds i true) j:=by
    intro i' hi' j hj
    refine(bW ox).2 (.inl ?_)
    rcases(bW ox).1 hi' with h3|h3
    ·exact ja i' h3 j hj
    ·subst h3;exact h2 j hj
   rcases Nat.lt_or_ge i m with KK|KK
   · -- a quiet one that comes late
    obtain⟨y,hy,hyg,⟨t,E1⟩,hya⟩:=hob i KK Cj
    rw[hx]at hy
    cases hy
    obtain⟨x',o2,hx',ho2,hqa,hqo,_,hu⟩:=hD.quiet i KK
    rw[hx]at hx'
    cases hx'
    have wv:∀t',t'∈nf x→look (gV al m L env) t'=look env t':=fun t' wO=>rv fun j hj hn he=>hn (h2 j (hu t' wO j hj he))
    have hst1:dt C [x] env rows (fun env' ab=>env'=put x.dst ((look env t).getD default) env∧look env t=some ((look env t).getD default)∧ab=rows):=by
     obtain⟨dst,op,g⟩:=x
     simp only at hyg E1
     subst hyg
     subst E1
     show df C env rows op _
     have e:(fun d ab=>dt C [] (put (some t) d env) ab fun env' ab=>env'=put (some t) ((look env t).getD default) env∧look env t=some ((look env t).getD default)∧ab=rows)=yZ env rows (some t):=by
      funext d r
      simp only[dt,yZ,put]
      apply propext
      constructor
      ·rintro⟨e1,e2,e3⟩
       cases e1
       exact⟨e2,e3⟩
      ·rintro⟨e1,e2⟩
       rw[e1]
       exact⟨rfl,rfl,e2⟩
     rw[e]
     exact hya
    refine zk hd.ctx ho q1 q2 q3 q4 hs hg (zm wv hst1) ?_
    intro env' ab ρ' T' a' w' h' fD cM
    rw[E1]at h'
    obtain⟨d,rfl,h3,h4,rfl⟩:=h'
    have HV:look env t=some d:=by
     simp only[put,E1]at h3
     cases h3
     exact h4
    have hti:bF al i=some t:=by simp[bF,hx,E1]
    refine ih _ k env ab ρ' T' a' w' hmk hk SA (by simpa using hsz) (fun j hj pZ=>?_) (fun j hj Wb=>(bW ox).2 (.inl (hlo j hj Wb))) SB (fun j hj hn=>hob j hj (fun pZ=>hn ((bW ox).2 (.inl pZ)))) h
     (fD.ext fun t' d' hl=>?_) (hg.step hs cM) (hst.trans cM)
    ·rcases(bW ox).1 pZ with h5|h5
     ·exact UW j hj h5
     ·omega
    ·obtain⟨h5,h6⟩:=mX hl
     simp only[look]
     cases Qv:(t==t')with
     |true=>
      have:t=t':=by simpa using Qv
      subst this
      rw[HV]at h5
      simpa using h5
     | false =>
      have hne:t≠t':=by simpa using Qv
      simp only[cond_false]
      rw[rv fun j hj hn he=>?_]
      ·exact h5
      ·by_cases Qt:j=i
       ·subst Qt
        rw[hti]at he
        exact hne (Option.some.inj he)
       ·exact h6 j hj (fun pZ=>(bW ox).1 pZ|>.elim (fun h7=>hn h7) (fun h7=>Qt h7)) he
   · -- the next one of the tail
    have hik:k≤i:=by
     rcases Nat.lt_or_ge i k with h3|h3
     ·exact absurd (hlo i KK h3) Cj
     ·exact h3
    obtain⟨x',hx',SC⟩:=hD.tail i (by simpa using uv) KK
    rw[hx]at hx'
    cases hx'
    have hie:i=k:=by
     rcases Nat.lt_or_ge k i with h3|h3
     ·exfalso
      rcases SC k h3 with h4|⟨h4,_⟩
      ·exact UW k (Nat.le_refl _) (jS ja 2 i k h2 h4)
      ·omega
     ·omega
    subst hie
    have fh:ops.size-i=(ops.size-(i+1))+1:=by omega
    rw[fh]at h
    simp only[B9,hx]at h
    have E2:∀j,j<m→¬done L j→j∈dly ops.toList m i∧∃y t,al[j]?=some y∧y.guard=none∧y.dst=some t∧x.dst≠some t∧t∉nf x:=by
     intro j hj hn
     have hna:G6 ops.toList 2 i j=false:=by
      cases hb:G6 ops.toList 2 i j with
      |false=>rfl
      |true=>exact absurd (jS ja 2 i j h2 hb) hn
     refine⟨by simp[dly,hj,hna],?_⟩
     rcases SC j (by omega)with h4|⟨_,h4⟩
     ·rw[hna]at h4;cases h4
     ·exact h4
    have wv:∀t',t'∈nf x→look (gV al m L env) t'=look env t':=fun t' wO=>rv fun j hj hn he=>by
     obtain⟨_,y,t,hy,_,E1,_,hyu⟩:=E2 j hj hn
     have:bF al j=some t:=by simp[bF,hy,E1]
     rw[this]at he
     cases he
     exact hyu wO
    refine zk hd.ctx ho q1 q2 q3 q4 hs hg (zm wv h) ?_
    intro env' ab ρ' T' a' w' h' fD cM
    obtain⟨lM,tJ,N0,Lx⟩:∃lM,dO n ρ' T' (gV al m (L.setIfInBounds i true) lM) ab a' w'∧ra C lM ab ((dly ops.toList m i).filterMap fun j=>al[j]?)∧uM C (B9 ops.toList al m (i+1) (ops.size-(i+1))) lM ab K:=by
     have sZ:∀j,j<m→¬done (L.setIfInBounds i true) j→¬done L j:=fun j hj hn pZ=>hn ((bW ox).2 (.inl pZ))
     have Lz:∀j,j<m→¬done L j→¬done (L.setIfInBounds i true) j:=fun j hj hn pZ=>(bW ox).1 pZ|>.elim (fun h7=>hn h7) (fun h7=>by omega)
     simp only[dt,KH]at h'
     cases hxd:x.dst with
     |none=>
      rw[hxd]at h'
      obtain⟨rfl,h3,h4⟩:=h'
      refine⟨env,fD.ext fun t' d' hl=>?_,h3,h4⟩
      obtain⟨h5,h6⟩:=mX hl
      rw[rv fun j hj hn=>h6 j hj (Lz j hj hn)]
      exact h5
     | some t =>
      rw[hxd]at h'
      obtain⟨d,rfl,h3,h4⟩:=h'
      refine⟨(t,d)::env,fD.ext fun t' d' hl=>?_,h3,h4⟩
      obtain⟨h5,h6⟩:=mX hl
      simp only[look]at h5⊢
      cases Qv:(t==t')with
      |true=>rw[Qv]at h5;exact h5
      |false=>
       rw[Qv]at h5
       simp only[cond_false]at h5⊢
       rw[rv fun j hj hn=>h6 j hj (Lz j hj hn)]
       exact h5
    refine ih _ (i+1) lM ab ρ' T' a' w' (by omega) (by omega) SA (by simpa using hsz) (fun j hj pZ=>?_) (fun j hj Wb=>?_) SB (fun j hj hn=>?_) Lx tJ (hg.step hs cM) (hst.trans cM)
    ·rcases(bW ox).1 pZ with h5|h5
     ·exact UW j (by omega) h5
     ·omega
    ·refine(bW ox).2 ?_
     rcases Nat.lt_or_ge j i with h5|h5
     ·exact .inl (hlo j hj h5)
     ·exact .inr (by omega)
    ·have NZ:¬done L j:=fun pZ=>hn ((bW ox).2 (.inl pZ))
     obtain⟨h5,y,t,hy,hyg,E1,_⟩:=E2 j hj NZ
     exact⟨y,hy,hyg,⟨t,E1⟩,Bh N0 (List.mem_filterMap.2 ⟨j,h5,hy⟩)⟩
section
variable {ops:Array Oper} {al:List aT} {m:Nat} {env:Env} {Dd:Nat→D} {R:Nat→Rows}
theorem Dp.come(h:Dp C P n ops al m env Dd R){L:Array Bool}{jj ρ:Pl}{T0 T:Nat→Prop}{a:Act}{w0 w:World}(hI:G7 C n al m env Dd R jj T0 w0 L ρ T a w):
  dO n ρ T (gV al m L (lA al Dd env m)) (R m) a w:=by
 refine⟨⟨fun r row Lc h1 h2=>?_,fun r r' row row' Lc EZ h1 h2 h3 h4=>?_⟩,fun t d hl=>?_,hI.size,hI.uo,hI.ur,hI.defers⟩
 ·have hr:=bn h1
  have:=(hI.rows m (Nat.le_refl _)).row r row Lc h1 (by unfold jt;rw[if_pos hr];exact h2)
  exact this.mono jA (fun _ _=>rfl) (fun _ h=>h) rfl this.mj
 ·have hr:=bn h1
  have sF:=bn h2
  exact(hI.rows m (Nat.le_refl _)).jg r r' row row' Lc EZ h1 h2 (by unfold jt;rw[if_pos hr];exact h3) (by unfold jt;rw[if_pos sF];exact h4)
 ·obtain⟨h5,h6⟩:=mX hl
  exact(h.sees hI (Nat.le_refl _) (fun j hj he=>⟨Classical.byContradiction fun hn=>h6 j hj hn he,hj⟩) h5).mono jA (fun _ _=>rfl) (fun _ h=>h)
theorem Dp.any2 (hD : DOK2 ops.toList al m) (h : Dp C P n ops al m env Dd R) {K : Env → Rows → Prop} {Q' : Exit → Act → World → Prop} {jj : Pl} {T0 : Nat → Prop} {w0 : World}
  (hst:ra C (lA al Dd env m) (R m) ((dly ops.toList m m).filterMap fun j=>al[j]?))(Qu:uM C (B9 ops.toList al m m (ops.size-m)) (lA al Dd env m) (R m) K)
  (hK:∀env' ab ρ' T' a' w',K env' ab→dO n ρ' T' env' ab a' w'→Step jj T0 (R 0) w0 ρ' T' ab w'→Q' .normal a' w'):
  ∀(fuel:Nat) (L:Array Bool) (ρ:Pl) (T:Nat→Prop) (a:Act) (w:World),iW L ops.size≤fuel→L.size=ops.size→(∀j,done L j→j<m)→(∀i,done L i→∀j,uF ops.toList i j=true→done L j)→G7 C n al m env Dd R jj T0 w0 L ρ T a w→wpAny P .any ops Q' fuel L a w:=by
 obtain⟨hlen,jz⟩:=h.toN6.get
 have hm:m≤ops.size:=by have:=h.ok.le;simpa using this
 intro fuel
 have go:∀(fuel:Nat) (L:Array Bool) (ρ:Pl) (T:Nat→Prop) (a:Act) (w:World),iW L ops.size≤fuel→L.size=ops.size→(∀j,done L j→j<m)→(∀i,done L i→∀j,uF ops.toList i j=true→done L j)→G7 C n al m env Dd R jj T0 w0 L ρ T a w→
   ((∀j,j<m→done L j)∨∃i,i∈Region.ready .any ops L∧m≤i)→wpAny P .any ops Q' fuel L a w:=by
  intro fuel L ρ T a w hf hsz Nx ja hI hq
  refine Sz hD h.toN6 hK fuel L m _ _ ρ T a w (Nat.le_refl _) hm hf hsz (fun j hj pZ=>by have:=Nx j pZ;omega) (fun j h1 h2=>by omega) ja (fun j hj hn=>?_) Qu (h.come hI) hI.aZ hI.step
  rcases hq with hq|⟨i,hi,hmi⟩
  ·exact absurd (hq j hj) hn
  ·obtain⟨⟨o',N7⟩,h1,h2⟩:=iF hi
   have uv:i<ops.size:=(Array.getElem?_eq_some_iff.1 N7).1
   obtain⟨x,hx,SC⟩:=hD.tail i (by simpa using uv) hmi
   have KK:i=m:=by
    rcases Nat.lt_or_ge m i with h3|h3
    ·exfalso
     rcases SC m h3 with h4|⟨h4,_⟩
     ·have:=Nx m (jS ja 2 i m h2 h4);omega
     ·omega
    ·omega
   subst KK
   have hna:G6 ops.toList 2 i j=false:=by
    cases hb:G6 ops.toList 2 i j with
    |false=>rfl
    |true=>exact absurd (jS ja 2 i j h2 hb) hn
   rcases SC j hj with h4|⟨_,y,t,hy,hyg,E1,_⟩
   ·rw[hna]at h4;cases h4
   ·exact⟨y,hy,hyg,⟨t,E1⟩,Bh hst (List.mem_filterMap.2 ⟨j,by simp[dly,hj,hna],hy⟩)⟩
 induction fuel with
 |zero=>
  intro L ρ T a w hf hsz Nx ja hI
  refine go 0 L ρ T a w hf hsz Nx ja hI (.inl fun j hj=>?_)
  refine Classical.byContradiction fun hn=>?_
  have:=jl (k:=ops.size) (i:=j) (by omega) (by omega) (lO hn (by omega))
  omega
 | succ fuel ih =>
  intro L ρ T a w hf hsz Nx ja hI
  by_cases hq:(∀j,j<m→done L j)∨∃i,i∈Region.ready .any ops L∧m≤i
  ·exact go (fuel+1) L ρ T a w hf hsz Nx ja hI hq
  ·have bY : ¬ ∀ j, j < m → done L j := fun h => hq (.inl h)
   refine⟨fun hr=>?_,fun i hi=>?_⟩
   ·exfalso
    --the least one not done is ready
    have key : ∀ k, (∀ j, j < k → j < m → done L j) ∨ ∃ j, j < k ∧ j < m ∧ ¬ done L j ∧ ∀ j', j' < j → done L j' := by
     intro k
     induction k with
     |zero=>left;intro j hj;omega
     | succ k ihk =>
      rcases ihk with h1|⟨j,q1,q2,q3,q4⟩
      ·by_cases hk:k<m∧¬done L k
       ·right
        exact⟨k,by omega,hk.1,hk.2,fun j' mr=>h1 j' mr (by omega)⟩
       ·left
        intro j hj hjm
        rcases Nat.lt_or_ge j k with h3|h3
        ·exact h1 j h3 hjm
        ·have:j=k:=by omega
         subst this
         refine Classical.byContradiction fun hn=>?_
         exact hk ⟨hjm,hn⟩
      ·right;exact⟨j,by omega,q2,q3,q4⟩
    rcases key m with h1|⟨j,q1,q2,q3,q4⟩
    ·exact bY fun j hj=>h1 j hj hj
    ·have:j∈Region.ready .any ops L:=u7 (by omega) (lO q3 (by omega)) (fun j' mr=>q4 j' (h.ok.back j j' mr))
     rw[hr]at this
     cases this
   ·obtain⟨⟨o',N7⟩,h1,h2⟩:=iF hi
    have uv:i<ops.size:=(Array.getElem?_eq_some_iff.1 N7).1
    obtain⟨Cj,ox⟩:=qi h1
    have KK:i<m:=by
     rcases Nat.lt_or_ge i m with h3|h3
     ·exact h3
     ·exact absurd (.inr ⟨i,hi,h3⟩) hq
    obtain⟨o,x,ho,hx,q1,q2,q3,q4⟩:=jz i uv
    obtain⟨x',new,hx',hR,hE⟩:=h.tr i KK
    rw[hx]at hx'
    cases hx'
    obtain⟨x',o',hx',ho'',hqa,hqo,_,hu⟩:=h.ok.quiet i KK
    rw[hx]at hx'
    cases hx'
    have ho3:ops[i]?=some o':=by simpa using ho''
    rw[ho]at ho3
    cases ho3
    have hs:dO n (jt ρ (R i).length) T (small (lA al Dd env i) (nf x)) (R i) a w:=by
     refine⟨hI.rows i (by omega),fun t d hl=>?_,hI.size,hI.uo,fun r hr=>?_,hI.defers⟩
     ·obtain⟨ht,hl⟩:=ww hl
      refine h.sees hI (by omega) (fun j hj Qs=>?_) hl
      have:=hu t ht j hj Qs
      exact⟨h2 j this,h.ok.back i j this⟩
     ·unfold jt;rw[if_neg (by omega)]
    have qY:bF al i=o.dst:=by simp[bF,hx,q4]
    refine ex_wp h.nor h.ctx ho q2 q3 hs hI.aZ hqo hE.congr ?_
    intro ρ' T' v w' fD cM kU Lf
    have Lu:=h.next hI KK ox Cj (fun t ht=>wq q1 t (by rw[←qY];exact ht)) fD cM kU Lf.1 Lf.2
    rw[qY]at Lu
    refine ih _ _ T' _ w' ?_ (by simpa using hsz) (fun j hj=>?_) (fun i' hi' j hj=>?_) Lu
    ·have:=jl uv ox h1
     omega
    ·rcases(bW ox).1 hj with h3|h3
     ·exact Nx j h3
     ·omega
    ·refine(bW ox).2 (.inl ?_)
     rcases(bW ox).1 hi' with h3|h3
     ·exact ja i' h3 j hj
     ·subst h3;exact h2 j hj
end
theorem N9{al:List aT}{m j:Nat}(hj:j<m):bF (al.take m) j=bF al j:=by
 unfold bF
 rw[List.getElem?_take_of_lt hj]
theorem ry{al:List aT}{m:Nat}{Dd:Nat→D}{env:Env}:∀(i:Nat),i≤m→lA (al.take m) Dd env i=lA al Dd env i
 |0,_=>rfl
 |i+1,h=>by simp only[lA,ry (m:=m) i (by omega),N9 (j:=i) (show i<m by omega)]
theorem LA(hN:∀f,C.fU f=none)(hC:aI C P)(hP:P.follows .mixedOrders=true){id:Nat}{ops:Array Oper}{al:List aT}{m:Nat}(hc:uN P n ops.toList ops.toList=some al)(hd:RX ops.toList al m=true)
  {env:Env}{rows:Rows}{ρ:Pl}{T:Nat→Prop}{a:Act}{w:World}{Q:fa→Env→Rows→Prop}{Q':Exit→Act→World→Prop}
  (h:dt C (al.take m) env rows fun env rows=>ra C env rows ((dly ops.toList m m).filterMap fun j=>al[j]?)∧uM C (B9 ops.toList al m m (ops.toList.length-m)) env rows (Q .normal))(hs:dO n ρ T env rows a w)(hg:dM C w T)
  (hp:Post n ρ T rows w Q Q'):(Code.region id ops true).wp P Q' a w:=by
 have hok:=Su hd
 have hlen:=(u6 hc).1
 have hml:m≤al.length:=by rw[hlen];exact hok.le
 have hq:∀i,i<m→∃x,(al.take m)[i]?=some x∧ko x.op=true:=by
  intro i hi
  obtain⟨x,o,h1,_,h3,_⟩:=hok.quiet i hi
  exact⟨x,by rw[List.getElem?_take_of_lt hi];exact h1,h3⟩
 obtain⟨Dd,R,h0,h1,h2⟩:=trace hN m (by simp;omega) hq h
 subst h0
 have NR:(al.take m).drop m=[]:=List.drop_eq_nil_of_le (by simp;omega)
 rw[NR,ry m (Nat.le_refl _)]at h2
 obtain⟨h2a,h2b⟩:=h2
 have ZY:∀i,i<m→∃x new,al[i]?=some x∧R (i+1)=R i++new∧Ex C (lA al Dd env i) (R i) x (Dd i) (R (i+1)):=by
  intro i hi
  obtain⟨x,new,q1,q2,q3⟩:=h1 i hi
  rw[List.getElem?_take_of_lt hi]at q1
  rw[ry i (by omega)]at q3
  exact⟨x,new,q1,q2,q3⟩
 have hrun:Dp C P n ops al m env Dd R:=⟨⟨hok.toV7,hc,hC⟩,hN,ZY⟩
 have hw1:dO n ρ T env (R 0) a {w with drawn:=w.drawn+1}:=hs.heap rfl
 have Sy:dM C {w with drawn:=w.drawn+1} T:=hg.keep (fun _ _=>rfl) (fun _ h=>h)
 have N8:∀j,¬done (Array.replicate ops.size false) j:=by
  intro j hj
  unfold done at hj
  simp[Array.getD]at hj
 have hsz:ops.toList.length-m=ops.size-m:=by simp
 rw[hsz]at h2b
 refine wp_region_any hP (hrun.any2 hok h2a h2b (w0:={w with drawn:=w.drawn+1}) (jj:=ρ) (T0:=T) ?_ ops.size _ ρ T a _ ?_ (by simp) (fun j hj=>absurd hj (N8 j)) (fun i hi=>absurd hi (N8 i)) (hrun.start hw1 Sy N8))
 ·intro env' ab ρ' T' a' w' hk fD cM
  exact hp .normal env' ab ρ' T' a' w' hk fD ⟨cM.pl,cM.tt,cM.um,cM.size,cM.keep,cM.fresh,cM.os,cM.tape,cM.output,cM.len,cM.same⟩
 ·unfold iW
  exact Nat.le_trans (List.length_filter_le _ _) (by simp)
theorem LC(hC:aI C P)(hP:P.follows .mixedOrders=true){id:Nat}{ops:Array Oper}{al:List aT}{m:Nat}(hc:uN P n ops.toList ops.toList=some al)(hd:dOK ops.toList al m=true)
  {env:Env}{rows:Rows}{ρ:Pl}{T:Nat→Prop}{a:Act}{w:World}{Q:fa→Env→Rows→Prop}{Q':Exit→Act→World→Prop}
  (h:dt C.quiet (al.take m) env rows fun env rows=>dt C (al.drop m) env rows (Q .normal))(hs:dO n ρ T env rows a w)(hg:dM C w T)
  (hp:Post n ρ T rows w Q Q'):(Code.region id ops true).wp P Q' a w:=by
 have hok:=Lp hd
 have hlen:=(u6 hc).1
 have hml:m≤al.length:=by rw[hlen];exact hok.le
 have hq:∀i,i<m→∃x,(al.take m)[i]?=some x∧ko x.op=true:=by
  intro i hi
  obtain⟨x,o,h1,_,h3,_⟩:=hok.quiet i hi
  exact⟨x,by rw[List.getElem?_take_of_lt hi];exact h1,h3⟩
 have hN:∀f,C.quiet.fU f=none:=fun _=>rfl
 obtain⟨Dd,R,h0,h1,h2⟩:=trace hN m (by simp;omega) hq h
 subst h0
 have NR:(al.take m).drop m=[]:=List.drop_eq_nil_of_le (by simp;omega)
 rw[NR,ry m (Nat.le_refl _)]at h2
 have UX:dt C (al.drop m) (lA al Dd env m) (R m) (Q .normal):=h2
 have ZY:∀i,i<m→∃x new,al[i]?=some x∧R (i+1)=R i++new∧Ex C.quiet (lA al Dd env i) (R i) x (Dd i) (R (i+1)):=by
  intro i hi
  obtain⟨x,new,q1,q2,q3⟩:=h1 i hi
  rw[List.getElem?_take_of_lt hi]at q1
  rw[ry i (by omega)]at q3
  exact⟨x,new,q1,q2,q3⟩
 have hrun:Dp C.quiet P n ops al m env Dd R:=⟨⟨hok.toV7,hc,hC.quiet⟩,hN,ZY⟩
 have hw1:dO n ρ T env (R 0) a {w with drawn:=w.drawn+1}:=hs.heap rfl
 have NS:dM C.quiet w T:=hg
 have Sy:dM C.quiet {w with drawn:=w.drawn+1} T:=NS.keep (fun _ _=>rfl) (fun _ h=>h)
 have N8:∀j,¬done (Array.replicate ops.size false) j:=by
  intro j hj
  unfold done at hj
  simp[Array.getD]at hj
 refine wp_region_any hP (hrun.any hok hC (fun _ _ h=>h) UX (w0:={w with drawn:=w.drawn+1}) (jj:=ρ) (T0:=T) ?_ ops.size _ ρ T a _ ?_ (by simp) (fun j hj=>absurd hj (N8 j)) (fun i hi=>absurd hi (N8 i)) (hrun.start hw1 Sy N8))
 ·intro env' ab ρ' T' a' w' hk fD cM
  exact hp .normal env' ab ρ' T' a' w' hk fD ⟨cM.pl,cM.tt,cM.um,cM.size,cM.keep,cM.fresh,cM.os,cM.tape,cM.output,cM.len,cM.same⟩
 ·unfold iW
  exact Nat.le_trans (List.length_filter_le _ _) (by simp)
theorem SD{ops:List Oper}{al:List aT}{m:Nat}(h:IZ ops al=some m):dOK ops al m=true:=by
 unfold IZ at h
 have:=List.find?_some h
 simpa using this
end Go.Am

import Derived.Test.YtgcejocgnfkciaaGreatDoorKc1
namespace Go.Am
set_option linter.unusedSimpArgs false
set_option linter.unusedVariables false
structure aY {α β:Type} (R:α→β→Prop) (l:List α) (m:List β):Prop where
 len:l.length=m.length
 at_:∀(i:Nat) (a:α) (b:β),l[i]?=some a→m[i]?=some b→R a b
theorem aY.nil{α β:Type}{R:α→β→Prop}:aY R [] []:=⟨rfl,by simp⟩
theorem aY.mono{α β:Type}{R S:α→β→Prop}{l:List α}{m:List β}(h:aY R l m)(hs:∀a b,R a b→S a b):aY S l m:=
 ⟨h.len,fun i a b ha hb=>hs _ _ (h.at_ i a b ha hb)⟩
theorem aY.append{α β:Type}{R:α→β→Prop}{l l':List α}{m m':List β}(h:aY R l m)(h':aY R l' m'):aY R (l++l') (m++m'):=by
 refine⟨by simp[h.len,h'.len],fun i a b ha hb=>?_⟩
 rw[List.getElem?_append]at ha hb
 have hl:=h.len
 by_cases hi:i<l.length
 ·rw[if_pos hi]at ha
  rw[if_pos (by omega)]at hb
  exact h.at_ i a b ha hb
 ·rw[if_neg hi]at ha
  rw[if_neg (by omega)]at hb
  exact h'.at_ (i-l.length) a b ha (by rw[hl];exact hb)
theorem aY.take{α β:Type}{R:α→β→Prop}{l:List α}{m:List β}(h:aY R l m)(n:Nat):aY R (l.take n) (m.take n):=by
 refine⟨by simp[h.len],fun i a b ha hb=>?_⟩
 rw[List.getElem?_take]at ha hb
 split at ha
 ·rename_i hi
  rw[if_pos hi]at hb
  exact h.at_ i a b ha hb
 ·cases ha
theorem aY.drop{α β:Type}{R:α→β→Prop}{l:List α}{m:List β}(h:aY R l m)(n:Nat):aY R (l.drop n) (m.drop n):=by
 refine⟨by simp[h.len],fun i a b ha hb=>?_⟩
 rw[List.getElem?_drop]at ha hb
 exact h.at_ _ a b ha hb
theorem aY.left{α β:Type}{R:α→β→Prop}{l l':List α}{m m':List β}(h:aY R (l++l') (m++m'))(hl:l.length=m.length):aY R l m:=by
 have:=h.take l.length
 rwa [List.take_left,hl,List.take_left]at this
theorem aY.right{α β:Type}{R:α→β→Prop}{l l':List α}{m m':List β}(h:aY R (l++l') (m++m'))(hl:l.length=m.length):aY R l' m':=by
 have:=h.drop l.length
 rwa [List.drop_left,hl,List.drop_left]at this
theorem aY.single{α β:Type}{R:α→β→Prop}{a:α}{b:β}(h:R a b):aY R [a] [b]:=by
 refine⟨rfl,fun i x y hx hy=>?_⟩
 cases i with
 |zero=>simp at hx hy;subst hx;subst hy;exact h
 |succ i=>simp at hx
theorem aY.cons{α β:Type}{R:α→β→Prop}{a:α}{b:β}{l:List α}{m:List β}(h:R a b)(h':aY R l m):aY R (a::l) (b::m):=
 (aY.single h).append h'
theorem aY.head{α β:Type}{R:α→β→Prop}{a:α}{b:β}{l:List α}{m:List β}(h:aY R (a::l) (b::m)):R a b:=h.at_ 0 a b rfl rfl
theorem aY.tail{α β:Type}{R:α→β→Prop}{a:α}{b:β}{l:List α}{m:List β}(h:aY R (a::l) (b::m)):aY R l m:=
 aY.right (l:=[a]) (m:=[b]) h rfl
theorem aY.some{α β:Type}{R:α→β→Prop}{l:List α}{m:List β}(h:aY R l m){i:Nat}{a:α}(ha:l[i]?=some a):∃b,m[i]?=some b∧R a b:=by
 have hi:i<l.length:=by
  rcases Nat.lt_or_ge i l.length with h'|h'
  ·exact h'
  ·simp[List.getElem?_eq_none h']at ha
 have hm:i<m.length:=by have:=h.len;omega
 exact⟨m[i],List.getElem?_eq_getElem hm,h.at_ i a _ ha (List.getElem?_eq_getElem hm)⟩
theorem du(l m:List D):au (l++m)=au l++au m:=by
 induction l with
 |nil=>simp[au]
 |cons d l ih=>simp[au,ih]
theorem fu{l:List D}{i:Nat}{d:D}(h:l[i]?=some d):au l=au (l.take i)++(d.flat++au (l.drop (i+1))):=by
 have hi:i<l.length:=by
  rcases Nat.lt_or_ge i l.length with h'|h'
  ·exact h'
  ·simp[List.getElem?_eq_none h']at h
 have hd:l[i]=d:=by rw[List.getElem?_eq_getElem hi]at h;exact Option.some.inj h
 have xV:l=l.take i++d::l.drop (i+1):=by
  rw[←hd,←List.drop_eq_getElem_cons hi,List.take_append_drop]
 calc au l=au (l.take i++d::l.drop (i+1)):=by rw[←xV]
  _=_:=by rw[du];simp[au]
theorem A6{l:List D}{i:Nat}{d:D}(h:i<l.length):au (l.set i d)=au (l.take i)++(d.flat++au (l.drop (i+1))):=by
 have h1:(l.set i d)[i]?=some d:=by simp[h]
 rw[fu h1]
 congr 2
 ·rw[List.take_set_of_le (Nat.le_refl _)]
 ·rw[List.drop_set_of_lt (by omega)]
theorem I0:∀(s:Sh) (l:List D),s.isAgg=true→l.length=s.count→(∀i e d,s.sub i=some e→l[i]?=some d→d.flat.length=e.size)→
  (au l).length=s.size∧∀i,i≤l.length→(au (l.take i)).length=s.ju i∨(i=l.length)
 | .nil,l,_,hl,_=>by
  simp[Sh.count]at hl
  subst hl
  simp[au,Sh.size]
 | .cons a b,[],_,hl,_=>by simp[Sh.count]at hl
 | .cons a b, x :: l, ha, hl, h => by
  have hb:=I0 b l (by simpa[Sh.isAgg]using ha) (by simpa[Sh.count]using hl) (fun i e d hs hd=>h (i+1) e d (by simpa[Sh.sub]using hs) (by simpa using hd))
  have h0:=h 0 a x rfl rfl
  refine⟨by simp[au,Sh.size,h0,hb.1],fun i hi=>?_⟩
  cases i with
  |zero=>left;simp[au,Sh.ju]
  |succ i=>
   rcases hb.2 i (by simpa using hi)with h1|h1
   ·left;simp[au,Sh.ju,h0,h1]
   ·right;simp[h1]
 | .ar n s, l, _, hl, h => by
  have mh:l.length=n:=hl
  have key:∀(m:List D) (k:Nat),(∀d,d∈m→d.flat.length=s.size)→(au m).length=m.length*s.size:=by
   intro m k hm
   induction m with
   |nil=>simp[au]
   |cons d m ih=>
    have h1:=hm d (by simp)
    have h2:=ih (fun e he=>hm e (by simp[he]))
    simp[au,h1,h2,Nat.succ_mul,Nat.add_comm]
  have bY:∀d,d∈l→d.flat.length=s.size:=by
   intro d hd
   obtain⟨i,hi,rfl⟩:=List.mem_iff_getElem.1 hd
   exact h i s _ (by simp[Sh.sub];omega) (List.getElem?_eq_getElem hi)
  refine⟨by rw[key l 0 bY,mh];rfl,fun i hi=> .inl ?_⟩
  rw[key (l.take i) 0 (fun d hd=>bY d (List.mem_of_mem_take hd)),List.length_take,Nat.min_eq_left hi]
  rfl
 | .leaf _,_,h,_,_=>by simp[Sh.isAgg]at h
 | .ref,_,h,_,_=>by simp[Sh.isAgg]at h
theorem Et{v:Value}{k:Sc}(h:mE v k=true):v.oneCell'=true:=by
 cases v<;>cases k<;>simp_all[mE,Value.oneCell']
theorem cj{d:D}(h:d.ee=true):d.flat=[d]:=by
 cases d<;>simp_all[D.ee,D.flat]
theorem aK.len{s:Sh}{d:D}(h:aK s d):d.flat.length=s.size:=by
 induction h with
 |leaf k v hv=>simp[D.flat,Sh.size]
 |ref d hd=>simp[cj hd,Sh.size]
 |agg s l ha hl fh ih=>simpa[D.flat]using(I0 s l ha hl ih).1
theorem aK.iJ{s:Sh}{d:D}(h:aK s d)(ha:s.isAgg=true):∃l,d= .agg s l∧l.length=s.count∧∀i e d,s.sub i=some e→l[i]?=some d→aK e d:=by
 cases h with
 |leaf k v hv=>simp[Sh.isAgg]at ha
 |ref d hd=>simp[Sh.isAgg]at ha
 |agg s l _ hl fh=>exact⟨l,rfl,hl,fh⟩
theorem aK.oO{s:Sh}{d:D}(h:aK s d)(ha:s.isAgg=false):d.ee=true:=by
 cases h with
 |leaf k v hv=>simp[D.ee];exact Et hv
 |ref d hd=>exact hd
 |agg s l h _ _=>simp[h]at ha
theorem Hz:∀{s:Sh} {i:Nat} {e:Sh},s.sub i=some e→s.isAgg=true∨s.isAgg=false→i<s.count
 | .cons a b,0,e,h,_=>by simp[Sh.count]
 | .cons a b,i+1,e,h,_=>by
  have:=Hz (s:=b) (i:=i) (e:=e) (by simpa[Sh.sub]using h) (by cases b.isAgg<;>simp)
  simp[Sh.count];omega
 | .ar n s,i,e,h,_=>by
  simp only[Sh.sub]at h
  split at h
  ·simpa[Sh.count]
  ·cases h
 | .leaf _,_,_,h,_=>by simp[Sh.sub]at h
 | .ref,_,_,h,_=>by simp[Sh.sub]at h
 | .nil,_,_,h,_=>by simp[Sh.sub]at h
theorem sub_lt{s:Sh}{i:Nat}{e:Sh}(h:s.sub i=some e):i<s.count:=Hz h (by cases s.isAgg<;>simp)
theorem kz:∀{s:Sh} {i:Nat},i<s.count→∃e,s.sub i=some e
 | .cons a b,0,_=>⟨a,rfl⟩
 | .cons a b,i+1,h=>by
  obtain⟨e,he⟩:=kz (s:=b) (i:=i) (by simp[Sh.count]at h;omega)
  exact⟨e,by simpa[Sh.sub]using he⟩
 | .ar n s,i,h=>⟨s,by simp[Sh.sub];simpa[Sh.count]using h⟩
 | .leaf _,_,h=>by simp[Sh.count]at h
 | .ref,_,h=>by simp[Sh.count]at h
 | .nil,_,h=>by simp[Sh.count]at h
theorem aK.part{s:Sh}{l:List D}(h:aK s (.agg s l))(ha:s.isAgg=true){i:Nat}{e:Sh}(hs:s.sub i=some e):
  ∃d,l[i]?=some d∧aK e d∧(au (l.take i)).length=s.ju i:=by
 obtain⟨l',mh,hlen,fh⟩:=h.iJ ha
 cases mh
 have hi:i<l.length:=by rw[hlen];exact sub_lt hs
 refine⟨l[i],List.getElem?_eq_getElem hi,fh i e _ hs (List.getElem?_eq_getElem hi),?_⟩
 rcases(I0 s l ha hlen (fun i e d h1 h2=>(fh i e d h1 h2).len)).2 i (by omega)with h1|h1
 ·exact h1
 ·omega
theorem aK.Qe{s:Sh}{l:List D}(h:aK s (.agg s l))(ha:s.isAgg=true){i:Nat}{e:Sh}{d:D}(hs:s.sub i=some e)(hd:aK e d):aK s (.agg s (l.set i d)):=by
 obtain⟨l',mh,hlen,fh⟩:=h.iJ ha
 cases mh
 refine .agg s _ ha (by simp[hlen]) fun j e' d' hj je=>?_
 rw[List.getElem?_set]at je
 split at je
 ·rename_i R9
  subst R9
  split at je
  ·cases je
   rw[hs]at hj
   cases hj
   exact hd
  ·cases je
 ·exact fh j e' d' hj je
theorem K2{s:Sh}{i:Nat}{p:List Nat}{e:Sh}{d:D}(hd:aK s d)(h:s.at (i::p)=some e):∃u l,s.sub i=some u∧u.at p=some e∧s.isAgg=true∧d= .agg s l:=by
 simp only[Sh.at]at h
 cases hs:s.sub i with
 |none=>simp[hs]at h
 | some u =>
  simp only[hs]at h
  have ha:s.isAgg=true:=by
   cases hd with
   |leaf k v hv=>simp[Sh.sub]at hs
   |ref d hd=>simp[Sh.sub]at hs
   |agg s l h _ _=>exact h
  obtain⟨l,rfl,_⟩:=hd.iJ ha
  exact⟨u,l,rfl,h,ha,rfl⟩
theorem K3:∀(p:List Nat) {s e:Sh} {d:D},aK s d→s.at p=some e→
  ∃d' pre post,d.get p=some d'∧aK e d'∧d.flat=pre++(d'.flat++post)∧pre.length=s.off p
 |[],s,e,d,h,he=>by
  simp[Sh.at]at he
  subst he
  exact⟨d,[],[],by simp[D.get],h,by simp,by simp[Sh.off]⟩
 | i :: p, s, e, d, h, he => by
  obtain⟨u,l,hs,hu,ha,rfl⟩:=K2 h he
  obtain⟨x,hx,NM,mH⟩:=h.part ha hs
  obtain⟨d',pre,post,hg,je,hf,hp⟩:=K3 p NM hu
  refine⟨d',au (l.take i)++pre,post++au (l.drop (i+1)),by simp[D.get,hx,hg],je,?_,?_⟩
  ·simp only[D.flat]
   rw[fu hx,hf]
   simp
  ·simp[Sh.off,hs,mH,hp]
theorem K4:∀(p:List Nat) {s e:Sh} {d x:D},aK s d→s.at p=some e→aK e x→
  ∃d' o pre post,d.set p x=some d'∧aK s d'∧d.flat=pre++(o++post)∧d'.flat=pre++(x.flat++post)∧pre.length=s.off p∧o.length=x.flat.length
 |[],s,e,d,x,h,he,hx=>by
  simp[Sh.at]at he
  subst he
  exact⟨x,d.flat,[],[],by simp[D.set],hx,by simp,by simp,by simp[Sh.off],by rw[h.len,hx.len]⟩
 | i :: p, s, e, d, x, h, he, hx => by
  obtain⟨u,l,hs,hu,ha,rfl⟩:=K2 h he
  obtain⟨y,hy,hys,mH⟩:=h.part ha hs
  obtain⟨d',o,pre,post,hg,je,hf,hf',hp,ho⟩:=K4 p hys hu hx
  have hi:i<l.length:=by
   rcases Nat.lt_or_ge i l.length with h'|h'
   ·exact h'
   ·simp[List.getElem?_eq_none h']at hy
  refine⟨.agg s (l.set i d'),o,au (l.take i)++pre,post++au (l.drop (i+1)),by simp[D.set,hy,hg],h.Qe ha hs je,?_,?_,?_,ho⟩
  ·simp only[D.flat]
   rw[fu hy,hf]
   simp
  ·simp only[D.flat]
   rw[A6 hi,hf']
   simp
  ·simp[Sh.off,hs,mH,hp]
theorem we:∀(p:List Nat) {s e:Sh} (i:Nat),s.at p=some e→s.at (p++[i])=e.sub i
 |[],s,e,i,h=>by
  simp[Sh.at]at h
  subst h
  simp only[List.nil_append,Sh.at]
  cases s.sub i<;>rfl
 |j::p,s,e,i,h=>by
  simp only[Sh.at,List.cons_append]at h⊢
  cases hs:s.sub j with
  |none=>simp[hs]at h
  |some u=>simp only[hs]at h⊢;exact we p i h
theorem K5:∀(p:List Nat) {s e:Sh} (i:Nat),s.at p=some e→s.off (p++[i])=s.off p+e.ju i
 |[],s,e,i,h=>by
  simp[Sh.at]at h
  subst h
  simp only[List.nil_append,Sh.off]
  cases s.sub i<;>simp[Sh.off]
 | j :: p, s, e, i, h => by
  simp only[Sh.at,Sh.off,List.cons_append]at h⊢
  cases hs:s.sub j with
  |none=>simp[hs]at h
  |some u=>
   simp only[hs]at h⊢
   rw[K5 p i h]
   omega
theorem bb{s:Sh}:∀{l:List D},(∀d∈l,aK s d)→(au l).length=l.length*s.size
 |[],_=>by simp[au]
 |d::l,h=>by
  have h1:=(h d (by simp)).len
  have h2:=bb (l:=l) (fun e he=>h e (by simp[he]))
  simp[au,h1,h2,Nat.succ_mul,Nat.add_comm]
theorem bN{α:Type}{l:List α}{i:Nat}{d:α}(h:l[i]?=some d):d∈l:=List.mem_of_getElem? h
theorem cN{α:Type}{l:List α}{i:Nat}{d:α}(h:l[i]?=some d):i<l.length:=by
 rcases Nat.lt_or_ge i l.length with h'|h'
 ·exact h'
 ·simp[List.getElem?_eq_none h']at h
theorem uP{s e:Sh}{els:List D}{i:Nat}{p:List Nat}{d:D}(h:∀d∈els,aK s d)(he:s.at p=some e)(hg:cP els (i::p)=some d):
  aK e d∧i<els.length∧∃pre post,au els=pre++(d.flat++post)∧pre.length=i*s.size+s.off p:=by
 simp only[cP]at hg
 cases hx:els[i]? with
 |none=>simp[hx]at hg
 |some x=>
  simp only[hx]at hg
  obtain⟨d',pre,post,h1,h2,h3,h4⟩:=K3 p (h x (bN hx)) he
  rw[hg]at h1
  cases h1
  refine⟨h2,cN hx,au (els.take i)++pre,post++au (els.drop (i+1)),?_,?_⟩
  ·rw[fu hx,h3];simp
  ·rw[List.length_append,h4,bb (fun d hd=>h d (List.mem_of_mem_take hd)),List.length_take,Nat.min_eq_left (Nat.le_of_lt (cN hx))]
theorem Ca{s e:Sh}{els els':List D}{i:Nat}{p:List Nat}{x:D}(h:∀d∈els,aK s d)(he:s.at p=some e)(hx:aK e x)(hg:kg els (i::p) x=some els'):
  (∀d∈els',aK s d)∧els'.length=els.length∧i<els.length∧∃pre o post,au els=pre++(o++post)∧au els'=pre++(x.flat++post)∧pre.length=i*s.size+s.off p∧o.length=x.flat.length:=by
 simp only[kg]at hg
 cases hy:els[i]? with
 |none=>simp[hy]at hg
 | some y =>
  simp only[hy]at hg
  obtain⟨d',o,pre,post,h1,h2,h3,h4,h5,h6⟩:=K4 p (h y (bN hy)) he hx
  simp only[h1]at hg
  cases hg
  have hi:=cN hy
  refine⟨fun d hd=>?_,by simp,hi,au (els.take i)++pre,o,post++au (els.drop (i+1)),?_,?_,?_,h6⟩
  ·rcases List.mem_or_eq_of_mem_set hd with h'|h'
   ·exact h d h'
   ·exact h'▸h2
  ·rw[fu hy,h3];simp
  ·rw[A6 hi,h4];simp
  ·rw[List.length_append,h5,bb (fun d hd=>h d (List.mem_of_mem_take hd)),List.length_take,Nat.min_eq_left (Nat.le_of_lt hi)]
end Go.Am
namespace Go.Am
set_option linter.unusedSimpArgs false
set_option linter.unusedVariables false
structure Loc where
 b:Nat
 sh:Sh
 room:Nat
 mp:Bool
def Loc.at(L:Loc):List Nat→Option Sh
 |[]=>none
 |i::p=>bif L.mp then none else L.sh.at p
theorem Loc.Eu{L:Loc}{p:List Nat}{s:Sh}(h:L.at p=some s):L.mp=false:=by
 cases p with
 |nil=>simp[Loc.at]at h
 |cons i p=>cases hm:L.mp<;>simp[Loc.at,hm]at h⊢
theorem Loc.wg{L:Loc}{i:Nat}{p:List Nat}(h:L.mp=false):L.at (i::p)=L.sh.at p:=by simp[Loc.at,h]
def Loc.off(L:Loc):List Nat→Nat
 |[]=>0
 |i::p=>i*L.sh.size+L.sh.off p
abbrev Pl:=Nat→Option Loc
def firstM:List D→Value→Value→Prop
 |[],_,_=>False
 |d::l,k,v=>match Hx d with
  |some (k',v')=>(kv k'=k∧v'=v)∨(kv k'≠k∧firstM l k v)
  |none=>False
structure oP (s:Sh) (l:List D) (es:Array MapEntry):Prop where
 pure:s.pure=true
 key:∀e∈es.toList,∃kd ks,s.sub 0=some ks∧aK ks kd∧e.key=kv kd
 jg:es.toList.Pairwise (fun a b=>a.key≠b.key)
 at_:∀k v,(∃e∈es.toList,e.key=k∧e.val=v)↔firstM l k v
inductive LR (ρ:Pl) (w:World) (T:Nat→Prop):D→Value→Prop where
 |raw (v:Value):v.oneCell'=true→LR ρ w T (.raw v) v
 |ptr (s:Sh) (r:Nat) (p:List Nat) (L:Loc):ρ r=some L→L.at p=some s→LR ρ w T (.ptr s r p) (.pointer (some ⟨L.b,L.off p,none⟩))
 | sl (s : Sh) (r : Nat) (p : List Nat) (off len : Nat) (ex : Bool) (L : Loc) (cap : Nat) : ρ r = some L → len ≤ cap → (ex = true → cap = len) →
   ((p=[]∧s=L.sh∧L.mp=false∧(off+cap)*s.size≤L.room)∨∃n,L.at p=some (.ar n s)∧off+cap≤n)→
   LR ρ w T (.sl s r p off len ex) (.slice (some ⟨L.b,L.off p+off*s.size,none⟩) len cap)
 |yP (s:Sh) (r:Nat) (p:List Nat) (off:Nat) (ex:Bool) (a:Option Addr):LR ρ w T (.sl s r p off 0 ex) (.slice a 0 0)
 | lF (n : Nat) (s : Sh) (r : Nat) (p : List Nat) (off : Nat) (L : Loc) : ρ r = some L → ((p = [] ∧ s = L.sh ∧ L.mp = false ∧ (off + n) * s.size ≤ L.room) ∨ ∃ m, L.at p = some (.ar m s) ∧ off + n ≤ m) →
   LR ρ w T (.lF n s r p off) (.pointer (some ⟨L.b,L.off p+off*s.size,none⟩))
 |ou (s:Sh) (ex:Bool) (a:Option Addr) (cap:Nat):(ex=true→cap=0)→(a=none→cap=0)→LR ρ w T (.cF s [] ex) (.slice a 0 cap)
 | cF (s : Sh) (l : List D) (ex : Bool) (b o cap : Nat) (f : Nat → Value) : (∀ d ∈ l, aK s d) → T b →
   (∀i d,(au l)[i]?=some d→w.cell? ⟨b,o+i,none⟩=some (f i))→(∀i d,(au l)[i]?=some d→LR ρ w T d (f i))→
   l.length≤cap→(ex=true→cap=l.length)→LR ρ w T (.cF s l ex) (.slice (some ⟨b,o,none⟩) l.length cap)
 | b5 (s : Sh) (d : D) (b o : Nat) (f : Nat → Value) : aK s d → T b →
   (∀i x,d.flat[i]?=some x→w.cell? ⟨b,o+i,none⟩=some (f i))→(∀i x,d.flat[i]?=some x→LR ρ w T x (f i))→
   LR ρ w T (.b5 d) (.pointer (some ⟨b,o,none⟩))
 |mp (r:Nat) (L:Loc):ρ r=some L→L.mp=true→LR ρ w T (.mp r) (.map (some L.b))
 |A0 (f:Nat) (s:Sh) (r:Nat) (p:List Nat) (L:Loc):ρ r=some L→L.at p=some s→LR ρ w T (.A0 f s r p) (.func (.func f) #[] #[.pointer (some ⟨L.b,L.off p,none⟩)])
 |om (s:Sh) (l:List D) (b:Nat) (es:Array MapEntry) (clock:Nat):(∀d∈l,aK s d)→T b→w.heap[b]?=some (.map es clock)→oP s l es→LR ρ w T (.om s l) (.map (some b))
theorem LR.Ew{s:Sh}{p:List Nat}{c n:Nat}{L:Loc}(h:(p=[]∧s=L.sh∧L.mp=false∧c≤L.room)∨∃n',L.at p=some (.ar n' s)∧n≤n'):L.mp=false:=by
 rcases h with⟨_,_,h,_⟩|⟨_,h,_⟩
 ·exact h
 ·exact Loc.Eu h
theorem LR.mono{ρ ρ':Pl}{w w':World}{T T':Nat→Prop}{d:D}{v:Value}(h:LR ρ w T d v)(hρ:∀r L,ρ r=some L→ρ' r=some L)
  (hw:∀b,T b→w'.heap[b]?=w.heap[b]?)(hT:∀b,T b→T' b):LR ρ' w' T' d v:=by
 induction h with
 |raw v hv=>exact .raw v hv
 |ptr s r p L hL hp=>exact .ptr s r p L (hρ _ _ hL) hp
 |sl s r p off len ex L cap hL h1 h2 h3=>exact .sl s r p off len ex L cap (hρ _ _ hL) h1 h2 h3
 |yP s r p off ex a=>exact .yP s r p off ex a
 |lF n s r p off L hL h1=>exact .lF n s r p off L (hρ _ _ hL) h1
 |ou s ex a cap h1 h2=>exact .ou s ex a cap h1 h2
 |cF s l ex b o cap f h1 hb h2 _ h4 h5 ih=>exact .cF s l ex b o cap f h1 (hT b hb) (fun i d hd=>(World.cell?_of_block (a:=⟨b,o+i,none⟩) (hw b hb)).trans (h2 i d hd)) ih h4 h5
 |b5 s d b o f h1 hb h2 _ ih=>exact .b5 s d b o f h1 (hT b hb) (fun i x hx=>(World.cell?_of_block (a:=⟨b,o+i,none⟩) (hw b hb)).trans (h2 i x hx)) ih
 |mp r L h1 h2=>exact .mp r L (hρ _ _ h1) h2
 |A0 f s r p L hL hp=>exact .A0 f s r p L (hρ _ _ hL) hp
 |om s l b es clock h1 hb h2 h3=>exact .om s l b es clock h1 (hT b hb) ((hw b hb).trans h2) h3
theorem LR.one{ρ:Pl}{w:World}{T:Nat→Prop}{d:D}{v:Value}(h:LR ρ w T d v):v.oneCell'=true:=by
 cases h<;>first|assumption|rfl
theorem LR.leaf{ρ:Pl}{w:World}{T:Nat→Prop}{d:D}{v:Value}(h:LR ρ w T d v):d.ee=true:=by
 cases h<;>first|rfl|(simpa[D.ee])
def pQ(ρ:Pl)(w:World)(T:Nat→Prop)(d:D)(v:Value):Prop:=
 match d with
 | .agg s l=>∃cs:Array Value,v= .agg cs∧aK s (.agg s l)∧aY (LR ρ w T) (au l) cs.toList
 |d=>LR ρ w T d v
def VR(ρ:Pl)(w:World)(T:Nat→Prop)(d:D)(v:Value):Prop:=
 match d with
 | .cA l=>∃vs:Array Value,v= .tuple vs∧aY (pQ ρ w T) l vs.toList
 |d=>pQ ρ w T d v
theorem pQ.mono{ρ ρ':Pl}{w w':World}{T T':Nat→Prop}{d:D}{v:Value}(h:pQ ρ w T d v)(hρ:∀r L,ρ r=some L→ρ' r=some L)
  (hw:∀b,T b→w'.heap[b]?=w.heap[b]?)(hT:∀b,T b→T' b):pQ ρ' w' T' d v:=by
 cases d with
 |agg s l=>
  obtain⟨cs,rfl,h1,h2⟩:=h
  exact⟨cs,rfl,h1,h2.mono fun a b h=>h.mono hρ hw hT⟩
 | _=>exact LR.mono h hρ hw hT
theorem VR.mono{ρ ρ':Pl}{w w':World}{T T':Nat→Prop}{d:D}{v:Value}(h:VR ρ w T d v)(hρ:∀r L,ρ r=some L→ρ' r=some L)
  (hw:∀b,T b→w'.heap[b]?=w.heap[b]?)(hT:∀b,T b→T' b):VR ρ' w' T' d v:=by
 cases d with
 |cA l=>
  obtain⟨vs,rfl,h1⟩:=h
  exact⟨vs,rfl,h1.mono fun a b h=>pQ.mono h hρ hw hT⟩
 |agg s l=>exact pQ.mono (d:= .agg s l) h hρ hw hT
 | _=>exact LR.mono h hρ hw hT
theorem wh{v:Value}(h:v.oneCell'=true):v.cells=#[v]:=by cases v<;>simp_all[Value.oneCell',Value.cells]
theorem VR.cells{ρ:Pl}{w:World}{T:Nat→Prop}{d:D}{v:Value}{s:Sh}(h:VR ρ w T d v)(hf:d.fits s=true):
  aK s d∧aY (LR ρ w T) d.flat v.cells.toList∧(s.isAgg=true→∃cs,v= .agg cs)∧(s.isAgg=false→v.oneCell'=true):=by
 cases d with
 |agg t l=>
  simp[D.fits]at hf
  subst hf
  obtain⟨cs,rfl,h1,h2⟩:=h
  refine⟨h1,by simpa[D.flat,Value.cells]using h2,fun _=>⟨cs,rfl⟩,fun ha=>?_⟩
  have:=h1.oO ha
  simp[D.ee]at this
 |cA l=>cases s<;>simp[D.fits]at hf
 |raw x=>
  have h':LR ρ w T (.raw x) v:=h
  have h1:=h'.one
  have hl:=h'.leaf
  cases s<;>simp[D.fits]at hf
  ·exact⟨.leaf _ x hf,by rw[wh h1,cj hl];exact aY.single h',by simp[Sh.isAgg],fun _=>h1⟩
  ·exact⟨.ref _ hl,by rw[wh h1,cj hl];exact aY.single h',by simp[Sh.isAgg],fun _=>h1⟩
 | _=>
  have h':LR ρ w T _ v:=h
  have h1:=h'.one
  have hl:=h'.leaf
  cases s<;>simp[D.fits]at hf
  exact⟨.ref _ hl,by rw[wh h1,cj hl];exact aY.single h',by simp[Sh.isAgg],fun _=>h1⟩
theorem pQ.K6{ρ:Pl}{w:World}{T:Nat→Prop}{d:D}{s:Sh}{cs:Array Value}(h:aK s d)(ha:s.isAgg=true)(hc:aY (LR ρ w T) d.flat cs.toList):pQ ρ w T d (.agg cs):=by
 obtain⟨l,rfl,_⟩:=h.iJ ha
 exact⟨cs,rfl,h,by simpa[D.flat]using hc⟩
theorem pQ.bG{ρ:Pl}{w:World}{T:Nat→Prop}{d:D}{v:Value}(hc:LR ρ w T d v):pQ ρ w T d v:=by
 cases d<;>first|exact hc|cases hc
theorem VR.xg{ρ:Pl}{w:World}{T:Nat→Prop}{d:D}{v:Value}(hc:pQ ρ w T d v):VR ρ w T d v:=by
 cases d<;>first|exact hc|(cases hc)
theorem VR.bG{ρ:Pl}{w:World}{T:Nat→Prop}{d:D}{v:Value}(hc:LR ρ w T d v):VR ρ w T d v:=VR.xg (pQ.bG hc)
theorem VR.raw{ρ:Pl}{w:World}{T:Nat→Prop}{v:Value}(h:v.oneCell'=true):VR ρ w T (.raw v) v:=VR.bG (.raw v h)
theorem VR.ofRaw{ρ:Pl}{w:World}{T:Nat→Prop}{v x:Value}(h:VR ρ w T (.raw x) v):v=x:=by
 have h':LR ρ w T (.raw x) v:=h
 cases h'
 rfl
theorem VR.y7{ρ:Pl}{w:World}{T:Nat→Prop}{d:D}{v:Value}(h:VR ρ w T d v)(hl:d.ee=true):LR ρ w T d v:=by
 cases d<;>first|exact h|simp[D.ee]at hl
def FrOK(n:Nat)(fr:Nat×Nat):Prop:=fr=(0,0)∨n≤fr.1
def ng(w:World)(b:Nat)(cur:Array Value)(t:TypeId):Prop:=∃fr,w.heap[b]?=some (.cells cur t fr)∧FrOK cur.size fr
theorem ng.same{w w':World}{b:Nat}{cur:Array Value}{t:TypeId}(h:ng w b cur t)(hb:w'.heap[b]?=w.heap[b]?):ng w' b cur t:=by
 obtain⟨fr,h1,h2⟩:=h
 exact⟨fr,hb.trans h1,h2⟩
theorem ng.Vu{w:World}{b:Nat}{cur ov:Array Value}{t t':TypeId}(h:ng w b cur t)(h':ng w b ov t'):cur=ov∧t=t':=by
 obtain⟨fr,h1,_⟩:=h
 obtain⟨fr',h2,_⟩:=h'
 rw[h1]at h2
 cases h2
 exact⟨rfl,rfl⟩
theorem ng.setRow{w:World}{b:Nat}{cur ov:Array Value}{t:TypeId}(h:ng w b cur t)(hs:ov.size=cur.size):ng (w.setRow b ov) b ov t:=by
 obtain⟨fr,h1,h2⟩:=h
 exact⟨fr,setRow_heap w b cur ov t fr h1,by rw[hs];exact h2⟩
theorem FrOK.not{w:World}{b o:Nat}{cur:Array Value}{t:TypeId}{fr:Nat×Nat}(h1:w.heap[b]?=some (.cells cur t fr))(h2:FrOK cur.size fr)(ho:o<cur.size):w.frozen? ⟨b,o,none⟩=false:=by
 obtain⟨lo,hi⟩:=fr
 rcases h2 with h2|h2
 ·cases h2
  simp[World.frozen?,h1]
 ·simp only[World.frozen?,h1]
  simp at h2
  simp
  omega
def qK(w w':World)(b:Nat):Prop:=∃cur t fr fr',w.heap[b]?=some (.cells cur t fr)∧w'.heap[b]?=some (.cells cur t fr')∧FrOK cur.size fr'
theorem qK.row{w w':World}{b:Nat}{cur:Array Value}{t:TypeId}(h:qK w w' b)(hr:ng w b cur t):ng w' b cur t:=by
 obtain⟨c,t',fr,fr',h1,h2,h3⟩:=h
 obtain⟨fr0,h4,_⟩:=hr
 rw[h1]at h4
 cases h4
 exact⟨fr',h2,h3⟩
structure lH (ρ:Pl) (row:Row) (L:Loc) (w:World) (T:Nat→Prop):Prop where
 sh:L.sh=row.sh
 mj:¬T L.b
 els:∀d∈row.els,aK row.sh d
 cells:L.mp=false→∃cur t,ng w L.b cur t∧L.room≤cur.size∧(au row.els).length≤L.room∧aY (LR ρ w T) (au row.els) (cur.toList.take (au row.els).length)
 oQ:L.mp=true→∃es clock,w.heap[L.b]?=some (.map es clock)∧oP row.sh row.els es
def QH(ρ:Pl)(rows:Rows)(w w':World):Prop:=∀b,b<w.heap.size→w'.heap[b]?=w.heap[b]?∨(qK w w' b∧∃r row L,live rows r=some row∧ρ r=some L∧L.b=b)
structure iV (ρ:Pl) (rows:Rows) (w:World) (T:Nat→Prop):Prop where
 row:∀r row L,live rows r=some row→ρ r=some L→lH ρ row L w T
 jg:∀r r' row row' L L',live rows r=some row→live rows r'=some row'→ρ r=some L→ρ r'=some L'→r≠r'→L.b≠L'.b
theorem lH.lt{ρ:Pl}{row:Row}{L:Loc}{w:World}{T:Nat→Prop}(h:lH ρ row L w T):L.b<w.heap.size:=by
 cases hm:L.mp with
 |false=>
  obtain⟨cur,t,⟨_,hh,_⟩,_⟩:=h.cells hm
  exact(Array.getElem?_eq_some_iff.1 hh).1
 |true=>
  obtain⟨es,clock,hh,_⟩:=h.oQ hm
  exact(Array.getElem?_eq_some_iff.1 hh).1
theorem lH.mono{ρ ρ':Pl}{row:Row}{L:Loc}{w w':World}{T T':Nat→Prop}(h:lH ρ row L w T)(hρ:∀r L,ρ r=some L→ρ' r=some L)
  (hw:∀b,T b→w'.heap[b]?=w.heap[b]?)(hT:∀b,T b→T' b)(hb:w'.heap[L.b]?=w.heap[L.b]?)(hn:¬T' L.b):lH ρ' row L w' T':=by
 refine⟨h.sh,hn,h.els,fun hm=>?_,fun hm=>?_⟩
 ·obtain⟨cur,t,h1,h2,h3,h4⟩:=h.cells hm
  exact⟨cur,t,h1.same hb,h2,h3,h4.mono fun a b h=>h.mono hρ hw hT⟩
 ·obtain⟨es,clock,h1,h2⟩:=h.oQ hm
  exact⟨es,clock,hb.trans h1,h2⟩
theorem lH.Vv{ρ ρ':Pl}{row:Row}{L:Loc}{w w':World}{T T':Nat→Prop}(h:lH ρ row L w T)(hρ:∀r L,ρ r=some L→ρ' r=some L)
  (hw:∀b,T b→w'.heap[b]?=w.heap[b]?)(hT:∀b,T b→T' b)(hb:w'.heap[L.b]?=w.heap[L.b]?∨qK w w' L.b)(hn:¬T' L.b):lH ρ' row L w' T':=by
 refine⟨h.sh,hn,h.els,fun hm=>?_,fun hm=>?_⟩
 ·obtain⟨cur,t,h1,h2,h3,h4⟩:=h.cells hm
  refine⟨cur,t,?_,h2,h3,h4.mono fun a b h=>h.mono hρ hw hT⟩
  rcases hb with hb|hb
  ·exact h1.same hb
  ·exact hb.row h1
 ·obtain⟨es,clock,h1,h2⟩:=h.oQ hm
  rcases hb with hb|⟨cur,t,fr,fr',h3,_⟩
  ·exact⟨es,clock,hb.trans h1,h2⟩
  ·rw[h1]at h3;cases h3
def Ey(ρ:Pl)(w:World)(T:Nat→Prop)(env:Env)(tmps:Array Value):Prop:=∀t d,look env t=some d→VR ρ w T d (tmps.getD t undef)
theorem Ey.mono{ρ ρ':Pl}{w w':World}{T T':Nat→Prop}{env:Env}{tmps:Array Value}(h:Ey ρ w T env tmps)(hρ:∀r L,ρ r=some L→ρ' r=some L)
  (hw:∀b,T b→w'.heap[b]?=w.heap[b]?)(hT:∀b,T b→T' b):Ey ρ' w' T' env tmps:=fun t d hd=>(h t d hd).mono hρ hw hT
theorem Ey.put{ρ:Pl}{w:World}{T:Nat→Prop}{env:Env}{a:Act}{dst:Option Nat}{d:D}{v:Value}(h:Ey ρ w T env a.tmps)(hv:VR ρ w T d v)
  (hd:∀t,dst=some t→t<a.tmps.size):Ey ρ w T (Am.put dst d env) (a.put dst v).tmps:=by
 cases dst with
 |none=>exact h
 | some t =>
  intro t' d' hl
  have ht:=hd t rfl
  simp only[Am.put,look]at hl
  simp only[Act.put]
  cases hb:(t==t')with
  |true=>
   have:t=t':=by simpa using hb
   subst this
   simp[hb]at hl
   subst hl
   simpa[Array.getD,ht]using hv
  |false=>
   have hne:t≠t':=by simpa using hb
   simp[hb]at hl
   have:=h t' d' hl
   simpa[Array.getElem?_setIfInBounds,hne]using this
structure Step (ρ:Pl) (T:Nat→Prop) (rows:Rows) (w:World) (ρ':Pl) (T':Nat→Prop) (ab:Rows) (w':World):Prop where
 pl:∀r L,ρ r=some L→ρ' r=some L
 tt:∀b,T b→T' b
 um:∀b,T' b→T b∨w.heap.size≤b∨∃r row L,live rows r=some row∧ρ r=some L∧L.b=b
 size:w.heap.size≤w'.heap.size
 keep:∀b,b<w.heap.size→(∀r row L,live rows r=some row→ρ r=some L→L.b≠b)→w'.heap[b]?=w.heap[b]?
 fresh:∀r row L,live ab r=some row→ρ' r=some L→(∃r0 oR L0,live rows r0=some oR∧ρ r0=some L0∧L0.b=L.b)∨w.heap.size≤L.b
 os:w'.os=w.os
 tape:w'.tape=w.tape
 output:w'.output=w.output
 len:rows.length≤ab.length
 same:∀r,r<rows.length→ρ' r=ρ r
theorem Step.refl(ρ:Pl)(T:Nat→Prop)(rows:Rows)(w:World):Step ρ T rows w ρ T rows w:=
 ⟨fun _ _ h=>h,fun _ h=>h,fun _ h=> .inl h,Nat.le_refl _,fun _ _ _=>rfl,fun r row L h1 h2=> .inl ⟨r,row,L,h1,h2,rfl⟩,rfl,rfl,rfl,Nat.le_refl _,fun _ _=>rfl⟩
theorem Step.trans{ρ ρ' Vw:Pl}{T T' US:Nat→Prop}{rows ab Ez:Rows}{w w' w'':World}(h:Step ρ T rows w ρ' T' ab w')(h':Step ρ' T' ab w' Vw US Ez w''):
  Step ρ T rows w Vw US Ez w'':=by
 refine⟨fun r L hr=>h'.pl r L (h.pl r L hr),fun b hb=>h'.tt b (h.tt b hb),fun b hb=>?_,Nat.le_trans h.size h'.size,fun b hb hn=>?_,fun r row L h1 h2=>?_,
  h'.os.trans h.os,h'.tape.trans h.tape,h'.output.trans h.output,Nat.le_trans h.len h'.len,fun r hr=>(h'.same r (Nat.lt_of_lt_of_le hr h.len)).trans (h.same r hr)⟩
 ·rcases h'.um b hb with h1|h1|⟨r,row,L,h1,h2,h3⟩
  ·exact h.um b h1
  ·exact .inr (.inl (Nat.le_trans h.size h1))
  ·rcases h.fresh r row L h1 h2 with⟨r0,oR,L0,h4,h5,h6⟩|h4
   ·exact .inr (.inr ⟨r0,oR,L0,h4,h5,h6.trans h3⟩)
   ·exact .inr (.inl (by omega))
 ·rw[h'.keep b (Nat.lt_of_lt_of_le hb h.size),h.keep b hb hn]
  intro r row L h1 h2 he
  rcases h.fresh r row L h1 h2 with⟨r0,oR,L0,h3,h4,h5⟩|h3
  ·exact hn r0 oR L0 h3 h4 (h5.trans he)
  ·omega
 ·rcases h'.fresh r row L h1 h2 with⟨r0,oR,L0,h3,h4,h5⟩|h3
  ·rcases h.fresh r0 oR L0 h3 h4 with⟨r1,Di,L1,h6,h7,h8⟩|h6
   ·exact .inl ⟨r1,Di,L1,h6,h7,h8.trans h5⟩
   ·exact .inr (h5▸h6)
  ·exact .inr (Nat.le_trans h.size h3)
structure dO (n:Nat) (ρ:Pl) (T:Nat→Prop) (env:Env) (rows:Rows) (a:Act) (w:World):Prop where
 bD:iV ρ rows w T
 env:Ey ρ w T env a.tmps
 size:a.tmps.size=n
 uo:∀b,T b→b<w.heap.size
 ur:∀r,rows.length≤r→ρ r=none
 defers:a.defers=[]
theorem dO.put{n:Nat}{ρ:Pl}{T:Nat→Prop}{env:Env}{rows:Rows}{a:Act}{w:World}(h:dO n ρ T env rows a w){dst:Option Nat}{d:D}{v:Value}(hv:VR ρ w T d v)
  (hd:∀t,dst=some t→t<n):dO n ρ T (Am.put dst d env) rows (a.put dst v) w:=
 ⟨h.bD,h.env.put hv (fun t ht=>by rw[h.size];exact hd t ht),by cases dst<;>simp[Act.put,h.size],h.uo,h.ur,by cases dst<;>simp[Act.put,h.defers]⟩
def sE(ρ:Pl)(r:Nat)(L:Loc):Pl:=fun r'=>if r'=r then some L else ρ r'
theorem EA{ρ:Pl}{r:Nat}{L:Loc}(h:ρ r=none):∀r' L',ρ r'=some L'→sE ρ r L r'=some L':=by
 intro r' L' h'
 unfold sE
 split
 ·rename_i e;subst e;simp[h]at h'
 ·exact h'
theorem dO.build{n:Nat}{ρ ρ':Pl}{T:Nat→Prop}{env:Env}{rows ab:Rows}{a:Act}{w w':World}(h:dO n ρ T env rows a w)(B:Nat)(r0:Nat)(oR:Row)(L0:Loc)
  (hρ:∀r L,ρ r=some L→ρ' r=some L)(hB:¬T B)(Vx:L0.b=B)(hρ0:ρ' r0=some L0)(hsz:w.heap.size≤w'.heap.size)
  (hw:∀b,b≠B→b<w.heap.size→w'.heap[b]?=w.heap[b]?)(hos:w'.os=w.os)(uQ:w'.tape=w.tape)(hout:w'.output=w.output)
  (hrow0:lH ρ' oR L0 w' T)(Vy:(∃r row L,live rows r=some row∧ρ r=some L∧L.b=B)∨w.heap.size≤B)
  (qc:∀r row,live ab r=some row→(r=r0∧row=oR)∨(r≠r0∧live rows r=some row∧∀L,ρ' r=some L→ρ r=some L∧L.b≠B))
  (kq:∀r,ab.length≤r→ρ' r=none)(hlen:rows.length≤ab.length)(hsame:∀r,r<rows.length→ρ' r=ρ r):dO n ρ' T env ab a w'∧Step ρ T rows w ρ' T ab w':=by
 have hTw:∀b,T b→w'.heap[b]?=w.heap[b]?:=fun b hb=>hw b (fun e=>hB (e▸hb)) (h.uo b hb)
 refine⟨⟨⟨?_,?_⟩,h.env.mono hρ hTw (fun _ h=>h),h.size,fun b hb=>Nat.lt_of_lt_of_le (h.uo b hb) hsz,kq,h.defers⟩,
  ⟨hρ,fun _ h=>h,fun _ h=> .inl h,hsz,?_,?_,hos,uQ,hout,hlen,hsame⟩⟩
 ·intro r row L h1 h2
  rcases qc r row h1 with⟨rfl,rfl⟩|⟨hr,h3,h4⟩
  ·rw[hρ0]at h2;cases h2;exact hrow0
  ·obtain⟨h5,h6⟩:=h4 L h2
   have:=h.bD.row r row L h3 h5
   exact this.mono hρ hTw (fun _ h=>h) (hw _ h6 this.lt) this.mj
 ·intro r r' row row' L L' h1 h2 h3 h4 hne
  rcases qc r row h1 with⟨rfl,rfl⟩|⟨hr,h5,h6⟩
  ·rw[hρ0]at h3;cases h3
   rcases qc r' row' h2 with⟨rfl,rfl⟩|⟨sF,h7,h8⟩
   ·exact absurd rfl hne
   ·rw[Vx];exact fun e=>(h8 L' h4).2 e.symm
  ·rcases qc r' row' h2 with⟨rfl,rfl⟩|⟨sF,h7,h8⟩
   ·rw[hρ0]at h4;cases h4
    rw[Vx];exact(h6 L h3).2
   ·exact h.bD.jg r r' row row' L L' h5 h7 (h6 L h3).1 (h8 L' h4).1 hne
 ·intro b hb hn
  refine hw b ?_ hb
  rintro rfl
  rcases Vy with⟨r,row,L,h1,h2,h3⟩|h1
  ·exact hn r row L h1 h2 h3
  ·omega
 ·intro r row L h1 h2
  rcases qc r row h1 with⟨rfl,rfl⟩|⟨hr,h3,h4⟩
  ·rw[hρ0]at h2;cases h2
   rcases Vy with⟨r,row,L,h1,h2,h3⟩|h1
   ·exact .inl ⟨r,row,L,h1,h2,by rw[h3,Vx]⟩
   ·exact .inr (by rw[Vx];exact h1)
  ·exact .inl ⟨r,row,L,h3,(h4 L h2).1,rfl⟩
theorem dO.heap{n:Nat}{ρ:Pl}{T:Nat→Prop}{env:Env}{rows:Rows}{a:Act}{w w':World}(h:dO n ρ T env rows a w)(hh:w'.heap=w.heap):dO n ρ T env rows a w':=by
 have hT:∀b,T b→w'.heap[b]?=w.heap[b]?:=fun b _=>by rw[hh]
 refine⟨⟨fun r row L h1 h2=>?_,h.bD.jg⟩,h.env.mono (fun _ _ h=>h) hT (fun _ h=>h),h.size,fun b hb=>by rw[hh];exact h.uo b hb,h.ur,h.defers⟩
 exact(h.bD.row r row L h1 h2).mono (fun _ _ h=>h) hT (fun _ h=>h) (by rw[hh]) (h.bD.row r row L h1 h2).mj
theorem tG(rows:Rows)(row:Row):live (rows++[some row]) rows.length=some row:=by simp[live]
theorem qd{rows:Rows}{row row':Row}{r:Nat}(h:live (rows++[some row']) r=some row):(r=rows.length∧row=row')∨(r<rows.length∧live rows r=some row):=by
 unfold live at h⊢
 rcases Nat.lt_trichotomy r rows.length with h1|h1|h1
 ·right
  rw[List.getElem?_append_left h1]at h
  exact⟨h1,h⟩
 ·left
  subst h1
  simp at h
  exact⟨rfl,h.symm⟩
 ·rw[List.getElem?_append_right (by omega)]at h
  have:r-rows.length≠0:=by omega
  obtain⟨k,hk⟩:=Nat.exists_eq_succ_of_ne_zero this
  rw[hk]at h
  simp at h
theorem bn{rows:Rows}{r:Nat}{row:Row}(h:live rows r=some row):r<rows.length:=by
 unfold live at h
 split at h
 ·rename_i hh;exact cN hh
 ·cases h
theorem y8{rows:Rows}{x:Option Row}{r r':Nat}{row:Row}(h:live (rows.set r x) r'=some row):(r'=r∧x=some row)∨(r'≠r∧live rows r'=some row):=by
 unfold live at h⊢
 rw[List.getElem?_set]at h
 by_cases hr:r=r'
 ·subst hr
  left
  simp only[if_true]at h
  by_cases hl:r<rows.length
  ·simp only[hl,if_true]at h
   cases x with
   |none=>simp at h
   |some y=>simp at h;exact⟨rfl,by rw[h]⟩
  ·simp[hl]at h
 ·right
  simp only[hr,if_false]at h
  exact⟨fun e=>hr e.symm,h⟩
theorem mV{rows:Rows}{r:Nat}{row row':Row}(h:live rows r=some row):live (rows.set r (some row')) r=some row':=by
 simp[live,bn h]
theorem dO.push{n:Nat}{ρ:Pl}{T:Nat→Prop}{env:Env}{rows:Rows}{a:Act}{w w':World}(h:dO n ρ T env rows a w)(row:Row)(cur:Array Value)(t:TypeId)
  (hw':w'.heap=w.heap.push (.cells cur t))(hos:w'.os=w.os)(uQ:w'.tape=w.tape)(hout:w'.output=w.output)
  (fV:∀d∈row.els,aK row.sh d)(hlen:(au row.els).length≤cur.size)(hc:aY (LR ρ w T) (au row.els) (cur.toList.take (au row.els).length)):
  dO n (sE ρ rows.length ⟨w.heap.size,row.sh,cur.size,false⟩) T env (rows++[some row]) a w'∧Step ρ T rows w (sE ρ rows.length ⟨w.heap.size,row.sh,cur.size,false⟩) T (rows++[some row]) w':=by
 have hnT:¬T w.heap.size:=fun hT=>Nat.lt_irrefl _ (h.uo _ hT)
 have EB:=EA (L:=(⟨w.heap.size,row.sh,cur.size,false⟩:Loc)) (h.ur rows.length (Nat.le_refl _))
 have hold:∀b,b≠w.heap.size→b<w.heap.size→w'.heap[b]?=w.heap[b]?:=by
  intro b hb _
  rw[hw',Array.getElem?_push,if_neg hb]
 refine h.build w.heap.size rows.length row ⟨w.heap.size,row.sh,cur.size,false⟩ EB hnT rfl (by simp[sE]) (by simp[hw']) hold hos uQ hout ?_ (.inr (Nat.le_refl _)) ?_ ?_ (by simp) (fun r hr=>by unfold sE;rw[if_neg (by omega)])
 ·exact⟨rfl,hnT,fV,fun _=>⟨cur,t,⟨(0,0),by simp[hw'],.inl rfl⟩,Nat.le_refl _,hlen,hc.mono fun a b h'=>h'.mono EB (fun b hb=>hold b (fun e=>hnT (e▸hb)) (h.uo b hb)) (fun _ h=>h)⟩,fun h=>by cases h⟩
 ·intro r row' hl
  rcases qd hl with⟨rfl,rfl⟩|⟨h1,h2⟩
  ·exact .inl ⟨rfl,rfl⟩
  ·refine .inr ⟨by omega,h2,fun L hL=>?_⟩
   have:ρ r=some L:=by
    unfold sE at hL
    rw[if_neg (by omega)]at hL
    exact hL
   exact⟨this,fun e=>by have:=(h.bD.row r row' L h2 this).lt;omega⟩
 ·intro r hr
  simp at hr
  unfold sE
  rw[if_neg (by omega)]
  exact h.ur r (by omega)
theorem dO.write{n:Nat}{ρ:Pl}{T:Nat→Prop}{env:Env}{rows:Rows}{a:Act}{w:World}(h:dO n ρ T env rows a w){r:Nat}{row:Row}{L:Loc}(hl:live rows r=some row)(hL:ρ r=some L)
  (els:List D)(cur ov:Array Value)(t:TypeId)(hmp:L.mp=false)(NN:ng w L.b cur t)(hsz:ov.size=cur.size)(fV:∀d∈els,aK row.sh d)
  (hlen:(au els).length≤L.room)(hc:aY (LR ρ w T) (au els) (ov.toList.take (au els).length)):
  dO n ρ T env (rows.set r (some ⟨row.sh,els⟩)) a (w.setRow L.b ov)∧Step ρ T rows w ρ T (rows.set r (some ⟨row.sh,els⟩)) (w.setRow L.b ov):=by
 have hrow:=h.bD.row r row L hl hL
 have hold:∀b,b≠L.b→b<w.heap.size→(w.setRow L.b ov).heap[b]?=w.heap[b]?:=fun b hb _=>setRow_other w L.b b ov hb
 obtain⟨cur0,t0,hc0,hroom,_,_⟩:=hrow.cells hmp
 obtain⟨rfl,rfl⟩:=NN.Vu hc0
 refine h.build L.b r ⟨row.sh,els⟩ L (fun _ _ h=>h) hrow.mj rfl hL (by simp) hold rfl rfl rfl ?_ (.inl ⟨r,row,L,hl,hL,rfl⟩) ?_ ?_ (by simp) (fun _ _=>rfl)
 ·exact⟨hrow.sh,hrow.mj,fV,fun _=>⟨ov,t,NN.setRow hsz,by omega,hlen,
   hc.mono fun a b h'=>h'.mono (fun _ _ h=>h) (fun b hb=>hold b (fun e=>hrow.mj (e▸hb)) (h.uo b hb)) (fun _ h=>h)⟩,fun hm=>by rw[hmp]at hm;cases hm⟩
 ·intro r' row' mh
  rcases y8 mh with⟨rfl,he⟩|⟨h1,h2⟩
  ·cases he;exact .inl ⟨rfl,rfl⟩
  ·exact .inr ⟨h1,h2,fun L' I1=>⟨I1,h.bD.jg r' r row' row L' L h2 hl I1 hL h1⟩⟩
 ·intro r' sF
  simp at sF
  exact h.ur r' sF
theorem dO.kill{n:Nat}{ρ:Pl}{T:Nat→Prop}{env:Env}{rows:Rows}{a:Act}{w:World}(h:dO n ρ T env rows a w)(r:Nat):
  dO n ρ T env (rows.set r none) a w∧Step ρ T rows w ρ T (rows.set r none) w:=by
 have hk:∀r' row,live (rows.set r none) r'=some row→live rows r'=some row:=by
  intro r' row hl
  rcases y8 hl with⟨_,he⟩|⟨_,h2⟩
  ·cases he
  ·exact h2
 refine⟨⟨⟨fun r' row L h1 h2=>h.bD.row r' row L (hk _ _ h1) h2,fun r1 r2 Di nL L1 L2 h1 h2=>h.bD.jg r1 r2 Di nL L1 L2 (hk _ _ h1) (hk _ _ h2)⟩,h.env,h.size,h.uo,fun r' sF=>h.ur r' (by simpa using sF),h.defers⟩,?_⟩
 exact⟨fun _ _ h=>h,fun _ h=>h,fun _ h=> .inl h,Nat.le_refl _,fun _ _ _=>rfl,fun r' row L h1 h2=> .inl ⟨r',row,L,hk _ _ h1,h2,rfl⟩,rfl,rfl,rfl,by simp,fun _ _=>rfl⟩
theorem dO.move{n:Nat}{ρ:Pl}{T:Nat→Prop}{env:Env}{rows:Rows}{a:Act}{w:World}(h:dO n ρ T env rows a w){r:Nat}{row:Row}{L:Loc}(hl:live rows r=some row)(hL:ρ r=some L)
  (els:List D)(cur ov:Array Value)(t:TypeId)(hmp:L.mp=false)(NN:ng w L.b cur t)(hsz:ov.size=cur.size)(fV:∀d∈els,aK row.sh d)
  (hlen:(au els).length≤L.room)(hc:aY (LR ρ w T) (au els) (ov.toList.take (au els).length)):
  dO n (sE ρ rows.length L) T env (rows.set r none++[some ⟨row.sh,els⟩]) a (w.setRow L.b ov)∧Step ρ T rows w (sE ρ rows.length L) T (rows.set r none++[some ⟨row.sh,els⟩]) (w.setRow L.b ov):=by
 have hrow:=h.bD.row r row L hl hL
 have hold:∀b,b≠L.b→b<w.heap.size→(w.setRow L.b ov).heap[b]?=w.heap[b]?:=fun b hb _=>setRow_other w L.b b ov hb
 have EB:=EA (L:=L) (h.ur rows.length (Nat.le_refl _))
 obtain⟨cur0,t0,hc0,hroom,_,_⟩:=hrow.cells hmp
 obtain⟨rfl,rfl⟩:=NN.Vu hc0
 refine h.build L.b rows.length ⟨row.sh,els⟩ L EB hrow.mj rfl (by simp[sE]) (by simp) hold rfl rfl rfl ?_ (.inl ⟨r,row,L,hl,hL,rfl⟩) ?_ ?_ (by simp) (fun r hr=>by unfold sE;rw[if_neg (by omega)])
 ·exact⟨hrow.sh,hrow.mj,fV,fun _=>⟨ov,t,NN.setRow hsz,by omega,hlen,
   hc.mono fun a b h'=>h'.mono EB (fun b hb=>hold b (fun e=>hrow.mj (e▸hb)) (h.uo b hb)) (fun _ h=>h)⟩,fun hm=>by rw[hmp]at hm;cases hm⟩
 ·intro r' row' mh
  rcases qd mh with⟨h1,rfl⟩|⟨h1,h2⟩
  ·exact .inl ⟨by simpa using h1,rfl⟩
  ·simp at h1
   rcases y8 h2 with⟨_,he⟩|⟨h3,h4⟩
   ·cases he
   ·refine .inr ⟨by omega,h4,fun L' I1=>?_⟩
    have hL'':ρ r'=some L':=by
     unfold sE at I1
     rw[if_neg (by omega)]at I1
     exact I1
    exact⟨hL'',h.bD.jg r' r row' row L' L h4 hl hL'' hL h3⟩
 ·intro r' sF
  simp at sF
  unfold sE
  rw[if_neg (by omega)]
  exact h.ur r' (by omega)
theorem dO.grow{n:Nat}{ρ:Pl}{T:Nat→Prop}{env:Env}{rows:Rows}{a:Act}{w w':World}(h:dO n ρ T env rows a w)(o:Obj)
  (hw':w'.heap=w.heap.push o)(hos:w'.os=w.os)(uQ:w'.tape=w.tape)(hout:w'.output=w.output):
  dO n ρ (fun b=>T b∨b=w.heap.size) env rows a w'∧Step ρ T rows w ρ (fun b=>T b∨b=w.heap.size) rows w':=by
 have hold:∀b,b<w.heap.size→w'.heap[b]?=w.heap[b]?:=by
  intro b hb
  rw[hw',Array.getElem?_push,if_neg (by omega)]
 have hT:∀b,T b→w'.heap[b]?=w.heap[b]?:=fun b hb=>hold b (h.uo b hb)
 refine⟨⟨⟨fun r row L h1 h2=>?_,h.bD.jg⟩,h.env.mono (fun _ _ h=>h) hT (fun _ h=> .inl h),h.size,?_,h.ur,h.defers⟩,
  ⟨fun _ _ h=>h,fun _ h=> .inl h,?_,by simp[hw'],fun b hb _=>hold b hb,fun r row L h1 h2=> .inl ⟨r,row,L,h1,h2,rfl⟩,hos,uQ,hout,Nat.le_refl _,fun _ _=>rfl⟩⟩
 ·have hr:=h.bD.row r row L h1 h2
  refine hr.mono (fun _ _ h=>h) hT (fun _ h=> .inl h) (hold _ hr.lt) ?_
  rintro(h3|h3)
  ·exact hr.mj h3
  ·have:=hr.lt;omega
 ·rintro b (h1|h1)
  ·have:=h.uo b h1;simp[hw'];omega
  ·simp[hw'];omega
 ·rintro b (h1|h1)
  ·exact .inl h1
  ·exact .inr (.inl (by omega))
theorem dO.pushMap{n:Nat}{ρ:Pl}{T:Nat→Prop}{env:Env}{rows:Rows}{a:Act}{w w':World}(h:dO n ρ T env rows a w)(s:Sh)(hp:s.pure=true)
  (hw':w'.heap=w.heap.push (.map #[] 0))(hos:w'.os=w.os)(uQ:w'.tape=w.tape)(hout:w'.output=w.output):
  dO n (sE ρ rows.length ⟨w.heap.size,s,0,true⟩) T env (rows++[some ⟨s,[]⟩]) a w'∧Step ρ T rows w (sE ρ rows.length ⟨w.heap.size,s,0,true⟩) T (rows++[some ⟨s,[]⟩]) w':=by
 have hnT:¬T w.heap.size:=fun hT=>Nat.lt_irrefl _ (h.uo _ hT)
 have EB:=EA (L:=(⟨w.heap.size,s,0,true⟩:Loc)) (h.ur rows.length (Nat.le_refl _))
 have hold:∀b,b≠w.heap.size→b<w.heap.size→w'.heap[b]?=w.heap[b]?:=by
  intro b hb _
  rw[hw',Array.getElem?_push,if_neg hb]
 refine h.build w.heap.size rows.length ⟨s,[]⟩ ⟨w.heap.size,s,0,true⟩ EB hnT rfl (by simp[sE]) (by simp[hw']) hold hos uQ hout ?_ (.inr (Nat.le_refl _)) ?_ ?_ (by simp) (fun r hr=>by unfold sE;rw[if_neg (by omega)])
 ·refine⟨rfl,hnT,fun _ hd=>by simp at hd,fun hm=>(by cases hm),fun _=>⟨#[],0,by simp[hw'],⟨hp,fun e he=>by simp at he,by simp,fun k v=>?_⟩⟩⟩
  simp[firstM]
 ·intro r row' hl
  rcases qd hl with⟨rfl,rfl⟩|⟨h1,h2⟩
  ·exact .inl ⟨rfl,rfl⟩
  ·refine .inr ⟨by omega,h2,fun L hL=>?_⟩
   have:ρ r=some L:=by
    unfold sE at hL
    rw[if_neg (by omega)]at hL
    exact hL
   exact⟨this,fun e=>by have:=(h.bD.row r row' L h2 this).lt;omega⟩
 ·intro r hr
  simp at hr
  unfold sE
  rw[if_neg (by omega)]
  exact h.ur r (by omega)
theorem dO.Vz{n:Nat}{ρ:Pl}{T:Nat→Prop}{env:Env}{rows:Rows}{a:Act}{w w':World}(h:dO n ρ T env rows a w){r:Nat}{row:Row}{L:Loc}(hl:live rows r=some row)(hL:ρ r=some L)
  (els:List D)(es:Array MapEntry)(clock:Nat)(hmp:L.mp=true)(fV:∀d∈els,aK row.sh d)(hR:oP row.sh els es)
  (hb:w'.heap[L.b]?=some (.map es clock))(hold:∀b,b≠L.b→w'.heap[b]?=w.heap[b]?)(hsz:w'.heap.size=w.heap.size)(hos:w'.os=w.os)(uQ:w'.tape=w.tape)(hout:w'.output=w.output):
  dO n ρ T env (rows.set r (some ⟨row.sh,els⟩)) a w'∧Step ρ T rows w ρ T (rows.set r (some ⟨row.sh,els⟩)) w':=by
 have hrow:=h.bD.row r row L hl hL
 refine h.build L.b r ⟨row.sh,els⟩ L (fun _ _ h=>h) hrow.mj rfl hL (by omega) (fun b hb _=>hold b hb) hos uQ hout ?_ (.inl ⟨r,row,L,hl,hL,rfl⟩) ?_ ?_ (by simp) (fun _ _=>rfl)
 ·exact⟨hrow.sh,hrow.mj,fV,fun hm=>(by rw[hmp]at hm;cases hm),fun _=>⟨es,clock,hb,hR⟩⟩
 ·intro r' row' mh
  rcases y8 mh with⟨rfl,he⟩|⟨h1,h2⟩
  ·cases he;exact .inl ⟨rfl,rfl⟩
  ·exact .inr ⟨h1,h2,fun L' I1=>⟨I1,h.bD.jg r' r row' row L' L h2 hl I1 hL h1⟩⟩
 ·intro r' sF
  simp at sF
  exact h.ur r' sF
theorem Step.tnew0{ρ ρ':Pl}{T T':Nat→Prop}{ab:Rows}{w w':World}(h:Step ρ T [] w ρ' T' ab w'):∀b,T' b→T b∨w.heap.size≤b:=by
 intro b hb
 rcases h.um b hb with h1|h1|⟨r,row,L,h1,_⟩
 ·exact .inl h1
 ·exact .inr h1
 ·simp[live]at h1
theorem dO.mark{n:Nat}{ρ:Pl}{T:Nat→Prop}{env:Env}{rows:Rows}{a:Act}{w w':World}{r:Nat}{row:Row}{L:Loc}(h:dO n ρ T env rows a w)(hl:live rows r=some row)(hL:ρ r=some L)
  (hsz:w'.heap.size=w.heap.size)(hw:∀b,b≠L.b→w'.heap[b]?=w.heap[b]?)(oD:qK w w' L.b)(hos:w'.os=w.os)(uQ:w'.tape=w.tape)(hout:w'.output=w.output):
  dO n ρ T env rows a w'∧Step ρ T rows w ρ T rows w':=by
 have hr:=h.bD.row r row L hl hL
 have hT:∀b,T b→w'.heap[b]?=w.heap[b]?:=fun b hb=>hw b (fun e=>hr.mj (e▸hb))
 refine⟨⟨⟨fun r' row' L' h1 h2=>?_,h.bD.jg⟩,h.env.mono (fun _ _ h=>h) hT (fun _ h=>h),h.size,fun b hb=>by rw[hsz];exact h.uo b hb,h.ur,h.defers⟩,
  ⟨fun _ _ h=>h,fun _ h=>h,fun _ h=> .inl h,by omega,fun b hb hn=>hw b (fun e=>hn r row L hl hL e.symm),fun r' row' L' h1 h2=> .inl ⟨r',row',L',h1,h2,rfl⟩,hos,uQ,hout,Nat.le_refl _,fun _ _=>rfl⟩⟩
 have sF:=h.bD.row r' row' L' h1 h2
 refine sF.Vv (fun _ _ h=>h) hT (fun _ h=>h) ?_ sF.mj
 by_cases e:L'.b=L.b
 ·rw[e];exact .inr oD
 ·exact .inl (hw _ e)
end Go.Am
namespace Go.Am
set_option linter.unusedVariables false
set_option linter.unusedSimpArgs false
theorem aY.seg{α β:Type}{R:α→β→Prop}{pre m post:List α}{cur:List β}{N:Nat}(h:aY R (pre++(m++post)) (cur.take N)):
  aY R m ((cur.drop pre.length).take m.length)∧pre.length+m.length≤cur.length:=by
 have hl:=h.len
 simp only[List.length_append,List.length_take]at hl
 have h1:=(h.drop pre.length).take m.length
 rw[List.drop_left,List.take_left]at h1
 refine⟨?_,by omega⟩
 have:((cur.take N).drop pre.length).take m.length=(cur.drop pre.length).take m.length:=by
  rw[List.drop_take,List.take_take,Nat.min_eq_left (by omega)]
 rwa [this]at h1
theorem lI(b o j:Nat):(⟨b,o,none⟩:Addr).add j=⟨b,o+j,none⟩:=by
 unfold Addr.add
 split
 ·rename_i h;subst h;rfl
 ·rfl
def At(w:World)(b o:Nat)(cs:List Value):Prop:=∀(j:Nat) (x:Value),cs[j]?=some x→w.cell? ⟨b,o+j,none⟩=some x
theorem At.take{w:World}{b o:Nat}{cs:List Value}(h:At w b o cs)(n:Nat):At w b o (cs.take n):=by
 intro j x hx
 rw[List.getElem?_take]at hx
 split at hx
 ·exact h j x hx
 ·cases hx
theorem At.drop{w:World}{b o:Nat}{cs:List Value}(h:At w b o cs)(n:Nat):At w b (o+n) (cs.drop n):=by
 intro j x hx
 rw[List.getElem?_drop]at hx
 rw[Nat.add_assoc]
 exact h _ x hx
theorem NO{w:World}{b o n:Nat}{cur:Array Value}{t:TypeId}(hg:ng w b cur t):At w b o ((cur.toList.drop o).take n):=by
 obtain⟨fr,hg,_⟩:=hg
 intro j x hx
 rw[List.getElem?_take]at hx
 split at hx
 ·rw[List.getElem?_drop]at hx
  rw[cell_of_row w b (o+j) cur t fr hg]
  simpa using hx
 ·cases hx
variable {C:be} {P:Program} {n:Nat} {ρ:Pl} {T:Nat→Prop} {env:Env} {rows:Rows} {a:Act} {w:World}
theorem iV.I2(h:iV ρ rows w T){s:Sh}{r:Nat}{p:List Nat}{v:Value}{row:Row}{d:D}(hv:LR ρ w T (.ptr s r p) v)(hl:live rows r=some row)(hg:cP row.els p=some d):
  ∃b o cs,v= .pointer (some ⟨b,o,none⟩)∧aK s d∧aY (LR ρ w T) d.flat cs∧At w b o cs:=by
 cases hv with
 | ptr _ _ _ L hL hp =>
  have hr:=h.row r row L hl hL
  obtain⟨cur,t,h1,h2,h3,h4⟩:=hr.cells (Loc.Eu hp)
  cases p with
  |nil=>simp[Loc.at]at hp
  |cons i p=>
   rw[Loc.wg (Loc.Eu hp),hr.sh]at hp
   obtain⟨h5,h6,pre,post,h7,h8⟩:=uP hr.els hp hg
   rw[h7]at h4
   have h9:=h4.seg
   refine⟨L.b,L.off (i::p),_,rfl,h5,h9.1,?_⟩
   have he:L.off (i::p)=pre.length:=by simp[Loc.off,hr.sh,h8]
   rw[he]
   exact NO h1
theorem y9{d:D}{ls:List D}{b o:Nat}{f:Nat→Value}(h1:∀i d,ls[i]?=some d→w.cell? ⟨b,o+i,none⟩=some (f i))(h2:∀i d,ls[i]?=some d→LR ρ w T d (f i)):
  aY (LR ρ w T) ls ((List.range ls.length).map f)∧At w b o ((List.range ls.length).map f):=by
 refine⟨⟨by simp,fun i x y hx hy=>?_⟩,fun j x hx=>?_⟩
 ·simp only[List.getElem?_map]at hy
  rw[List.getElem?_range (cN hx)]at hy
  simp at hy
  subst hy
  exact h2 i x hx
 ·have hj:=cN hx
  simp at hj
  simp only[List.getElem?_map,List.getElem?_range hj]at hx
  simp at hx
  subst hx
  exact h1 j _ (List.getElem?_eq_getElem hj)
theorem LR.za{d:D}{v:Value}(hv:LR ρ w T (.b5 d) v):∃b o cs s,v= .pointer (some ⟨b,o,none⟩)∧aK s d∧T b∧aY (LR ρ w T) d.flat cs∧At w b o cs:=by
 cases hv with
 |b5 s d b o f h1 hb h2 h3=>exact⟨b,o,_,s,rfl,h1,hb,(y9 (d:=d) h2 h3).1,(y9 (d:=d) h2 h3).2⟩
theorem LR.xW{d:D}{b o:Nat}{cs:List Value}{s:Sh}(h1:aK s d)(hb:T b)(h2:aY (LR ρ w T) d.flat cs)(h3:At w b o cs):LR ρ w T (.b5 d) (.pointer (some ⟨b,o,none⟩)):=by
 refine .b5 s d b o (fun i=>cs.getD i undef) h1 hb (fun i x hx=>?_) (fun i x hx=>?_)
 ·obtain⟨y,hy,_⟩:=h2.some hx
  rw[h3 i y hy]
  simp[List.getD,hy]
 ·obtain⟨y,hy,hr⟩:=h2.some hx
  simpa[List.getD,hy]using hr
theorem LR.K7{l:List D}{b o cap:Nat}{cs:List Value}{s:Sh}{ex:Bool}(h1:∀d∈l,aK s d)(hb:T b)(h2:aY (LR ρ w T) (au l) cs)(h3:At w b o cs)
  (h4:l.length≤cap)(h5:ex=true→cap=l.length):LR ρ w T (.cF s l ex) (.slice (some ⟨b,o,none⟩) l.length cap):=by
 refine .cF s l ex b o cap (fun i=>cs.getD i undef) h1 hb (fun i x hx=>?_) (fun i x hx=>?_) h4 h5
 ·obtain⟨y,hy,_⟩:=h2.some hx
  rw[h3 i y hy]
  simp[List.getD,hy]
 ·obtain⟨y,hy,hr⟩:=h2.some hx
  simpa[List.getD,hy]using hr
def NQ(ρ:Pl)(T:Nat→Prop)(rows:Rows)(b:Nat):Prop:=T b∨∃r row L,live rows r=some row∧ρ r=some L∧L.b=b
structure HA (rows:Rows) (ρ:Pl) (w:World) (T:Nat→Prop) (s:Sh) (l:List D) (v:Value) (k:Nat) (ad:Option Addr) (cap:Nat) (cs:List Value):Prop where
 hv:v= .slice ad k cap
 els:∀d∈l,aK s d
 len:l.length=k
 hcap:k≤cap
 hcs:aY (LR ρ w T) (au l) cs
 at_:∀(j:Nat) (x:Value),cs[j]?=some x→∃b o,ad=some ⟨b,o,none⟩∧w.cell? ⟨b,o+j,none⟩=some x
 nil:ad=none→cap=0
 adr:k≠0→∃b o,ad=some ⟨b,o,none⟩∧NQ ρ T rows b
theorem sL{s:Sh}{l:List D}{off len:Nat}(h:∀d∈l,aK s d)(hl:off+len≤l.length):
  ∃pre post,au l=pre++(au ((l.drop off).take len)++post)∧pre.length=off*s.size:=by
 refine⟨au (l.take off),au ((l.drop off).drop len),?_,?_⟩
 ·rw[←du,List.take_append_drop,←du,List.take_append_drop]
 ·rw[bb (fun d hd=>h d (List.mem_of_mem_take hd)),List.length_take,Nat.min_eq_left (by omega)]
theorem iV.holds(h:iV ρ rows w T){s:Sh}{d:D}{v:Value}{l:List D}{k:Nat}(hv:LR ρ w T d v)(he:elems rows d=some l)(hk:dK d=some k)(EC:l.length=k)(hs:eK s d=true):
  ∃ad cap cs,HA rows ρ w T s l v k ad cap cs:=by
 cases hv with
 | raw v hv =>
  cases v with
  |slice a len cap=>
   cases a<;>cases len<;>cases cap<;>simp[elems,dK]at he hk
   subst he;subst hk
   exact⟨none,0,[],rfl,by simp,rfl,Nat.le_refl _,by simpa[au]using aY.nil,by simp,fun _=>rfl,by simp⟩
  | _=>simp[elems]at he
 |ptr _ _ _ _ _ _=>simp[elems]at he
 |b5 _ _ _ _ _ _ _ _ _=>simp[elems]at he
 |lF _ _ _ _ _ _ _ _=>simp[elems]at he
 |A0=>simp[elems]at he
 |mp=>simp[elems]at he
 |om=>simp[elems]at he
 |yP t r p off ex ad=>
  simp[dK]at hk
  subst hk
  have NR:l=[]:=List.eq_nil_of_length_eq_zero EC
  subst NR
  exact⟨ad,0,[],rfl,by simp,rfl,Nat.le_refl _,by simpa[au]using aY.nil,by simp,fun _=>rfl,by simp⟩
 |ou t ex ad cap h1 h2=>
  simp[elems,dK]at he hk
  subst he;subst hk
  exact⟨ad,cap,[],rfl,by simp,rfl,by omega,by simpa[au]using aY.nil,by simp,h2,by simp⟩
 |cF t l' ex b o cap f h1 hb h2 h3 h4 h5=>
  simp[elems,dK]at he hk
  subst he;subst hk
  simp[eK]at hs
  subst hs
  obtain⟨h6,h7⟩:=y9 (d:=default) h2 h3
  exact⟨some ⟨b,o,none⟩,cap,_,rfl,h1,rfl,h4,h6,fun j x hx=>⟨b,o,rfl,h7 j x hx⟩,by simp,fun _=>⟨b,o,rfl,.inl hb⟩⟩
 | sl t r p off len ex L cap hL h1 h2 h3 =>
  simp[dK]at hk
  subst hk
  simp[eK]at hs
  subst hs
  cases p with
  | nil =>
   simp only[elems]at he
   cases hl:live rows r with
   |none=>simp[hl]at he
   | some row =>
    simp[hl]at he
    subst he
    have hr:=h.row r row L hl hL
    obtain⟨cur,t',g1,g2,g3,g4⟩:=hr.cells (LR.Ew h3)
    have hsh:s=row.sh:=by
     rcases h3 with⟨_,h3,_⟩|⟨n,h3,_⟩
     ·rw[h3,hr.sh]
     ·simp[Loc.at]at h3
    subst hsh
    have fV:∀d∈(row.els.drop off).take len,aK row.sh d:=fun d hd=>hr.els d (List.mem_of_mem_drop (List.mem_of_mem_take hd))
    by_cases hz:len=0
    ·subst hz
     exact⟨_,cap,[],rfl,fV,EC,h1,by simpa[au]using aY.nil,by simp,by simp,by simp⟩
    ·simp only[List.length_take,List.length_drop]at EC
     obtain⟨pre,post,g5,g6⟩:=sL (off:=off) (len:=len) hr.els (by omega)
     rw[g5]at g4
     have g7:=g4.seg
     refine⟨_,cap,_,rfl,fV,by simp;omega,h1,g7.1,fun j x hx=>⟨L.b,_,rfl,?_⟩,by simp,fun _=>⟨L.b,_,rfl,.inr ⟨r,row,L,hl,hL,rfl⟩⟩⟩
     have:=NO (o:=pre.length) (n:=(au ((row.els.drop off).take len)).length) g1 j x hx
     simpa[Loc.off,g6]using this
  | cons i p =>
   simp only[elems]at he
   cases hl:live rows r with
   |none=>simp[hl]at he
   | some row =>
    simp only[hl]at he
    have hr:=h.row r row L hl hL
    obtain⟨cur,t',g1,g2,g3,g4⟩:=hr.cells (LR.Ew h3)
    rcases h3 with⟨h3,_⟩|⟨m,h3,h4⟩
    ·simp at h3
    ·rw[Loc.wg (Loc.Eu h3),hr.sh]at h3
     cases hg:cP row.els (i::p)with
     |none=>simp[hg]at he
     | some d =>
      obtain⟨g5,g6,pre,post,g7,g8⟩:=uP hr.els h3 hg
      obtain⟨l',rfl,mh,fh⟩:=g5.iJ rfl
      simp[hg]at he
      subst he
      have bY:∀d∈l',aK s d:=by
       intro d hd
       obtain⟨q,hq,rfl⟩:=List.mem_iff_getElem.1 hd
       exact fh q s _ (by simp[Sh.sub];simp[Sh.count]at mh;omega) (List.getElem?_eq_getElem hq)
      have fV:∀d∈(l'.drop off).take len,aK s d:=fun d hd=>bY d (List.mem_of_mem_drop (List.mem_of_mem_take hd))
      by_cases hz:len=0
      ·subst hz
       exact⟨_,cap,[],rfl,fV,EC,h1,by simpa[au]using aY.nil,by simp,by simp,by simp⟩
      ·simp only[List.length_take,List.length_drop]at EC
       obtain⟨K8,K9,g9,g10⟩:=sL (off:=off) (len:=len) bY (by omega)
       simp only[D.flat]at g7
       rw[g7,g9]at g4
       have e:pre++(K8++(au ((l'.drop off).take len)++K9)++post)=(pre++K8)++(au ((l'.drop off).take len)++(K9++post)):=by simp
       rw[e]at g4
       have g11:=g4.seg
       refine⟨_,cap,_,rfl,fV,by simp;omega,h1,g11.1,fun j x hx=>⟨L.b,_,rfl,?_⟩,by simp,fun _=>⟨L.b,_,rfl,.inr ⟨r,row,L,hl,hL,rfl⟩⟩⟩
       have:=NO (o:=(pre++K8).length) (n:=(au ((l'.drop off).take len)).length) g1 j x hx
       simpa[Loc.off,hr.sh,g8,g10]using this
theorem HA.first{s:Sh}{l:List D}{v:Value}{k cap:Nat}{ad:Option Addr}{cs:List Value}(h:HA rows ρ w T s l v k ad cap cs){w':World}(hw:w'.heap=w.heap)(m:Nat)(hm:m≤k):
  (Builtin.firstCells s.size m v).run P w'= .ok (cs.take (m*s.size)).toArray w':=by
 have hl:cs.length=k*s.size:=by rw[←h.hcs.len,bb h.els,h.len]
 have hlt:(cs.take (m*s.size)).length=m*s.size:=by
  rw[List.length_take,hl]
  exact Nat.min_eq_left (Nat.mul_le_mul_right _ hm)
 have hcell:∀ad,w'.cell? ad=w.cell? ad:=fun ad=>World.cell?_of_block (by rw[hw])
 rw[h.hv]
 cases UT:ad with
 |none=>
  have hk:=h.nil UT
  have hc0:=h.hcap
  have I3:m=0:=by omega
  subst I3
  simp[Builtin.firstCells]
 | some x =>
  refine run_firstCells_some (P:=P) w' s.size m x k cap _ hlt fun j u hu=>?_
  rw[List.getElem?_take]at hu
  split at hu
  ·obtain⟨b,o,h1,h2⟩:=h.at_ j u hu
   rw[UT]at h1
   cases h1
   rw[lI,hcell]
   exact h2
  ·cases hu
theorem HA.ED{s:Sh}{l:List D}{v:Value}{k cap:Nat}{ad:Option Addr}{cs:List Value}(h:HA rows ρ w T s l v k ad cap cs):cs.length=k*s.size:=by
 rw[←h.hcs.len,bb h.els,h.len]
theorem fW(P:Program)(g o:Nat)(t:TypeId):∀(vs:List Value) (i:Nat) (cur:Array Value) (w:World),ng w g cur t→o+i+vs.length≤cur.size→(∀v∈vs,v.oneCell'=true)→
  (storeCells ⟨g,o,none⟩ vs i).run P w= .ok () (w.setRow g (cur.toList.take (o+i)++vs++cur.toList.drop (o+i+vs.length)).toArray)
 |[],i,cur,w,hg,_,_=>by
  obtain⟨fr,hg,_⟩:=hg
  simp only[storeCells,List.append_nil,List.length_nil,Nat.add_zero,List.take_append_drop,Array.toArray_toList]
  rw[setRow_self w g cur t fr hg]
  rfl
 | v :: rest, i, cur, w, hg, hl, h1 => by
  have hi:o+i<cur.size:=by simp at hl;omega
  obtain⟨fr,NS,oD⟩:=hg
  have hadd:(⟨g,o,none⟩:Addr).add i=⟨g,o+i,none⟩:=by unfold Addr.add;split<;>simp_all
  have hcell:w.cell? ⟨g,o+i,none⟩=some cur[o+i]:=by simp[World.cell?,NS,hi]
  have hfro:w.frozen? ⟨g,o+i,none⟩=false:=oD.not NS hi
  have hst:(store ((⟨g,o,none⟩:Addr).add i) v).run P w= .ok () (w.setRow g (cur.setIfInBounds (o+i) v)):=by
   rw[hadd,run_store P w _ v _ (h1 v (by simp)),hcell]
   simp[hfro,setCell_eq_setRow w g (o+i) cur t fr v NS]
  have ih:=fW P g o t rest (i+1) (cur.setIfInBounds (o+i) v) (w.setRow g (cur.setIfInBounds (o+i) v)) (ng.setRow ⟨fr,NS,oD⟩ (by simp)) (by simp at hl⊢;omega) (fun x hx=>h1 x (by simp[hx]))
  simp only[storeCells,Sem.run_bind,hst,Result.andThen_ok,ih,setRow_setRow]
  congr 3
  have e:=list_seg_step cur.toList (o+i) v rest (by simp at hl⊢;omega)
  simpa[Array.toList_setIfInBounds,Nat.add_assoc]using e
end Go.Am

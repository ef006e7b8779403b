import Derived.Test.YtgcejocgnfkciaaGreatDoorKc9
namespace Go.Am
set_option linter.unusedVariables false
set_option linter.unusedSimpArgs false
variable {C:be} {P:Program} {n:Nat} {ρ:Pl} {T:Nat→Prop} {env:Env} {rows:Rows} {a:Act} {w:World}
inductive wR (rows:Rows):D→D→Rows→Prop where
 |val (d:D):aQ d=false→wR rows d d []
 |frz (d d':D):view rows 9 d=some d'→wR rows d d' []
 |frzT (l l':List D):cW (view rows 9) l=some l'→wR rows (.cA l) (.cA l') []
 |own (s:Sh) (r off len:Nat) (ex oy:Bool) (row:Row):live rows r=some row→row.sh.pure=true→(oy=true→ex=true)→wR rows (.sl s r [] off len ex) (.sl s 0 [] off len oy) [some row]
 |Wl (s:Sh):wR rows (.raw (.slice none 0 0)) (.sl s 0 [] 0 0 false) [some ⟨s,[]⟩]
 | G9 (s : Sh) (r off len : Nat) (ex oy : Bool) (row : Row) (l : List D) : live rows r = some row → row.sh.pure = true → aN l = false → (oy = true → ex = true) →
   wR rows (.cA (.sl s r [] off len ex::l)) (.cA (.sl s 0 [] off len oy::l)) [some row]
 | ownU (z : List D) (s : Sh) (r off len : Nat) (ex oy : Bool) (row : Row) (l : List D) : live rows r = some row → row.sh.pure = true → aN z = false → aN l = false → (oy = true → ex = true) →
   wR rows (.cA (z++ .sl s r [] off len ex::l)) (.cA (z++ .sl s 0 [] off len oy::l)) [some row]
 | ownA (S : Sh) (z : List D) (s : Sh) (r off len : Nat) (ex oy : Bool) (row : Row) (l : List D) : live rows r = some row → row.sh.pure = true → aN z = false → aN l = false → (oy = true → ex = true) →
   wR rows (.agg S (z++ .sl s r [] off len ex::l)) (.agg S (z++ .sl s 0 [] off len oy::l)) [some row]
 | own2 (z y l : List D) (s s2 : Sh) (r r2 off len Ji Jj : Nat) (ex oy Jk ex2' : Bool) (row nL : Row) : live rows r = some row → live rows r2 = some nL → r ≠ r2 → row.sh.pure = true → nL.sh.pure = true → aN z = false → aN y = false → aN l = false →
   (oy=true→ex=true)→(ex2'=true→Jk=true)→
   wR rows (.cA (z++ .sl s r [] off len ex::(y++ .sl s2 r2 [] Ji Jj Jk::l))) (.cA (z++ .sl s 0 [] off len oy::(y++ .sl s2 1 [] Ji Jj ex2'::l))) [some row,some nL]
def tK(L L2:Option Loc):Pl:=fun r=>if r=0 then L else if r=1 then L2 else none
def zn(L:Option Loc):Pl:=fun r=>if r=0 then L else none
theorem Step.emp{ρ':Pl}{T':Nat→Prop}{w':World}{ab:Rows}(hst:Step ρ T [] w ρ' T' ab w')(kq:∀r,ρ r=none):∀r row L,live ab r=some row→ρ' r=some L→w.heap.size≤L.b:=by
 intro r row L h1 h2
 rcases hst.fresh r row L h1 h2 with⟨r0,oR,L0,h3,_⟩|h3
 ·simp[live]at h3
 ·exact h3
theorem lH.pure{ρ':Pl}{row:Row}{L:Loc}{T':Nat→Prop}(h:lH ρ row L w T)(hp:row.sh.pure=true):lH ρ' row L w T:=by
 refine⟨h.sh,h.mj,h.els,fun hm=>?_,h.oQ⟩
 obtain⟨cur,t,h1,h2,h3,h4⟩:=h.cells hm
 exact⟨cur,t,h1,h2,h3,h4.ofRaw (jh h.els hp)⟩
theorem Bi:∀{l:List D} {x:D},x∈au l→∃d∈l,x∈d.flat
 |[],x,h=>by simp[au]at h
 | d :: l, x, h => by
  simp only[au,List.mem_append]at h
  rcases h with h|h
  ·exact⟨d,by simp,h⟩
  ·obtain⟨e,h1,h2⟩:=Bi h
   exact⟨e,by simp[h1],h2⟩
theorem Wm{k:Nat}{d:D}{z:List D}(h:view rows k d=some (.cA z)):False:=by
 cases k with
 |zero=>simp[view]at h
 | succ k =>
  cases d with
  | cF s l e =>
   simp only[view]at h
   cases hp:s.pure with
   |true=>simp[hp]at h
   |false=>
    simp only[hp,cond_false]at h
    split at h<;>cases h
  | agg s l =>
   simp only[view]at h
   cases hp:s.pure with
   |true=>simp[hp]at h
   |false=>
    simp only[hp,cond_false]at h
    split at h<;>cases h
  | sl s r p off len e =>
   simp only[view]at h
   split at h
   ·rename_i l hl
    cases hb:(l.length==len)with
    |false=>simp[hb]at h
    | true =>
     simp only[hb,Bool.not_true,cond_false]at h
     cases hp:s.pure with
     |true=>simp[hp]at h
     |false=>
      simp only[hp,cond_false]at h
      split at h<;>cases h
   ·cases h
  |mp r=>
   simp only[view]at h
   split at h<;>cases h
  | ptr s r p =>
   simp only[view]at h
   split at h
   ·split at h
    ·cases hp:s.pure with
     |true=>simp[hp]at h
     |false=>
      simp only[hp,cond_false]at h
      split at h<;>cases h
    ·cases h
   ·cases h
  |b5 d=>
   simp only[view]at h
   cases hp:aQ d with
   |true=>simp[hp]at h
   |false=>simp only[hp,cond_false]at h;cases h
  | _=>simp[view]at h
theorem Bc.Jl{K K':D→Rows→Prop}{e:Ending}{w':World}(kq:∀r,ρ r=none)(h:Bc K ρ T [] w e w')(hk:∀d rows,K d rows→∃d' ab,wR rows d d' ab∧K' d' ab):Bc K' ρ T [] w e w':=by
 obtain⟨v,d,ab,ρ',T',he,Dm,hrows,hd,ht,hst,hv⟩:=h.ex
 obtain⟨d',lN,hx,Lf⟩:=hk d ab Dm
 have iB:=hst.emp kq
 have ev0:∀(r:Nat) (row:Row),live ([]:Rows) r≠some row:=by intro r row h;simp[live]at h
 have hT:∀b,T b→w'.heap[b]?=w'.heap[b]?:=fun _ _=>rfl
 --nothing left
 have val:VR eT w' T' d' v→Bc (fun d r=>d=d'∧r=[]) ρ T [] w e w':=by
  intro kU
  exact⟨v,d',[],eT,T',he,⟨rfl,rfl⟩,⟨fun r row L h=>absurd h (ev0 r row),fun r _ row _ _ _ h=>absurd h (ev0 r row)⟩,fun _ _=>rfl,ht,
   ⟨fun r L hr=>by rw[kq r]at hr;(cases hr),hst.tt,hst.um,hst.size,hst.keep,fun r row L h=>absurd h (ev0 r row),hst.os,hst.tape,hst.output,Nat.le_refl _,fun r hr=>by simp at hr⟩,kU⟩
 have frz:VR eT w' (NQ ρ' T' ab) d' v→Bc (fun d r=>d=d'∧r=[]) ρ T [] w e w':=by
  intro kU
  refine⟨v,d',[],eT,NQ ρ' T' ab,he,⟨rfl,rfl⟩,⟨fun r row L h=>absurd h (ev0 r row),fun r _ row _ _ _ h=>absurd h (ev0 r row)⟩,fun _ _=>rfl,?_,
   ⟨fun r L hr=>by rw[kq r]at hr;(cases hr),fun b hb=> .inl (hst.tt b hb),?_,hst.size,hst.keep,fun r row L h=>absurd h (ev0 r row),hst.os,hst.tape,hst.output,Nat.le_refl _,fun r hr=>by simp at hr⟩,kU⟩
  ·rintro b (h1|⟨r,row,L,h1,h2,rfl⟩)
   ·exact ht b h1
   ·exact(hrows.row r row L h1 h2).lt
  ·rintro b (h1|⟨r,row,L,h1,h2,rfl⟩)
   ·exact hst.um b h1
   ·exact .inr (.inl (iB r row L h1 h2))
 have own:∀(r:Nat) (row:Row),live ab r=some row→row.sh.pure=true→VR (zn (ρ' r)) w' T' d' v→Bc (fun d r=>d=d'∧r=[some row]) ρ T [] w e w':=by
  intro r row hl hp kU
  have Dq:∀q row',live [some row] q=some row'→q=0∧row'=row:=by
   intro q row' hq
   cases q with
   |zero=>simp[live]at hq;exact⟨rfl,hq.symm⟩
   |succ q=>simp[live]at hq
  refine⟨v,d',[some row],zn (ρ' r),T',he,⟨rfl,rfl⟩,⟨fun q row' L h1 h2=>?_,fun q q' Di nL L L' h1 h2 _ _ hne=>?_⟩,fun q hq=>?_,ht,
   ⟨fun r L hr=>by rw[kq r]at hr;(cases hr),hst.tt,hst.um,hst.size,hst.keep,fun q row' L h1 h2=>?_,hst.os,hst.tape,hst.output,by simp,fun r hr=>by simp at hr⟩,kU⟩
  ·obtain⟨rfl,rfl⟩:=Dq q row' h1
   simp only[zn,if_true]at h2
   exact(hrows.row r row' L hl h2).pure (T':=T') hp
  ·exact absurd ((Dq q Di h1).1.trans (Dq q' nL h2).1.symm) hne
  ·simp at hq
   unfold zn
   rw[if_neg (by omega)]
  ·obtain⟨rfl,rfl⟩:=Dq q row' h1
   simp only[zn,if_true]at h2
   exact .inr (iB r row' L hl h2)
 have sl1:∀(s:Sh) (r off len:Nat) (ex oy:Bool) (v:Value),(oy=true→ex=true)→LR ρ' w' T' (.sl s r [] off len ex) v→LR (zn (ρ' r)) w' T' (.sl s 0 [] off len oy) v:=by
  intro s r off len ex oy v hee Dj
  cases Dj with
  |sl _ _ _ _ _ _ L cap h1 h2 h3 h4=>exact .sl s 0 [] off len oy L cap (by simp[zn,h1]) h2 (fun h=>h3 (hee h)) h4
  |yP _ _ _ _ _ a=>exact .yP s 0 [] off oy a
 have own2:∀(r r2:Nat) (row nL:Row),live ab r=some row→live ab r2=some nL→r≠r2→row.sh.pure=true→nL.sh.pure=true→VR (tK (ρ' r) (ρ' r2)) w' T' d' v→Bc (fun d r=>d=d'∧r=[some row,some nL]) ρ T [] w e w':=by
  intro r r2 row nL hl G1 hne2 hp sG kU
  have Dq:∀q row',live [some row,some nL] q=some row'→(q=0∧row'=row)∨(q=1∧row'=nL):=by
   intro q row' hq
   match q,hq with
   |0,hq=>simp[live]at hq;exact .inl ⟨rfl,hq.symm⟩
   |1,hq=>simp[live]at hq;exact .inr ⟨rfl,hq.symm⟩
   |q+2,hq=>simp[live]at hq
  have t0:tK (ρ' r) (ρ' r2) 0=ρ' r:=by simp[tK]
  have t1:tK (ρ' r) (ρ' r2) 1=ρ' r2:=by simp[tK]
  refine⟨v,d',[some row,some nL],tK (ρ' r) (ρ' r2),T',he,⟨rfl,rfl⟩,⟨fun q row' L h1 h2=>?_,fun q q' Di row3 L L' h1 h2 h3 h4 hne=>?_⟩,fun q hq=>?_,ht,
   ⟨fun r L hr=>by rw[kq r]at hr;(cases hr),hst.tt,hst.um,hst.size,hst.keep,fun q row' L h1 h2=>?_,hst.os,hst.tape,hst.output,by simp,fun r hr=>by simp at hr⟩,kU⟩
  ·rcases Dq q row' h1 with⟨rfl,rfl⟩|⟨rfl,rfl⟩
   ·rw[t0]at h2
    exact(hrows.row r row' L hl h2).pure (T':=T') hp
   ·rw[t1]at h2
    exact(hrows.row r2 row' L G1 h2).pure (T':=T') sG
  ·rcases Dq q Di h1 with⟨rfl,rfl⟩|⟨rfl,rfl⟩<;>rcases Dq q' row3 h2 with⟨rfl,rfl⟩|⟨rfl,rfl⟩
   ·exact absurd rfl hne
   ·rw[t0]at h3;rw[t1]at h4
    exact hrows.jg r r2 _ _ L L' hl G1 h3 h4 hne2
   ·rw[t1]at h3;rw[t0]at h4
    exact hrows.jg r2 r _ _ L L' G1 hl h3 h4 (Ne.symm hne2)
   ·exact absurd rfl hne
  ·simp at hq
   unfold tK
   rw[if_neg (by omega),if_neg (by omega)]
  ·rcases Dq q row' h1 with⟨rfl,rfl⟩|⟨rfl,rfl⟩
   ·rw[t0]at h2
    exact .inr (iB r row' L hl h2)
   ·rw[t1]at h2
    exact .inr (iB r2 row' L G1 h2)
 have sl2:∀(s:Sh) (r r' q off len:Nat) (ex oy:Bool) (v:Value) (Ny:Pl),Ny q=ρ' r→(oy=true→ex=true)→LR ρ' w' T' (.sl s r [] off len ex) v→LR Ny w' T' (.sl s q [] off len oy) v:=by
  intro s r r' q off len ex oy v Ny hq hee Dj
  cases Dj with
  |sl _ _ _ _ _ _ L cap h1 h2 h3 h4=>exact .sl s q [] off len oy L cap (by rw[hq];exact h1) h2 (fun h=>h3 (hee h)) h4
  |yP _ _ _ _ _ a=>exact .yP s q [] off oy a
 have done:Bc (fun d r=>d=d'∧r=lN) ρ T [] w e w'→Bc K' ρ T [] w e w':=by
  rintro⟨v,d2,r2,Ny,T2,q1,⟨rfl,rfl⟩,q3⟩
  exact⟨v,d2,r2,Ny,T2,q1,Lf,q3⟩
 refine done ?_
 cases hx with
 |val _ h1=>exact val (hv.closed h1)
 |frz _ _ h1=>exact frz (Jb hrows h1 hv)
 | frzT l l' h1 =>
  obtain⟨vs,rfl,bY⟩:=hv
  refine frz ⟨vs,rfl,?_⟩
  obtain⟨g1,g2⟩:=jk h1
  refine⟨by rw[g1];exact bY.len,fun i x y hx hy=>?_⟩
  have uv:i<l.length:=by rw[←g1];exact cN hx
  have hxi:=List.getElem?_eq_getElem uv
  have:=Jb hrows (g2 i _ _ hxi hx) (VR.xg (bY.at_ i _ y hxi hy))
  cases x with
  |cA z=>
   exact(Wm (g2 i _ _ hxi hx)).elim
  | _=>exact this
 |own s r off len ex oy row h1 h2 h4=>exact own r row h1 h2 (VR.bG (sl1 s r off len ex oy v h4 hv))
 | Wl s =>
  have kU:=hv.ofRaw
  subst kU
  refine⟨_,_,[some ⟨s,[]⟩],eT,T',he,⟨rfl,rfl⟩,⟨fun _ _ _ _ h=>(by cases h),fun _ _ _ _ _ _ _ _ h=>(by cases h)⟩,fun _ _=>rfl,ht,
   ⟨fun r L hr=>by rw[kq r]at hr;(cases hr),hst.tt,hst.um,hst.size,hst.keep,fun _ _ _ _ h=>(by cases h),hst.os,hst.tape,hst.output,by simp,fun r hr=>by simp at hr⟩,VR.bG (.yP s 0 [] 0 false none)⟩
 | G9 s r off len ex oy row l h1 h2 h3 h4 =>
  obtain⟨vs,rfl,bY⟩:=hv
  refine own r row h1 h2 ⟨vs,rfl,?_⟩
  cases hvs:vs.toList with
  |nil=>rw[hvs]at bY;have:=bY.len;simp at this
  |cons v0 vs'=>
   rw[hvs]at bY
   refine .cons (pQ.bG (sl1 s r off len ex oy v0 h4 bY.head)) ?_
   have ht:=bY.tail
   refine⟨ht.len,fun i x y hx hy=>?_⟩
   exact((ht.at_ i x y hx hy).closed (eI h3 x (bN hx))).mono (by intro r L h;cases h) (fun _ _=>rfl) (fun _ h=>h)
 | ownU z s r off len ex oy row l h1 h2 h3 h5 h4 =>
  obtain⟨vs,rfl,bY⟩:=hv
  refine own r row h1 h2 ⟨vs,rfl,?_⟩
  refine⟨by rw[←bY.len];simp,fun i x y hx hy=>?_⟩
  have same:∀x,(z++ .sl s r [] off len ex::l)[i]?=some x→aQ x=false→pQ (zn (ρ' r)) w' T' x y:=fun x hx hr=>
   ((bY.at_ i x y hx hy).closed hr).mono (by intro r L h;cases h) (fun _ _=>rfl) (fun _ h=>h)
  by_cases c:i<z.length
  ·rw[List.getElem?_append_left c]at hx
   exact same x (by rw[List.getElem?_append_left c];exact hx) (eI h3 x (bN hx))
  ·rw[List.getElem?_append_right (by omega)]at hx
   have hz:(z++ .sl s r [] off len ex::l)[i]?=(D.sl s r [] off len ex::l)[i-z.length]?:=List.getElem?_append_right (by omega)
   cases hi:i-z.length with
   |zero=>
    rw[hi]at hx hz
    simp only[List.getElem?_cons_zero,Option.some.injEq]at hx hz
    subst hx
    exact pQ.bG (sl1 s r off len ex oy y h4 (bY.at_ i _ y hz hy))
   |succ m=>
    rw[hi]at hx hz
    simp only[List.getElem?_cons_succ]at hx hz
    exact same x (by rw[hz];exact hx) (eI h5 x (bN hx))
 | ownA S z s r off len ex oy row l h1 h2 h3 h5 h4 =>
  obtain⟨cs,rfl,hsh,bY⟩:=hv
  obtain⟨l0,e,hlen,fh⟩:=hsh.iJ (nM hsh).2
  cases e
  have hz:∀x∈au z,aQ x=false:=fun x hx=>by
   obtain⟨d,hd,hxd⟩:=Bi hx
   obtain⟨i,hi,rfl⟩:=List.mem_iff_getElem.1 hd
   obtain⟨e,he⟩:=kz (s:=S) (i:=i) (by rw[←hlen,List.length_append];omega)
   exact nh (fh i e _ he (by rw[List.getElem?_append_left hi];exact List.getElem?_eq_getElem hi)) (eI h3 _ hd) x hxd
  have hl:∀x∈au l,aQ x=false:=fun x hx=>by
   obtain⟨d,hd,hxd⟩:=Bi hx
   obtain⟨i,hi,rfl⟩:=List.mem_iff_getElem.1 hd
   obtain⟨e,he⟩:=kz (s:=S) (i:=z.length+1+i) (by rw[←hlen,List.length_append,List.length_cons];omega)
   exact nh (fh _ e _ he (by rw[List.getElem?_append_right (by omega),show z.length+1+i-z.length=i+1 by omega,List.getElem?_cons_succ];exact List.getElem?_eq_getElem hi)) (eI h5 _ hd) x hxd
  have same:∀{x y},LR ρ' w' T' x y→aQ x=false→LR (zn (ρ' r)) w' T' x y:=fun h hr=>(h.closed hr).mono (by intro r L h;cases h) (fun _ _=>rfl) (fun _ h=>h)
  refine own r row h1 h2 ⟨cs,rfl,.agg _ _ (nM hsh).2 (by rw[←hlen];simp) fun i e d hi hd=>?_,?_⟩
  ·by_cases c:i<z.length
   ·rw[List.getElem?_append_left c]at hd
    exact fh i e d hi (by rw[List.getElem?_append_left c];exact hd)
   ·rw[List.getElem?_append_right (by omega)]at hd
    have:=fh i e ((D.sl s r [] off len ex::l).getD (i-z.length) default) hi
    rw[List.getElem?_append_right (by omega)]at this
    cases hm:i-z.length with
    |zero=>
     rw[hm]at hd this
     cases hd
     cases this rfl
     exact .ref _ rfl
    |succ m=>
     rw[hm]at hd this
     simp only[List.getElem?_cons_succ]at hd this
     have h6:=this (by rw[hd];simp[List.getD,hd])
     simpa[List.getD,hd]using h6
  ·rw[du]at bY⊢
   simp only[au,D.flat]at bY⊢
   refine⟨by rw[←bY.len];simp,fun i x y hx hy=>?_⟩
   by_cases c:i<(au z).length
   ·rw[List.getElem?_append_left c]at hx
    exact same (bY.at_ i x y (by rw[List.getElem?_append_left c];exact hx) hy) (hz x (bN hx))
   ·have q:=bY.at_ i
    rw[List.getElem?_append_right (by omega)]at hx q
    cases hm:i-(au z).length with
    |zero=>
     rw[hm]at hx q
     cases hx
     exact sl1 s r off len ex oy y h4 (q _ y rfl hy)
    |succ m=>
     rw[hm]at hx q
     exact same (q x y hx hy) (hl x (bN hx))
 | own2 z y l s s2 r r2 off len Ji Jj ex oy Jk ex2' row nL h1 h2 hne p1 p2 h3 h5 h6 h4 h7 =>
  obtain⟨vs,rfl,bY⟩:=hv
  refine own2 r r2 row nL h1 h2 hne p1 p2 ⟨vs,rfl,?_⟩
  have t0:tK (ρ' r) (ρ' r2) 0=ρ' r:=by simp[tK]
  have t1:tK (ρ' r) (ρ' r2) 1=ρ' r2:=by simp[tK]
  refine⟨by rw[←bY.len];simp,fun i x x' hx hy=>?_⟩
  have same:∀x,(z++ .sl s r [] off len ex::(y++ .sl s2 r2 [] Ji Jj Jk::l))[i]?=some x→aQ x=false→pQ (tK (ρ' r) (ρ' r2)) w' T' x x':=fun x hx hr=>
   ((bY.at_ i x x' hx hy).closed hr).mono (by intro r L h;cases h) (fun _ _=>rfl) (fun _ h=>h)
  by_cases c:i<z.length
  ·rw[List.getElem?_append_left c]at hx
   exact same x (by rw[List.getElem?_append_left c];exact hx) (eI h3 x (bN hx))
  ·rw [List.getElem?_append_right (by omega)] at hx
   have hz:(z++ .sl s r [] off len ex::(y++ .sl s2 r2 [] Ji Jj Jk::l))[i]?=(D.sl s r [] off len ex::(y++ .sl s2 r2 [] Ji Jj Jk::l))[i-z.length]?:=List.getElem?_append_right (by omega)
   cases hi:i-z.length with
   |zero=>
    rw[hi]at hx hz
    simp only[List.getElem?_cons_zero,Option.some.injEq]at hx hz
    subst hx
    exact pQ.bG (sl2 s r 0 0 off len ex oy x' _ t0 h4 (bY.at_ i _ x' hz hy))
   | succ m =>
    rw[hi]at hx hz
    simp only[List.getElem?_cons_succ]at hx hz
    by_cases c2:m<y.length
    ·rw[List.getElem?_append_left c2]at hx hz
     exact same x (by rw[hz];exact hx) (eI h5 x (bN hx))
    ·have U5:(y++D.sl s2 r2 [] Ji Jj Jk::l)[m]?=(D.sl s2 r2 [] Ji Jj Jk::l)[m-y.length]?:=List.getElem?_append_right (by omega)
     rw[List.getElem?_append_right (by omega)]at hx
     rw[U5]at hz
     cases hm:m-y.length with
     |zero=>
      rw[hm]at hx hz
      simp only[List.getElem?_cons_zero,Option.some.injEq]at hx hz
      subst hx
      exact pQ.bG (sl2 s2 r2 0 1 Ji Jj Jk ex2' x' _ t1 h7 (bY.at_ i _ x' hz hy))
     |succ q=>
      rw[hm]at hx hz
      simp only[List.getElem?_cons_succ]at hx hz
      exact same x (by rw[hz];exact hx) (eI h6 x (bN hx))
def lP:List (Nat×Fn)→FuncId→Option Fn
 |[],_=>none
 |(k,F)::l,f=>bif k==f then some F else lP l f
theorem Qw{G:Nat→Option D}:aI ⟨G,lP [],fun _=>none,fun _=>none⟩ P:=⟨(by intro f F h;cases h),(by intro f F h;cases h),(by intro f F h;cases h)⟩
theorem az{G:Nat→Option D}{k:Nat}{F:Fn}{l:List (Nat×Fn)}{r:FuncId→Option jx}{q:FuncId→Option Eo}(h:aO G P k (Fn.run F))(hl:aI ⟨G,lP l,r,q⟩ P):aI ⟨G,lP ((k,F)::l),r,q⟩ P:=by
 refine⟨?_,hl.2⟩
 intro f F' hf
 simp only[lP]at hf
 cases hb:(k==f)with
 |true=>
  rw[hb]at hf
  have:k=f:=by simpa using hb
  subst this
  cases hf
  exact h
 |false=>
  rw[hb]at hf
  exact hl.1 f F' hf
def oa:List (Nat×jx)→FuncId→Option jx
 |[],_=>none
 |(k,F)::l,f=>bif k==f then some F else oa l f
theorem Wn{G:Nat→Option D}:aI ⟨G,lP [],oa [],fun _=>none⟩ P:=⟨(by intro f F h;cases h),(by intro f F h;cases h),(by intro f F h;cases h)⟩
theorem aV{G:Nat→Option D}{k:Nat}{A:jx}{t:FuncId→Option Fn}{l:List (Nat×jx)}{q:FuncId→Option Eo}(h:aO G P k A)(hl:aI ⟨G,t,oa l,q⟩ P):aI ⟨G,t,oa ((k,A)::l),q⟩ P:=by
 refine⟨hl.1,?_,hl.2.2⟩
 intro f F' hf
 simp only[oa]at hf
 cases hb:(k==f)with
 |true=>
  rw[hb]at hf
  have:k=f:=by simpa using hb
  subst this
  cases hf
  exact h
 |false=>
  rw[hb]at hf
  exact hl.2.1 f F' hf
def Bj:List (Nat×Eo)→FuncId→Option Eo
 |[],_=>none
 |(k,F)::l,f=>bif k==f then some F else Bj l f
theorem SK{G:Nat→Option D}{k:Nat}{A:Eo}{t:FuncId→Option Fn}{l:List (Nat×Eo)}{r:FuncId→Option jx}(h:Jc G P k (KW A))(hl:aI ⟨G,t,r,Bj l⟩ P):aI ⟨G,t,r,Bj ((k,A)::l)⟩ P:=by
 refine⟨hl.1,hl.2.1,?_⟩
 intro f F' hf
 simp only[Bj]at hf
 cases hb:(k==f)with
 |true=>
  rw[hb]at hf
  have:k=f:=by simpa using hb
  subst this
  cases hf
  exact h
 |false=>
  rw[hb]at hf
  exact hl.2.2 f F' hf
end Go.Am

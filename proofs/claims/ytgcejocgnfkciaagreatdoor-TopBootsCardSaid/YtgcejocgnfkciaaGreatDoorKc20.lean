import Derived.Test.YtgcejocgnfkciaaGreatDoorKc19
namespace Go.Am
set_option linter.unusedSimpArgs false
set_option linter.unusedVariables false
attribute [local congr] cd bt cg bu bw bO bg bx bz bP a7 bQ bA b9
namespace iC
open Go.Am.F
set_option maxRecDepth 10000
def CZ(id:List (BitVec 8))(r:BitVec 32)(d x:List (BitVec 8)):List (BitVec 8):=if r&&&1#32=1#32 then sn id (r>>>1) x d else sn id (r>>>1) d x
theorem T5(id:List (BitVec 8))(r:BitVec 32)(d x:List (BitVec 8)):(CZ id r d x).length=32:=by
 unfold CZ;split<;>exact IB _ _ _ _
def dI(id:List (BitVec 8))(r:BitVec 32)(d:List (BitVec 8))(path:List (List (BitVec 8))):Nat→List (BitVec 8)
 |0=>d
 |i+1=>CZ id (r>>>i) (dI id r d path i) (path.getD i [])
theorem XZ(id:List (BitVec 8))(r:BitVec 32)(d:List (BitVec 8))(path:List (List (BitVec 8)))(h:d.length=32):∀i,(dI id r d path i).length=32
 |0=>h
 |i+1=>T5 _ _ _ _
def yH(id:List (BitVec 8))(q:BitVec 32)(d:List (BitVec 8))(path:List (List (BitVec 8))):List (BitVec 8):=dI id (q+1#32<<<path.length) d path path.length
theorem shr_add(r:BitVec 32)(i:Nat):(r>>>i)>>>1=r>>>(i+1):=(BitVec.shiftRight_add r i 1).symm
theorem and1(r:BitVec 32):r %2#32=r&&&1#32:=by
 apply BitVec.eq_of_toNat_eq
 rw[BitVec.toNat_umod,BitVec.toNat_and]
 exact(Nat.and_two_pow_sub_one_eq_mod r.toNat 1).symm
def KO(bH sig:List (BitVec 8)):Int:=
 if(eu bH).2≠0 then(eu bH).2 else if dz sig≠0 then dz sig else if Kc sig=(eu bH).1.t∧QY sig=(eu bH).1.o then 0 else 6
def X0(bH msg sig:List (BitVec 8)):List (BitVec 8):=
 yH (eu bH).1.id (wG sig) (nD (eu bH).1.id (wG sig+1#32<<<m8 sig) (pF ⟨(eu bH).1.id,wG sig⟩ (nF sig) msg)) (iU sig (m8 sig))
theorem rtS_len(bH msg sig:List (BitVec 8)):(X0 bH msg sig).length=32:=XZ _ _ _ _ (BP _ _ _) _
theorem Pm(s:Site)(p m:List (BitVec 8)):(pF s p m).length=32:=dh _
theorem MK(p:List (BitVec 8)):(eu p).1.id.length=16∧(eu p).1.root.length=32:=by
 unfold eu
 by_cases c:p.length=56
 ·simp only[c,decide_true,cond_true]
  cases G4 (cY p).toNat&&sH (cY (p.drop 4)).toNat
  ·exact⟨rfl,rfl⟩
  ·simp only[cond_true,keyOf,List.length_take,List.length_drop];omega
 ·simp only[c,decide_false,cond_false];exact⟨rfl,rfl⟩
theorem T6{p:List (BitVec 8)}(h:dz p=0):gy (nF p)=0:=by
 obtain⟨h1,h2,h3,h4⟩:=Ay h
 have hl:=MJ h
 have hT:dj (nF p)=QY p:=by
  show cY _=cY _
  rw[nF,oF _ _ (by omega)]
 rw[gy,if_neg (by omega),hT,h1,hl]
 show(if 36+32*nE p=36+32*nE p then(0:Int)else 2)=0
 rw[if_pos rfl]
theorem one_T{p:List (BitVec 8)}:cY (nF p)=QY p:=by rw[nF,oF _ _ (by omega)];rfl
noncomputable def QZ:Fn:=G2 dN dN dN (fun a b c=>decide (a.length≤1099511627776)&&decide (b.length≤1099511627776)&&decide (c.length≤1099511627776)) fun a b c=>
 (.cA [aW (if KO a c=0 then X0 a b c else ug),.raw (it (KO a c))],[])
set_option maxHeartbeats 2000000 in
theorem root_ok(C:be)(hC:aI C P)(h1:C.fn 143=some Gc)(h2:C.fn 89=some Ge)(h3:C.fn 146=some Gb)(h4:C.fn 90=some Ka)(h5:C.fn 41=some MH)(h6:C.fn 42=some MI):aO C.aZ P 142 (Fn.run QZ):=by
 refine cr (OL C hC) fun ds rows r h=>?_
 obtain⟨d0,d1,d2,bH,msg,sig,rfl,rfl,g0,g1,g2,hp,rfl⟩:=fq h
 obtain⟨x0,hx0⟩:=cy g0
 obtain⟨x1,pS⟩:=cy g1
 obtain⟨x2,zj⟩:=cy g2
 simp only[Bool.and_eq_true,decide_eq_true_eq]at hp
 obtain⟨⟨hp0,Mj⟩,sG⟩:=hp
 refine⟨rfl,_,.cons hx0 (.cons pS (.cons zj .nil)),ag rfl ?_⟩
 clear h g0 g1 g2 hx0 pS zj
 unfold FD FE
 have bL:=fun(rows:Rows) (l:List (BitVec 8)) (e:Bool)=>(ec.to (rows:=rows) (d:= .cF L8 (bs l) e) (.inr ⟨e,rfl⟩))
 have kR:=fun rows k=>XT rows k _ bH (bL rows bH x0) hp0
 have hz:D.agg Hq [.raw (u32 0#32),.raw (u32 0#32),.agg (.ar 16 L8) (List.replicate 16 (.raw (u8 0#8))),.agg (.ar 32 L8) (List.replicate 32 (.raw (u8 0#8)))]=BO T3:=rfl
 have l7:∀k,(BO k).fits Hq=true:=fun _=>rfl
 simp only[hz,dW]
 have gV:=(MK bH).1
 have hE:=XV bH
 by_cases c0:(eu bH).2=0
 rotate_left
 ·have e:KO bH sig=(eu bH).2:=by rw[KO,if_pos c0]
  have c0':=eq_false c0
  rw[e,if_neg c0]
  simp only[↓aj,ak,simprocAttr,aa,aX,h1,kR,l7,c0']
  exact .val _ rfl
 have hne:¬(eu bH).2≠0:=by simp[c0]
 by_cases c1:dz sig=0
 rotate_left
 ·have e:KO bH sig=dz sig:=by rw[KO,if_neg hne,if_pos c1]
  have kP:=fun rows k=>kPartsE rows k _ sig (bL rows sig x2) sG c1
  have T7:=eq_false c1
  rw[e,if_neg c1]
  simp only[↓aj,ak,simprocAttr,aa,aX,h1,kR,l7,c0,h2,kP,T7]
  exact .val _ rfl
 have kP:=fun rows k=>kParts rows k _ sig (bL rows sig x2) sG c1
 have hol:=MJ c1
 have hot:=@one_T sig
 have gt:∀k:Key,(BO k).get [0]=some (.raw (u32 k.t)):=fun _=>rfl
 have go:∀k:Key,(BO k).get [1]=some (.raw (u32 k.o)):=fun _=>rfl
 have gi:∀k:Key,(BO k).get [2]=some (.agg (.ar 16 L8) (bs k.id)):=fun _=>rfl
 have hl4:4≤(nF sig).length:=by omega
 have hlh:=hT_le (Kc sig).toNat
 rw[show hT (Kc sig).toNat=m8 sig from rfl]at hlh
 have sO:=IC sig (m8 sig)
 have hp32:=XY c1
 have hrt:Kc sig=(eu bH).1.t∧QY sig=(eu bH).1.o→KO bH sig=0:=fun h=>by rw[KO,if_neg hne,if_neg (by simp[c1]),if_pos h]
 have hrn:¬(Kc sig=(eu bH).1.t∧QY sig=(eu bH).1.o)→KO bH sig=6:=fun h=>by rw[KO,if_neg hne,if_neg (by simp[c1]),if_neg h]
 have hsp:=T6 c1
 have hrS:X0 bH msg sig=yH (eu bH).1.id (wG sig) (nD (eu bH).1.id (wG sig+1#32<<<m8 sig) (pF ⟨(eu bH).1.id,wG sig⟩ (nF sig) msg)) (iU sig (m8 sig)):=rfl
 rw[hrS]
 have hE0:(eu bH).2=0:=c0
 rw[hE0]at kR
 clear hE c0 hne hE0
 generalize (eu bH).1=K at*
 by_cases ht:Kc sig=K.t
 rotate_left
 ·have e:=hrn (fun h=>ht h.1)
  have wO:=eq_false ht
  rw[e,if_neg (by decide)]
  simp only[↓aj,ak,simprocAttr,aa,aX,h1,kR,l7,h2,kP,h3,gt,wO]
  exact .val _ rfl
 have wO:=eq_true ht
 have kN:=fun rows k hd=>kLNum rows k (.sl L8 2 [] 0 (36+32*nE sig) false) (nF sig) hd hl4
 rw[hot]at kN
 have kN0:=fun k=>kN [some ⟨.ar 32 L8,[.agg (.ar 32 L8) (bs ug)]⟩,some ⟨Hq,[BO K]⟩,some ⟨L8,bs (nF sig)⟩,some ⟨.ar 32 L8,(iU sig (m8 sig)).map aW⟩] k (bc.own rfl _ hol.symm)
 by_cases ho:QY sig=K.o
 rotate_left
 ·have e:=hrn (fun h=>ho h.2)
  have N7:=eq_false ho
  rw[e,if_neg (by decide)]
  simp only[↓aj,ak,simprocAttr,aa,aX,h1,kR,l7,h2,kP,h3,gt,go,wO,N7,kN0]
  exact .val _ rfl
 have N7:=eq_true ho
 have e:=hrt ⟨ht,ho⟩
 rw[e,if_pos rfl]
 have ja:=Pm ⟨K.id,wG sig⟩ (nF sig) msg
 simp only[↓aj,ak,simprocAttr,aa,aX,h1,kR,l7,h2,kP,h3,gt,go,gi,wO,N7,kN0,h4]
 refine Eq.mpr (kClaim _ _ ⟨K.id,wG sig⟩ _ _ (nF sig) msg (bc.own rfl _ hol.symm) (bL _ msg x1) gV (by have:=(Ay c1).2.2.1;omega) hsp) ?_
 have b0:∀n:Nat,((0:Int)≤(n:Int))=True:=fun n=>eq_true (by omega)
 generalize pF ⟨K.id,wG sig⟩ (nF sig) msg=CL at*
 simp only[↓aj,ak,simprocAttr,aa,aX,gi,b0,Int.toNat_natCast,h5,kLeaf _ _ _ _ _ gV ja]
 have qY:=XZ K.id (wG sig+1#32<<<m8 sig) (nD K.id (wG sig+1#32<<<m8 sig) CL) (iU sig (m8 sig)) (BP _ _ _)
 have hcs:yH K.id (wG sig) (nD K.id (wG sig+1#32<<<m8 sig) CL) (iU sig (m8 sig))=dI K.id (wG sig+1#32<<<m8 sig) (nD K.id (wG sig+1#32<<<m8 sig) CL) (iU sig (m8 sig)) (m8 sig):=by rw[yH,sO]
 rw[hcs]
 have hd0:nD K.id (wG sig+1#32<<<m8 sig) CL=dI K.id (wG sig+1#32<<<m8 sig) (nD K.id (wG sig+1#32<<<m8 sig) CL) (iU sig (m8 sig)) 0:=rfl
 generalize nD K.id (wG sig+1#32<<<m8 sig) CL=L0 at*
 generalize wG sig+1#32<<<m8 sig=R0 at*
 generalize hN:m8 sig=N at*
 generalize iU sig N=l at*
 refine bB N (fun i env rows=>has env [(77,.raw (it (i:Int))),(76,.raw (it (N:Int))),(75,.sl (.ar 32 L8) 3 [] 0 N false),(16,.raw (u32 (R0>>>i))),(8,.ptr Hq 1 [0]),(17,.ptr (.ar 32 L8) 5 [0]),(6,.ptr (.ar 32 L8) 0 [0])]∧
  live rows 0=some ⟨.ar 32 L8,[.agg (.ar 32 L8) (bs ug)]⟩∧live rows 1=some ⟨Hq,[BO K]⟩∧live rows 3=some ⟨.ar 32 L8,l.map aW⟩∧live rows 5=some ⟨.ar 32 L8,[.agg (.ar 32 L8) (bs (dI K.id R0 L0 l i))]⟩) ?_ ?_ ⟨?_,rfl,rfl,rfl,rfl⟩
 ·rintro i hi env rows ⟨hh,r0,r1,r3,r5⟩ R hR
  simp only[has]at hh
  have e0:((i:Int)<(N:Int))=True:=eq_true (by omega)
  have e1:=cE i (by omega)
  have uv:i<l.length:=by omega
  have yR:=hp32 _ (List.getElem_mem uv)
  have g:(l.map aW)[i]?=some (.agg (.ar 32 L8) (bs l[i])):=by simp[aW,uv]
  have hcl2:=qY i
  have hn:dI K.id R0 L0 l (i+1)=CZ K.id (R0>>>i) (dI K.id R0 L0 l i) l[i]:=by
   show CZ _ _ _ (l.getD i [])=_
   simp[List.getD,uv]
  have lt0:=bn r0
  have lt1:=bn r1
  have lt3:=bn r3
  have lt5:=bn r5
  rw[hn]at hR
  generalize l[i]=x at*
  generalize dI K.id R0 L0 l i=dc at*
  have r1A:=fun L=>aA r1 L
  have r5A:=fun L=>aA r5 L
  have hs:=shr_add R0 i
  have hst:CZ K.id (R0>>>i) dc x=if R0>>>i&&&1#32=1#32 then sn K.id (R0>>>(i+1)) x dc else sn K.id (R0>>>(i+1)) dc x:=by rw[CZ,hs]
  have s1:(1#64).toNat=1:=rfl
  by_cases hb:(R0>>>i&&&1#32=1#32)
  ·rw[hst,if_pos hb]at hR
   have eb:=eq_true hb
   simp only[↓aj,ak,simprocAttr,aa,aX,hh,e0,e1,b0,g,r3,r1A,r5A,gi,s1,hs,eb,h6,XS _ _ _ _ _ _ gV yR hcl2]
   refine hR _ _ ⟨by simp only[has,↓aj,ak,simprocAttr,aa,hh],?_,?_,?_,?_⟩
   ·rw[aE (by omega)];exact bJ r0
   ·rw[aE (by omega)];exact bJ r1
   ·rw[aE (by omega)];exact bJ r3
   ·exact aG (bJ r5)
  ·rw[hst,if_neg hb]at hR
   have eb:=eq_false hb
   simp only[↓aj,ak,simprocAttr,aa,aX,hh,e0,e1,b0,g,r3,r1A,r5A,gi,s1,hs,eb,h6,XS _ _ _ _ _ _ gV hcl2 yR]
   refine hR _ _ ⟨by simp only[has,↓aj,ak,simprocAttr,aa,hh],?_,?_,?_,?_⟩
   ·rw[aE (by omega)];exact bJ r0
   ·rw[aE (by omega)];exact bJ r1
   ·rw[aE (by omega)];exact bJ r3
   ·exact aG (bJ r5)
 ·rintro env rows ⟨hh,r0,r1,r3,r5⟩ R
  simp only[has]at hh
  have e0:((N:Int)<(N:Int))=False:=eq_false (by omega)
  have w1:=fun x=>aG (y:=x) r0
  simp only[↓aj,ak,simprocAttr,aa,aX,hh,e0,r5,r0,w1]
  exact .val _ rfl
 ·have e:R0>>>0=R0:=by simp
  rw[e]
  simp only[has,↓aj,ak,simprocAttr,aa]
theorem kRoot(rows:Rows)(k:D→Rows→Prop)(d0 d1 d2:D)(a b c:List (BitVec 8))(h0:bc rows d0 a)(h1:bc rows d1 b)(h2:bc rows d2 c)(ha:a.length≤1099511627776)(hb:b.length≤1099511627776)(hc:c.length≤1099511627776):
  aJ QZ rows k [d0,d1,d2]=k (.cA [.agg (.ar 32 L8) (bs (if KO a c=0 then X0 a b c else ug)),.raw (it (KO a c))]) rows:=by
 refine(fT (.bs h0) (.bs h1) (.bs h2) (by simp[ha,hb,hc]) rfl k).trans ?_
 simp[aW,shift,bh,ae,Sh.pure]
def so(bH msg sig:List (BitVec 8)):Int:=if KO bH sig=0 then(if X0 bH msg sig=(eu bH).1.root then 0 else 5)else KO bH sig
noncomputable def Az:Fn:=G2 dN dN dN (fun a b c=>decide (a.length≤1099511627776)&&decide (b.length≤1099511627776)&&decide (c.length≤1099511627776)) fun a b c=>(.raw (it (so a b c)),[])
theorem T8(C:be)(hC:aI C P)(h1:C.fn 143=some Gc)(h2:C.fn 142=some QZ):aO C.aZ P 88 (Fn.run Az):=by
 refine cr (JA C hC) fun ds rows r h=>?_
 obtain⟨d0,d1,d2,bH,msg,sig,rfl,rfl,g0,g1,g2,hp,rfl⟩:=fq h
 obtain⟨x0,hx0⟩:=cy g0
 obtain⟨x1,pS⟩:=cy g1
 obtain⟨x2,zj⟩:=cy g2
 simp only[Bool.and_eq_true,decide_eq_true_eq]at hp
 obtain⟨⟨hp0,Mj⟩,sG⟩:=hp
 refine⟨rfl,_,.cons hx0 (.cons pS (.cons zj .nil)),ag rfl ?_⟩
 clear h g0 g1 g2 hx0 pS zj
 unfold zF zG
 have bL:=fun(rows:Rows) (l:List (BitVec 8)) (e:Bool)=>(ec.to (rows:=rows) (d:= .cF L8 (bs l) e) (.inr ⟨e,rfl⟩))
 have hz:D.agg Hq [.raw (u32 0#32),.raw (u32 0#32),.agg (.ar 16 L8) (List.replicate 16 (.raw (u8 0#8))),.agg (.ar 32 L8) (List.replicate 32 (.raw (u8 0#8)))]=BO T3:=rfl
 have l7:∀k,(BO k).fits Hq=true:=fun _=>rfl
 have gr:∀k:Key,(BO k).get [3]=some (.agg (.ar 32 L8) (bs k.root)):=fun _=>rfl
 have kR:=fun rows k=>XT rows k _ bH (bL rows bH x0) hp0
 have kT:=fun rows k=>kRoot rows k _ _ _ bH msg sig (bL rows bH x0) (bL rows msg x1) (bL rows sig x2) hp0 Mj sG
 simp only[hz,dW]
 by_cases c0:KO bH sig=0
 ·have e:=rtS_len bH msg sig
  have e2:=(MK bH).2
  have eq:=JZ (X0 bH msg sig) (eu bH).1.root e e2
  have hv:so bH msg sig=if X0 bH msg sig=(eu bH).1.root then 0 else 5:=by rw[so,if_pos c0]
  rw[hv]
  simp only[c0,if_true]at kT
  by_cases c1:X0 bH msg sig=(eu bH).1.root
  ·rw[if_pos c1]
   rw[decide_eq_true c1]at eq
   simp only[↓aj,ak,simprocAttr,aa,aX,h1,kR,l7,h2,kT,gr,eq]
   exact .val _ rfl
  ·rw[if_neg c1]
   rw[decide_eq_false c1]at eq
   simp only[↓aj,ak,simprocAttr,aa,aX,h1,kR,l7,h2,kT,gr,eq]
   exact .val _ rfl
 ·have hv:so bH msg sig=KO bH sig:=by rw[so,if_neg c0]
  have c0':=eq_false c0
  rw[hv]
  simp only[↓aj,ak,simprocAttr,aa,aX,h1,kR,l7,h2,kT,gr,c0']
  exact .val _ rfl
theorem kVerify(rows:Rows)(k:D→Rows→Prop)(d0 d1 d2:D)(a b c:List (BitVec 8))(h0:bc rows d0 a)(h1:bc rows d1 b)(h2:bc rows d2 c)(ha:a.length≤1099511627776)(hb:b.length≤1099511627776)(hc:c.length≤1099511627776):
  aJ Az rows k [d0,d1,d2]=k (.raw (it (so a b c))) rows:=by
 refine(fT (.bs h0) (.bs h1) (.bs h2) (by simp[ha,hb,hc]) rfl k).trans ?_
 simp[shift,ae]
abbrev iG:Sh:=NB
abbrev jZ:Sh:=S24
abbrev ML:Sh:=S16
abbrev AA:Sh:=pP LS LB
abbrev C9:Sh:=pP ML LI
structure oJ where
 t:BitVec 32
 o:BitVec 32
 id:List (BitVec 8)
 aL:List (BitVec 8)
 ns:List (List (BitVec 8))
 en:Bool
 nx:BitVec 32
 sm:List D
 tm:List D
 ld:D
def wH(s:oJ):D:= .b5 (.agg iG [.raw (u32 s.t),.raw (u32 s.o),.agg (.ar 16 L8) (bs s.id),.agg (.ar 32 L8) (bs s.aL),.cF (.ar 32 L8) (s.ns.map aW) s.en,.raw (u32 s.nx),.om AA s.sm,.om C9 s.tm,s.ld])
theorem Da:∀{a b:List (List (BitVec 8))},a.map aW=b.map aW→a=b
 |[],[],_=>rfl
 |[],_::_,h=>by simp at h
 | _::_,[],h=>by simp at h
 |x::a,y::b,h=>by
  simp only[List.map_cons,List.cons.injEq]at h
  rw[Al x y h.1,Da h.2]
theorem Ed(x y:oJ)(h:wH x=wH y):x=y:=by
 obtain⟨t,o,id,aL,ns,en,nx,sm,tm,ld⟩:=x
 obtain⟨t',o',id',seed',ns',en',nx',sm',tm',ld'⟩:=y
 simp only[wH,D.b5.injEq,D.agg.injEq,List.cons.injEq,D.raw.injEq,D.cF.injEq,D.om.injEq,true_and,and_true]at h
 obtain⟨h1,h2,h3,h4,⟨h5,h6⟩,h7,h8,h9,h10⟩:=h
 rw[mP h1,mP h2,tu h3,tu h4,Da h5,h6,mP h7,h8,h9,h10]
def iA(s:oJ):Nat:=s.ns.length/2
def ml(s:oJ):Bool:=decide (s.id.length=16)&&decide (s.aL.length=32)&&It s.ns&&decide (4≤s.ns.length)&&decide (s.ns.length≤2048)&&decide (s.ns.length %2=0)&&!aQ s.ld
theorem eQ{s:oJ}:ml s=true↔s.id.length=16∧s.aL.length=32∧(∀x∈s.ns,x.length=32)∧4≤s.ns.length∧s.ns.length≤2048∧s.ns.length %2=0∧aQ s.ld=false:=by
 simp only[ml,Bool.and_eq_true,decide_eq_true_eq,sa,Bool.not_eq_true']
 constructor
 ·rintro⟨⟨⟨⟨⟨⟨h1,h2⟩,h3⟩,h4⟩,h5⟩,h6⟩,h7⟩;exact⟨h1,h2,h3,h4,h5,h6,h7⟩
 ·rintro⟨h1,h2,h3,h4,h5,h6,h7⟩;exact⟨⟨⟨⟨⟨⟨h1,h2⟩,h3⟩,h4⟩,h5⟩,h6⟩,h7⟩
theorem BQ{s:oJ}(h:aQ s.ld=false):aQ (wH s)=false:=by
 simp[wH,aQ,aN,Sh.pure,h]
noncomputable def qE:Fn:=lE (b8 wH) ml fun s=>(.raw (it (iA s:Int)),[])
theorem T9(C:be)(hC:aI C P):aO C.aZ P 38 (Fn.run qE):=by
 refine aH (wV C hC) fun ds rows r h=>?_
 obtain⟨d,s,rfl,rfl,hd,hp,rfl⟩:=a8 h
 cases aF hd
 obtain⟨gV,qX,p8,Ph,hn,wv,HV⟩:=eQ.1 hp
 refine⟨rfl,ag rfl ?_⟩
 clear h hd
 unfold od oe
 have e1:((s.ns.length:Nat):Int).tdiv 2=((iA s:Nat):Int):=rfl
 have e2:wz ((iA s:Nat):Int)=((iA s:Nat):Int):=bf (by unfold iA;omega)
 simp only[wH,↓aj,ak,simprocAttr,aa,aX,List.length_map,e1,e2]
 exact .val _ rfl
theorem X1(rows:Rows)(k:D→Rows→Prop)(d:D)(s:oJ)(h:bT rows (b8 wH) d s)(hp:ml s=true):aJ qE rows k [d]=k (.raw (it (iA s:Int))) rows:=by
 refine(cC h hp rfl k).trans ?_
 simp[shift,ae]
theorem Gf(rows:Rows)(k:D→Rows→Prop)(s:oJ)(hp:ml s=true):aJ qE rows k [wH s]=k (.raw (it (iA s:Int))) rows:=by
 refine(bi (by simp[aN,BQ (eQ.1 hp).2.2.2.2.2.2]) (ei (bV Ed s) hp)).trans ?_
 simp[shift,ae]
noncomputable def Gg:Fn:=wS (b8 wH) qN (fun s _=>ml s) fun s q=>(fb ⟨s.id,q⟩,[])
theorem site_ok(C:be)(hC:aI C P):aO C.aZ P 40 (Fn.run Gg):=by
 refine aH (zz C hC) fun ds rows r h=>?_
 obtain⟨d,d2,s,q,rfl,rfl,hd,yQ,hp,rfl⟩:=dq h
 cases aF hd
 cases dL yQ
 obtain⟨gV,qX,p8,Ph,hn,wv,HV⟩:=eQ.1 hp
 refine⟨rfl,ag rfl ?_⟩
 clear h hd yQ
 unfold qn qo
 have hz:D.agg vP [.agg (.ar 16 L8) (List.replicate 16 (.raw (u8 0#8))),.raw (u32 0#32)]=fb ⟨List.replicate 16 0#8,0#32⟩:=rfl
 simp only[hz]
 simp only[wH,↓aj,ak,simprocAttr,aa,aX,dw]
 exact .val _ rfl
theorem X2(rows:Rows)(k:D→Rows→Prop)(d:D)(s:oJ)(q:BitVec 32)(h:bT rows (b8 wH) d s)(hp:ml s=true):aJ Gg rows k [d,.raw (u32 q)]=k (fb ⟨s.id,q⟩) rows:=by
 refine(jB h (bT.raw (fK q)) hp rfl k).trans ?_
 simp[fb,shift,ae,Sh.pure]
theorem kSiteC(rows:Rows)(k:D→Rows→Prop)(s:oJ)(q:BitVec 32)(hp:ml s=true):aJ Gg rows k [wH s,.raw (u32 q)]=k (fb ⟨s.id,q⟩) rows:=by
 refine(bi (by simp[aN,BQ (eQ.1 hp).2.2.2.2.2.2,aQ]) (jP (bV Ed s) (fK q) hp)).trans ?_
 simp[fb,shift,ae,Sh.pure]
noncomputable def Q1:Fn:=lE (b8 wH) ml fun s=>(.raw (it ((iA s:Int)-(s.nx.toNat:Int))),[])
theorem left_ok(C:be)(hC:aI C P)(h1:C.fn 38=some qE):aO C.aZ P 109 (Fn.run Q1):=by
 refine aH (zM C hC) fun ds rows r h=>?_
 obtain⟨d,s,rfl,rfl,hd,hp,rfl⟩:=a8 h
 cases aF hd
 obtain⟨gV,qX,p8,Ph,hn,wv,HV⟩:=eQ.1 hp
 refine⟨rfl,ag rfl ?_⟩
 clear h hd
 unfold qs qt
 have kL:=fun rows k=>Gf rows k s hp
 have hx:=s.nx.isLt
 have e2:wz ((iA s:Int)-(s.nx.toNat:Int))=(iA s:Int)-(s.nx.toNat:Int):=bf (by unfold iA;omega)
 simp only[wH]at kL
 simp only[wH,↓aj,ak,simprocAttr,aa,aX,h1,kL,e2]
 exact .val _ rfl
theorem kLeftV(rows:Rows)(k:D→Rows→Prop)(d:D)(s:oJ)(h:bT rows (b8 wH) d s)(hp:ml s=true):aJ Q1 rows k [d]=k (.raw (it ((iA s:Int)-(s.nx.toNat:Int)))) rows:=by
 refine(cC h hp rfl k).trans ?_
 simp[shift,ae]
def fc(s:oJ):List (BitVec 8):=bC s.t++bC s.o++s.id++s.ns.getD 1 []
theorem sq{s:oJ}(hp:ml s=true):(fc s).length=56:=by
 obtain⟨gV,qX,p8,Ph,hn,wv,HV⟩:=eQ.1 hp
 have:=p8 _ (List.getElem_mem (show 1<s.ns.length by omega))
 have e:s.ns.getD 1 []=s.ns[1]'(by omega):=by simp[List.getD,show 1<s.ns.length by omega]
 rw[fc,e]
 simp only[List.length_append,this,gV]
 rfl
theorem sg_n1{s:oJ}(hp:ml s=true):(s.ns.map aW)[1]?=some (.agg (.ar 32 L8) (bs (s.ns.getD 1 [])))∧(s.ns.getD 1 []).length=32:=by
 obtain⟨gV,qX,p8,Ph,hn,wv,HV⟩:=eQ.1 hp
 have:=p8 _ (List.getElem_mem (show 1<s.ns.length by omega))
 have e:s.ns.getD 1 []=s.ns[1]'(by omega):=by simp[List.getD,show 1<s.ns.length by omega]
 rw[e]
 exact⟨by simp[aW,show 1<s.ns.length by omega],this⟩
noncomputable def AB:Fn:=lE (b8 wH) ml fun s=>ez (fc s) false
theorem Pn(C:be)(hC:aI C P)(h1:C.fn 50=some xP):aO C.aZ P 10 (Fn.run AB):=by
 refine aH (wU C hC) fun ds rows r h=>?_
 obtain⟨d,s,rfl,rfl,hd,hp,rfl⟩:=a8 h
 cases aF hd
 obtain⟨gV,qX,p8,Ph,hn,wv,HV⟩:=eQ.1 hp
 refine⟨rfl,ag rfl ?_⟩
 clear h hd
 unfold ob oc
 obtain⟨g1,wx⟩:=sg_n1 hp
 have b1:((1:Int)<(s.ns.length:Int))=True:=eq_true (by omega)
 have w4:∀x:BitVec 32,List.take 4 (bs (bC x))=bs (bC x):=fun x=>List.take_of_length_le (Nat.le_refl _)
 have l4:∀x:BitVec 32,(bs (bC x)).length=4:=fun x=>rfl
 have i16:List.take 16 (bs s.id)=bs s.id:=List.take_of_length_le (by rw[aC,gV];exact Nat.le_refl _)
 have l16:(bs s.id).length=16:=by rw[aC,gV]
 have n32:List.take 32 (bs (s.ns.getD 1 []))=bs (s.ns.getD 1 []):=List.take_of_length_le (by rw[aC,wx];exact Nat.le_refl _)
 have ln:(bs (s.ns.getD 1 [])).length=32:=by rw[aC,wx]
 have t8:List.take 8 (bs (bC s.t++bC s.o))=bs (bC s.t++bC s.o):=List.take_of_length_le (Nat.le_refl _)
 have l8:(bs (bC s.t++bC s.o)).length=8:=rfl
 have l24:(bs (bC s.t++(bC s.o++s.id))).length=24:=by rw[aC,List.length_append,List.length_append,gV];rfl
 have t24:List.take 24 (bs (bC s.t++(bC s.o++s.id)))=bs (bC s.t++(bC s.o++s.id)):=List.take_of_length_le (by rw[l24];exact Nat.le_refl _)
 simp only[wH,↓aj,ak,simprocAttr,aa,aX,h1,Mw,w4,l4,i16,l16,t8,l8,t24,l24,n32,ln,g1,b1,nU,List.length_map]
 have e:bs (bC s.t++(bC s.o++(s.id++s.ns.getD 1 [])))=bs (fc s):=by rw[fc];simp only[List.append_assoc]
 show wR _ _ (.sl L8 0 [] 0 (fc s).length false) [some ⟨L8,bs (fc s)⟩]
 rw[sq hp,e]
 exact .own L8 4 0 56 false false ⟨L8,bs (fc s)⟩ rfl rfl (fun h=>h)
theorem MM(rows:Rows)(k:D→Rows→Prop)(d:D)(s:oJ)(h:bT rows (b8 wH) d s)(hp:ml s=true):aJ AB rows k [d]=k (.sl L8 (0+rows.length) [] 0 56 false) (rows++[some ⟨L8,bs (fc s)⟩]):=by
 refine(cC h hp rfl k).trans ?_
 simp[ez,shift,ae,Sh.pure,sq hp]
theorem xor1(r:Nat):r^^^1=if r %2=0 then r+1 else r-1:=by
 have h1:(r^^^1)/2=r/2:=by
  have:=Nat.xor_div_two_pow (a:=r) (b:=1) (n:=1)
  simpa using this
 have h2:(r^^^1) %2=(r+1) %2:=by
  have:=Nat.xor_mod_two_pow (a:=r) (b:=1) (n:=1)
  rw[Nat.pow_one]at this
  rw[this]
  have e0:(0:Nat)^^^1 %2=1:=rfl
  have e1:(1:Nat)^^^1 %2=0:=rfl
  rcases Nat.mod_two_eq_zero_or_one r with h|h<;>rw[h]
  ·rw[e0];omega
  ·rw[e1];omega
 split<;>omega
theorem xor_it(r:Nat)(h:r<4611686018427387904)(k:D→Prop):bE .xor (it (r:Int)) (it 1) k=k (.raw (it ((r^^^1:Nat):Int))):=by
 have e1:BitVec.ofInt IntKind.i64.bits (r:Int)=BitVec.ofNat 64 r:=BitVec.ofInt_natCast _ _
 have e2:BitVec.ofInt IntKind.i64.bits (1:Int)=BitVec.ofNat 64 1:=rfl
 have hx:r^^^1<9223372036854775808:=by have:=xor1 r;split at this<;>omega
 have e3:(BitVec.ofNat 64 r^^^BitVec.ofNat 64 1).toNat=r^^^1:=by
  rw[BitVec.toNat_xor,BitVec.toNat_ofNat,BitVec.toNat_ofNat,Nat.mod_eq_of_lt (by omega)]
 simp only[bE,it,true_and]
 rw[e1,e2]
 show k (.raw (.int .i64 (wz (((BitVec.ofNat 64 r^^^BitVec.ofNat 64 1).toNat:Nat):Int))))=_
 rw[e3,bf (by omega)]
def gX(s:oJ)(q:Nat):Nat:=Nat.log2 (iA s+q)
def nX(s:oJ)(q i:Nat):List (BitVec 8):=s.ns.getD (((iA s+q)/2^i)^^^1) []
def l9(s:oJ)(q:Nat):List (List (BitVec 8)):=(List.range (gX s q)).map (nX s q)
theorem sr(s:oJ)(q:Nat):(l9 s q).length=gX s q:=by simp[l9]
theorem MN{s:oJ}(hp:ml s=true){q:Nat}(hq:q<iA s)(i:Nat):(s.ns.map aW)[((iA s+q)/2^i)^^^1]?=some (.agg (.ar 32 L8) (bs (nX s q i)))∧(nX s q i).length=32∧((iA s+q)/2^i)^^^1<s.ns.length:=by
 obtain⟨gV,qX,p8,Ph,hn,wv,HV⟩:=eQ.1 hp
 have hr:(iA s+q)/2^i≤iA s+q:=Nat.div_le_self _ _
 have hl:iA s+q<s.ns.length:=by unfold iA at*;omega
 have hx:=xor1 ((iA s+q)/2^i)
 have hlt:((iA s+q)/2^i)^^^1<s.ns.length:=by split at hx<;>omega
 have e:nX s q i=s.ns[((iA s+q)/2^i)^^^1]:=by simp[nX,List.getD,hlt]
 rw[e]
 exact⟨by simp[aW,hlt],p8 _ (List.getElem_mem hlt),hlt⟩
theorem Gh{s:oJ}(hp:ml s=true){q:Nat}(hq:q<iA s):∀x∈l9 s q,x.length=32:=by
 intro x hx
 obtain⟨i,_,rfl⟩:=List.mem_map.1 hx
 exact(MN hp hq i).2.1
noncomputable def Q2:Fn:=wS (b8 wH) qN (fun s _=>ml s) fun s q=>if q.toNat<iA s then(.sl (.ar 32 L8) 0 [] 0 (gX s q.toNat) false,[some ⟨.ar 32 L8,(l9 s q.toNat).map aW⟩])else(.raw (.slice none 0 0),[])
theorem Ua{s:oJ}(hp:ml s=true)(q:Nat):1≤gX s q:=by
 obtain⟨gV,qX,p8,Ph,hn,wv,HV⟩:=eQ.1 hp
 have:iA s+q≠0:=by unfold iA;omega
 exact(Nat.le_log2 this).2 (by unfold iA;omega)
set_option maxHeartbeats 1000000 in
theorem path_ok(C:be)(hC:aI C P)(h1:C.fn 38=some qE):aO C.aZ P 113 (Fn.run Q2):=by
 refine aH (zP C hC) fun ds rows r h=>?_
 obtain⟨d,d2,s,q,rfl,rfl,hd,yQ,hp,rfl⟩:=dq h
 cases aF hd
 cases dL yQ
 obtain⟨gV,qX,p8,Ph,hn,wv,HV⟩:=eQ.1 hp
 refine⟨rfl,ag rfl ?_⟩
 clear h hd yQ
 unfold qu qv
 have kL:=fun rows k=>Gf rows k s hp
 simp only[wH]at kL
 have hq32:=q.isLt
 have hlv:iA s≤1024:=by unfold iA;omega
 have hcv:BitVec.ofInt 64 ((iA s:Nat):Int)=BitVec.ofNat 64 (iA s):=BitVec.ofInt_natCast _ _
 by_cases hq:q.toNat<iA s
 rotate_left
 ·have c1:(BitVec.ofNat 64 (iA s)≤q.setWidth 64)=True:=eq_true (by rw[BitVec.le_def,BitVec.toNat_ofNat,BitVec.toNat_setWidth];omega)
  rw[if_neg hq]
  simp only[wH,↓aj,ak,simprocAttr,aa,aX,h1,kL,hcv,c1]
  exact .val _ rfl
 have c1:(BitVec.ofNat 64 (iA s)≤q.setWidth 64)=False:=eq_false (by rw[BitVec.le_def,BitVec.toNat_ofNat,BitVec.toNat_setWidth];omega)
 rw[if_pos hq]
 generalize hQ:q.toNat=Q at*
 have a1:wz ((iA s:Int)+(Q:Int))=((iA s+Q:Nat):Int):=by rw[bf (by omega)];omega
 have hN1:=Ua hp Q
 have hpg:=fun i=>MN hp hq i
 have hN:∀i,i<gX s Q→1<(iA s+Q)/2^i:=fun i hi=>by
  have h0:iA s+Q≠0:=by unfold iA;omega
  have:=(Nat.le_log2 h0 (k:=i+1)).1 hi
  rw[Nat.pow_succ]at this
  exact(Nat.le_div_iff_mul_le (Nat.two_pow_pos i)).2 (by omega)
 have hNe:(iA s+Q)/2^gX s Q≤1:=by
  have h0:iA s+Q≠0:=by unfold iA;omega
  have:=(Nat.log2_lt h0 (k:=gX s Q+1)).1 (by unfold gX;omega)
  rw[Nat.pow_succ]at this
  have:=(Nat.div_lt_iff_lt_mul (Nat.two_pow_pos (gX s Q)) (x:=iA s+Q) (y:=2)).2 (by omega)
  omega
 have hds:∀i,((List.range i).map (nX s Q)).map aW++[.agg (.ar 32 L8) (bs (nX s Q i))]=((List.range (i+1)).map (nX s Q)).map aW:=fun i=>by simp[List.range_succ,aW]
 simp only[wH,↓aj,ak,simprocAttr,aa,aX,h1,kL,hcv,c1,hQ,a1]
 have e1:∀(m:Nat) k,bE .shr (it (m:Int)) (u64 1#64) k=k (.raw (it ((m/2^1:Nat):Int))):=fun m k=>Xy m 1 .u64 (by decide) k
 have hR:iA s+Q≤2048:=by unfold iA at*;omega
 have hdv:∀i,(iA s+Q)/2^i≤2048:=fun i=>Nat.le_trans (Nat.div_le_self _ _) hR
 have G5:∀i,(iA s+Q)/2^i/2^1=(iA s+Q)/2^(i+1):=fun i=>by rw[Nat.div_div_eq_div_mul,←Nat.pow_add]
 have hR0:(iA s+Q)/2^0=iA s+Q:=by simp
 have hpG:l9 s Q=(List.range (gX s Q)).map (nX s Q):=rfl
 rw[hpG]
 have jO:aQ s.ld=false:=HV
 generalize hV:(D.agg iG [.raw (u32 s.t),.raw (u32 s.o),.agg (.ar 16 L8) (bs s.id),.agg (.ar 32 L8) (bs s.aL),.cF (.ar 32 L8) (s.ns.map aW) s.en,.raw (u32 s.nx),.om AA s.sm,.om C9 s.tm,s.ld]).b5=V
 have hfa:V=(D.agg iG [.raw (u32 s.t),.raw (u32 s.o),.agg (.ar 16 L8) (bs s.id),.agg (.ar 32 L8) (bs s.aL),.cF (.ar 32 L8) (s.ns.map aW) s.en,.raw (u32 s.nx),.om AA s.sm,.om C9 s.tm,s.ld]).b5:=hV.symm
 refine bB (gX s Q) (fun i env rows=>has env [(6,.raw (it (((iA s+Q)/2^i:Nat):Int))),(0,V)]∧∃d',look env 5=some d'∧iK (.ar 32 L8) d' rows (((List.range i).map (nX s Q)).map aW)) ?_ ?_ ⟨?_,.raw (.slice none 0 0),?_,.inl ⟨rfl,rfl⟩⟩
 ·rintro i hi env rows ⟨hw,d',h5,hO⟩ R hRR
  simp only[has]at hw
  obtain⟨g1,g2,g3⟩:=hpg i
  have hgt:=hN i hi
  have hle:=hdv i
  have hxi:=xor_it ((iA s+Q)/2^i) (by omega)
  have hnx':=G5 i
  have hde:=hds i
  have b0:∀n:Nat,((0:Int)≤(n:Int))=True:=fun n=>eq_true (by omega)
  generalize (iA s+Q)/2^i=r at*
  generalize nX s Q i=x at*
  have f0:((1:Int)<(r:Int))=True:=eq_true (by omega)
  have f1:(((r^^^1:Nat):Int)<(s.ns.length:Int))=True:=eq_true (by omega)
  have w0:look env 0=_:=hw.2.1.trans (congrArg some hfa)
  have w6:=hw.1
  simp only[↓aj,ak,simprocAttr,aa,aX,w0,w6,h5,f0,hxi,b0,f1,List.length_map,g1,e1,hnx']
  have uv:(List.range i).length=i:=List.length_range
  have hN12:gX s Q≤11:=by
   have h0:iA s+Q≠0:=by unfold iA;omega
   have:=(Nat.log2_lt h0 (k:=12)).2 (by omega)
   unfold gX;omega
  refine iX hO.push (by rw[List.length_map,List.length_map,uv];simp[most];omega) (by rw[List.length_map,List.length_map,uv];simp[most];omega) fun d2 ab F4 oD vS _=>?_
  rw[hde]at F4
  simp only[↓aj,ak,simprocAttr,aa,aX,w0,w6,hxi,e1,hnx']
  exact hRR _ _ ⟨by simp only[has,↓aj,ak,simprocAttr,aa,w0,hfa],d2,by simp only[↓aj,ak,simprocAttr,aa],F4⟩
 ·rintro env rows ⟨hw,d',h5,hO⟩ R
  simp only[has]at hw
  have f0:((1:Int)<(((iA s+Q)/2^gX s Q:Nat):Int))=False:=eq_false (by omega)
  simp only[↓aj,ak,simprocAttr,aa,aX,hw.1,h5,f0]
  rcases hO with⟨h,_⟩|⟨r,Pj,rfl,hlv⟩
  ·have:=congrArg List.length h
   rw[List.length_map,List.length_map,List.length_range,List.length_nil]at this
   omega
  ·rw[List.length_map,List.length_map,List.length_range]
   exact .own (.ar 32 L8) r 0 _ Pj false _ hlv rfl (fun h=>by cases h)
 ·rw[hR0];simp only[has,↓aj,ak,simprocAttr,aa]
 ·simp only[↓aj,ak,simprocAttr,aa]
theorem kPathC(rows:Rows)(k:D→Rows→Prop)(s:oJ)(q:BitVec 32)(hp:ml s=true)(hq:q.toNat<iA s):
  aJ Q2 rows k [wH s,.raw (u32 q)]=k (.sl (.ar 32 L8) (0+rows.length) [] 0 (gX s q.toNat) false) (rows++[some ⟨.ar 32 L8,(l9 s q.toNat).map aW⟩]):=by
 refine(bi (by simp[aN,BQ (eQ.1 hp).2.2.2.2.2.2,aQ]) (jP (bV Ed s) (fK q) hp)).trans ?_
 simp only[if_pos hq]
 simp[shift,ae,Sh.pure]
def iD(s:oJ)(q:BitVec 32)(c m:List (BitVec 8)):List (BitVec 8):=bC q++lq s.o ⟨s.id,q⟩ s.aL c m++bC s.t++(l9 s q.toNat).flatten
theorem X3{s:oJ}(hp:ml s=true){q:Nat}(hq:q<iA s):gX s q≤11:=by
 obtain⟨gV,qX,p8,Ph,hn,wv,HV⟩:=eQ.1 hp
 have h0:iA s+q≠0:=by unfold iA;omega
 have:=(Nat.log2_lt h0 (k:=12)).2 (by unfold iA at*;omega)
 unfold gX;omega
theorem Gi{s:oJ}(hp:ml s=true){q:BitVec 32}(hq:q.toNat<iA s)(c m:List (BitVec 8))(hc:c.length=32):(iD s q c m).length=44+32*pT s.o.toNat+32*gX s q.toNat:=by
 rw[iD]
 simp only[List.length_append,sj _ _ _ _ _ hc,r8 (Gh hp hq),sr]
 show 4+(36+32*pT s.o.toNat)+4+32*gX s q.toNat=_
 omega
noncomputable def Kd:Fn:=Xu (b8 wH) qN (b8 aW) dN (fun s _ c m=>ml s&&sH s.o.toNat&&decide (c.length=32)&&decide (m.length≤1099511627776)) fun s q c m=>
 if q.toNat<iA s then(.cA [.sl L8 0 [] 0 (44+32*pT s.o.toNat+32*gX s q.toNat) false,.raw (it 0)],[some ⟨L8,bs (iD s q c m)⟩])else(.cA [.raw (.slice none 0 0),.raw (it 1)],[])
set_option maxHeartbeats 2000000 in
theorem X4(C:be)(hC:aI C P)(h1:C.fn 38=some qE)(h2:C.fn 40=some Gg)(h3:C.fn 113=some Q2)(h4:C.fn 50=some xP)(h5:C.fn 112=some QX):aO C.aZ P 54 (Fn.run Kd):=by
 refine cr (yl C hC) fun ds rows r h=>?_
 obtain⟨d0,d1,d2,d3,s,q,c,m,rfl,rfl,g0,g1,g2,g3,hp,rfl⟩:=sc h
 cases aF g0
 cases dL g1
 cases aF g2
 obtain⟨xm,hx⟩:=cy g3
 simp only[Bool.and_eq_true,decide_eq_true_eq]at hp
 obtain⟨⟨⟨hp,ho⟩,hc⟩,hm⟩:=hp
 obtain⟨gV,qX,p8,Ph,hn,wv,HV⟩:=eQ.1 hp
 refine⟨rfl,_,.cons (.refl _) (.cons (.refl _) (.cons (.refl _) (.cons hx .nil))),ag rfl ?_⟩
 clear h g0 g1 g2 g3 hx
 unfold o7 o8
 have kL:=fun rows k=>Gf rows k s hp
 have kS:=fun rows k=>kSiteC rows k s q hp
 have hlv:iA s≤1024:=by unfold iA;omega
 have hq32:=q.isLt
 have hcv:BitVec.ofInt 64 ((iA s:Nat):Int)=BitVec.ofNat 64 (iA s):=BitVec.ofInt_natCast _ _
 have bL:=fun(rows:Rows) (l:List (BitVec 8)) (e:Bool)=>(ec.to (rows:=rows) (d:= .cF L8 (bs l) e) (.inr ⟨e,rfl⟩))
 have kG:=fun rows k=>kSign rows k s.o ⟨s.id,q⟩ s.aL c m (.cF L8 (bs m) xm) (bL rows m xm) gV qX hc ho
 simp only[dW]
 by_cases hq:q.toNat<iA s
 rotate_left
 ·have c1:(BitVec.ofNat 64 (iA s)≤q.setWidth 64)=True:=eq_true (by rw[BitVec.le_def,BitVec.toNat_ofNat,BitVec.toNat_setWidth];omega)
  rw[if_neg hq]
  simp only[wH]at kL
  simp only[wH,aW,↓aj,ak,simprocAttr,aa,aX,h1,kL,hcv,c1]
  exact .val _ rfl
 have c1:(BitVec.ofNat 64 (iA s)≤q.setWidth 64)=False:=eq_false (by rw[BitVec.le_def,BitVec.toNat_ofNat,BitVec.toNat_setWidth];omega)
 rw[if_pos hq]
 have kP:=fun rows k=>kPathC rows k s q hp hq
 have jO:=sj s.o ⟨s.id,q⟩ s.aL c m hc
 have hN:=X3 hp hq
 have sO:=sr s q.toNat
 have hp32:=Gh hp hq
 have hpt:pT s.o.toNat≤265:=(j8 ho).2.2.1
 have hsg:iD s q c m=bC q++lq s.o ⟨s.id,q⟩ s.aL c m++bC s.t++(l9 s q.toNat).flatten:=rfl
 rw[hsg]
 generalize lq s.o ⟨s.id,q⟩ s.aL c m=SG at*
 generalize l9 s q.toNat=l at*
 generalize gX s q.toNat=N at*
 simp only[wH]at kL kS kP
 generalize hM:pT s.o.toNat=M at*
 have w4:∀x:BitVec 32,List.take 4 (bs (bC x))=bs (bC x):=fun x=>List.take_of_length_le (Nat.le_refl _)
 have l4:∀x:BitVec 32,(bs (bC x)).length=4:=fun x=>rfl
 have sg1:List.take (36+32*M) (bs SG)=bs SG:=List.take_of_length_le (by rw[aC,jO];exact Nat.le_refl _)
 have sg2:(bs SG).length=36+32*M:=by rw[aC,jO]
 have la:(bs (bC q++SG)).length=4+(36+32*M):=by rw[aC,List.length_append,jO];rfl
 have ta:List.take (4+(36+32*M)) (bs (bC q++SG))=bs (bC q++SG):=List.take_of_length_le (by rw[la];exact Nat.le_refl _)
 simp only[wH,aW,↓aj,ak,simprocAttr,aa,aX,h1,kL,hcv,c1,h2,kS,h5,kG,h4,Mw,h3,kP,w4,l4,sg1,sg2,la,ta,nU]
 refine⟨by omega,by omega,by omega,by omega,?_⟩
 generalize hT:bC q++(SG++bC s.t)=T0
 have e:bC q++(SG++(bC s.t++l.flatten))=T0++l.flatten:=by rw[←hT];simp only[List.append_assoc]
 have lT:T0.length=44+32*M:=by rw[←hT,List.length_append,List.length_append,jO];show 4+(36+32*M+4)=_;omega
 rw[e]
 have hln:l.length=N:=sO
 have hlt:∀i,i≤l.length→(T0++(l.take i).flatten).length=44+32*M+32*i:=fun i hi=>by
  rw[List.length_append,lT,r8 (fun x hx=>hp32 x (List.mem_of_mem_take hx)),List.length_take]
  omega
 refine bB N (fun i env rows=>has env [(57,.raw (it (i:Int))),(56,.raw (it (N:Int))),(55,.sl (.ar 32 L8) 6 [] 0 N false)]∧
  live rows 6=some ⟨.ar 32 L8,l.map aW⟩∧∃d,look env 12=some d∧iK L8 d rows (bs (T0++(l.take i).flatten))) ?_ ?_ ⟨?_,rfl,.sl L8 5 [] 0 (4+(36+(32*M+4))) false,by simp only[↓aj,ak,simprocAttr,aa],.inr ⟨5,false,by rw[List.take_zero,List.flatten_nil,List.append_nil,aC,lT,show 4+(36+(32*M+4))=44+32*M by omega],by rw[List.take_zero,List.flatten_nil,List.append_nil];rfl⟩⟩
 ·rintro i hi env rows ⟨hh,r1,d,h7,hO⟩ R hR
  simp only[has]at hh
  have e0:((i:Int)<(N:Int))=True:=eq_true (by omega)
  have b0:∀n:Nat,((0:Int)≤(n:Int))=True:=fun n=>eq_true (by omega)
  have e1:=cE i (by omega)
  have uv:i<l.length:=by omega
  have hx:=hp32 _ (List.getElem_mem uv)
  have g:(l.map aW)[i]?=some (.agg (.ar 32 L8) (bs l[i])):=by simp[aW,uv]
  have hs:T0++(l.take i).flatten++l[i]=T0++(l.take (i+1)).flatten:=by
   rw[List.append_assoc,List.take_succ_eq_append_getElem uv,List.flatten_append];simp
  have hlen:=hlt i (by omega)
  generalize l[i]=xi at*
  have lt6:=bn r1
  have ea:∀ex,elems (rows++[some ⟨.ar 32 L8,[.agg (.ar 32 L8) (bs xi)]⟩]) (.sl L8 rows.length [0] 0 32 ex)=some (bs xi):=fun ex=>oG (n:=32) (by rw[b6];rfl) rfl hx
  simp only[↓aj,ak,simprocAttr,aa,aX,hh,e0,e1,b0,h7,r1,g,ea,aC,hx]
  refine iX (hO.push) (by rw[aC,aC,hx,hlen];simp[most];omega) (by rw[aC,aC,hx,hlen];simp[most];omega) fun d' ab F4 oD vS _=>?_
  rw[nU,hs]at F4
  have r1':=oD 6 _ (aA r1 _) (fun ex=>ia hO r1 (by decide) ex _)
  simp only[↓aj,ak,simprocAttr,aa,aX,hh,e1]
  exact hR _ _ ⟨by simp only[has,↓aj,ak,simprocAttr,aa,hh],r1',d',by simp only[↓aj,ak,simprocAttr,aa],F4⟩
 ·rintro env rows ⟨hh,r1,d,h7,hO⟩ R
  simp only[has]at hh
  have e0:((N:Int)<(N:Int))=False:=eq_false (by omega)
  have htk:l.take N=l:=List.take_of_length_le (by omega)
  rw[htk]at hO
  have hlen:=hlt l.length (Nat.le_refl _)
  rw[List.take_length]at hlen
  simp only[↓aj,ak,simprocAttr,aa,aX,hh,e0,h7]
  rcases hO with⟨h,_⟩|⟨r,Pj,rfl,hlv⟩
  ·have:=congrArg List.length h
   rw[aC,hlen,List.length_nil]at this
   omega
  ·have hle:(bs (T0++l.flatten)).length=44+(32*M+32*N):=by rw[aC,hlen];omega
   rw[hle]
   exact .ownU [] L8 r 0 _ Pj false _ [.raw (it 0)] hlv rfl rfl rfl (fun h=>by cases h)
 ·simp only[has,↓aj,ak,simprocAttr,aa]
theorem kForceV(rows:Rows)(k:D→Rows→Prop)(d e:D)(s:oJ)(q:BitVec 32)(c m:List (BitVec 8))(h:bT rows (b8 wH) d s)(hm:bc rows e m)(hp:ml s=true)(ho:sH s.o.toNat=true)(hc:c.length=32)(hml:m.length≤1099511627776)(hq:q.toNat<iA s):
  aJ Kd rows k [d,.raw (u32 q),.agg (.ar 32 L8) (bs c),e]=k (.cA [.sl L8 (0+rows.length) [] 0 (44+32*pT s.o.toNat+32*gX s q.toNat) false,.raw (it 0)]) (rows++[some ⟨L8,bs (iD s q c m)⟩]):=by
 refine(vO h (bT.raw (fK q)) (iQ c) (.bs hm) (by simp[hp,ho,hc,hml]) (by simp only[if_pos hq];rfl) k).trans ?_
 simp only[if_pos hq]
 simp[shift,bh,ae,Sh.pure]
theorem shl_it(b w:Nat)(hb:b≤4)(hw:w≤30)(k:D→Prop):bE .shl (it (b:Int)) (it (w:Int)) k=k (.raw (it ((b*2^w:Nat):Int))):=by
 have hm:min ((w:Int)).toNat IntKind.i64.bits=w:=by show min ((w:Int)).toNat 64=w;omega
 have hp:2^w≤2^30:=Nat.pow_le_pow_right (by decide) hw
 have hq:b*2^w≤4*2^30:=Nat.mul_le_mul hb hp
 have e:(b:Int)*2^w=((b*2^w:Nat):Int):=by simp
 simp only[bE,it]
 rw[hm,e]
 have hz:IntKind.i64.wrap ((b*2^w:Nat):Int)=((b*2^w:Nat):Int):=bf (by omega)
 rw[hz]
 simp
structure Plc where
 q:BitVec 32
 i:Int
 j:Int
def Q3(q:BitVec 32)(i:Int):D:= .agg ML [.raw (u32 q),.raw (it i)]
def j2(m:List (BitVec 8)):ByteArray:=⟨(ub m).toArray⟩
def eJ(rows ab:Rows):Prop:=∀q row,live rows q=some row→live ab q=some row
theorem eJ.refl(rows:Rows):eJ rows rows:=fun _ _ h=>h
theorem eJ.app(rows L:Rows):eJ rows (rows++L):=fun _ _ h=>bJ h
theorem eJ.trans{a b c:Rows}(h:eJ a b)(h':eJ b c):eJ a c:=fun q row hq=>h' q row (h q row hq)
theorem eJ.set{rows rs:Rows}(h:eJ rows rs){q:Nat}(hq:rows.length≤q)(x:Option Row):eJ rows (rs.set q x):=fun p row hp=>by
 have:=bn hp
 rw[aE (by omega)]
 exact h p row hp
structure Sg where
 t:BitVec 32
 o:BitVec 32
 id:List (BitVec 8)
 aL:List (BitVec 8)
 ns:List (List (BitVec 8))
 nx:BitVec 32
 sm:List D
 tm:List D
 last:List (List (BitVec 8)×List (BitVec 8))
structure yI where
 r:Nat
 nr:Nat
 ms:Nat
 mt:Nat
 ne:Bool
 dl:D
def Gj(x:List (BitVec 8)×List (BitVec 8)):D:= .agg jZ [.raw (.string (j2 x.1)),.agg (.ar 32 L8) (bs x.2)]
def BR(L:yI)(s:Sg):D:= .agg iG [.raw (u32 s.t),.raw (u32 s.o),.agg (.ar 16 L8) (bs s.id),.agg (.ar 32 L8) (bs s.aL),.sl (.ar 32 L8) L.nr [] 0 s.ns.length L.ne,.raw (u32 s.nx),.mp L.ms,.mp L.mt,L.dl]
structure qa (rows:Rows) (L:yI) (s:Sg):Prop where
 a:live rows L.r=some ⟨iG,[BR L s]⟩
 n:live rows L.nr=some ⟨.ar 32 L8,s.ns.map aW⟩
 m:live rows L.ms=some ⟨AA,s.sm⟩
 t:live rows L.mt=some ⟨C9,s.tm⟩
 l:iK jZ L.dl rows (s.last.map Gj)
def ldV(L:yI)(s:Sg):D:=match L.dl with
 | .sl _ _ _ _ _ ex=> .cF jZ (s.last.map Gj) ex
 |d=>d
def Sg.v(s:Sg)(L:yI):oJ:=⟨s.t,s.o,s.id,s.aL,s.ns,L.ne,s.nx,s.sm,s.tm,ldV L s⟩
theorem qa.keep{rows ab:Rows}{L:yI}{s:Sg}(h:qa rows L s)(hk:eJ rows ab):qa ab L s:=by
 refine⟨hk _ _ h.a,hk _ _ h.n,hk _ _ h.m,hk _ _ h.t,?_⟩
 rcases h.l with h|⟨r,ex,e,hl⟩
 ·exact .inl h
 ·exact .inr ⟨r,ex,e,hk _ _ hl⟩
theorem qa.push{rows:Rows}{L:yI}{s:Sg}(h:qa rows L s)(more:Rows):qa (rows++more) L s:=h.keep (eJ.app _ _)
theorem qa.vw{rows:Rows}{L:yI}{s:Sg}(h:qa rows L s)(n:Nat):view rows (n+4) (.ptr iG L.r [0])=some (wH (s.v L)):=by
 have en:elems rows (.sl (.ar 32 L8) L.nr [] 0 s.ns.length L.ne)=some (s.ns.map aW):=by
  simp only[elems,h.n]
  simp[List.take_of_length_le]
 have hm:live rows L.ms=some ⟨AA,s.sm⟩:=h.m
 have ht:live rows L.mt=some ⟨C9,s.tm⟩:=h.t
 have hv:view rows (n+2) L.dl=some (ldV L s):=by
  rcases h.l with⟨e2,e⟩|⟨r,ex,e,hl⟩
  ·rw[ldV,e];rfl
  ·have HE:(s.last.map Gj).length=s.last.length:=List.length_map _
   have el:elems rows (.sl jZ r [] 0 s.last.length ex)=some (s.last.map Gj):=by
    simp only[elems,hl]
    simp[List.take_of_length_le]
   rw[ldV,e,HE]
   simp[view,el,Sh.pure]
 have h7:view rows (n+3) (BR L s)=some (.agg iG [.raw (u32 s.t),.raw (u32 s.o),.agg (.ar 16 L8) (bs s.id),.agg (.ar 32 L8) (bs s.aL),.cF (.ar 32 L8) (s.ns.map aW) L.ne,.raw (u32 s.nx),.om AA s.sm,.om C9 s.tm,ldV L s]):=by
  unfold BR
  rw[WC]
  simp[Sh.pure,view,cW,en,hm,ht,hv]
 rw[WD,h.a]
 have hg:cP [BR L s] [0]=some (BR L s):=rfl
 simp only[Option.bind_some,hg,h7]
 rfl
theorem qa.rd{rows:Rows}{L:yI}{s:Sg}(h:qa rows L s):bT rows (b8 wH) (.ptr iG L.r [0]) (s.v L):=
 ⟨⟨wH (s.v L),h.vw 5,bV Ed _⟩,fun h=>by simp[aQ]at h⟩
theorem Sg.Gk{L:yI}{s:Sg}{rows:Rows}(h:qa rows L s):aQ (ldV L s)=false:=by
 rcases h.l with⟨e2,e⟩|⟨r,ex,e,hl⟩
 ·rw[ldV,e];rfl
 ·rw[ldV,e];rfl
def lfS(o:BitVec 32)(id aL:List (BitVec 8))(H r:Nat):List (BitVec 8):=nD id (BitVec.ofNat 32 r) (DI o.toNat ⟨id,BitVec.ofNat 32 (r-H)⟩ aL)
def Q4(o:BitVec 32)(id aL:List (BitVec 8))(H:Nat)(N:List (List (BitVec 8)))(r:Nat):List (BitVec 8):=if H≤r then lfS o id aL H r else sn id (BitVec.ofNat 32 r) (N.getD (2*r) []) (N.getD (2*r+1) [])
def mT(o:BitVec 32)(id aL:List (BitVec 8))(H:Nat):Nat→List (List (BitVec 8))
 |0=>List.replicate (2*H) ug
 |k+1=>(mT o id aL H k).set (2*H-1-k) (Q4 o id aL H (mT o id aL H k) (2*H-1-k))
def kx(o:BitVec 32)(id aL:List (BitVec 8))(H:Nat):List (List (BitVec 8)):=mT o id aL H (2*H-1)
section
variable (o:BitVec 32) (id aL:List (BitVec 8)) (H:Nat)
theorem AD:∀k,(mT o id aL H k).length=2*H
 |0=>by simp[mT]
 |k+1=>by simp[mT,AD k]
theorem ndV_len(N:List (List (BitVec 8)))(r:Nat):(Q4 o id aL H N r).length=32:=by
 unfold Q4
 split
 ·exact BP _ _ _
 ·exact IB _ _ _ _
theorem Po:∀k,∀x∈mT o id aL H k,x.length=32
 |0,x,hx=>by rw[List.eq_of_mem_replicate hx];rfl
 |k+1,x,hx=>by
  rcases List.mem_or_eq_of_mem_set hx with h|rfl
  ·exact Po k x h
  ·exact ndV_len _ _ _ _ _ _
theorem Gl(k:Nat):∀m j,1≤j→2*H-k≤j→(mT o id aL H (k+m)).getD j []=(mT o id aL H k).getD j []
 |0,j,_,_=>rfl
 | m + 1, j, h0, h => by
  have ih:=Gl k m j h0 h
  rw[show k+(m+1)=(k+m)+1 from rfl,mT]
  by_cases hlt:j<2*H
  ·rw[←ih]
   have hne:2*H-1-(k+m)≠j:=by omega
   simp only[List.getD,List.getElem?_set_ne hne]
  ·rw[←ih]
   have h1:(mT o id aL H (k+m)).length≤j:=by rw[AD];omega
   simp only[List.getD]
   rw[List.getElem?_eq_none (by rw[List.length_set];exact h1),List.getElem?_eq_none h1]
theorem MO(r:Nat)(h1:1≤r)(h2:r<2*H):(kx o id aL H).getD r []=Q4 o id aL H (kx o id aL H) r:=by
 obtain⟨k,hk⟩:∃k,r=2*H-1-k:=⟨2*H-1-r,by omega⟩
 have e1:(kx o id aL H).getD r []=(mT o id aL H (k+1)).getD r []:=by
  have:=Gl o id aL H (k+1) (2*H-1-(k+1)) r (by omega) (by omega)
  rw[show k+1+(2*H-1-(k+1))=2*H-1 by omega]at this
  exact this
 have hl:=AD o id aL H k
 rw[e1,mT,←hk]
 have e2:((mT o id aL H k).set r (Q4 o id aL H (mT o id aL H k) r)).getD r []=Q4 o id aL H (mT o id aL H k) r:=by
  simp[List.getD,hl,h2]
 rw[e2]
 unfold Q4
 by_cases hH:H≤r
 ·rw[if_pos hH,if_pos hH]
 ·rw[if_neg hH,if_neg hH]
  have st:=fun j (h0:1≤j) (hj:2*H-k≤j)=>by
   have:=Gl o id aL H k (2*H-1-k) j h0 hj
   rw[show k+(2*H-1-k)=2*H-1 by omega]at this
   exact this
  show sn _ _ _ _=sn _ _ ((kx o id aL H).getD (2*r) []) ((kx o id aL H).getD (2*r+1) [])
  rw[kx,st (2*r) (by omega) (by omega),st (2*r+1) (by omega) (by omega)]
theorem Pp(r:Nat)(h1:H≤r)(h2:r<2*H):(kx o id aL H).getD r []=lfS o id aL H r:=by
 rw[MO o id aL H r (by omega) h2,Q4,if_pos h1]
theorem Pq(r:Nat)(h1:1≤r)(h2:r<H):(kx o id aL H).getD r []=sn id (BitVec.ofNat 32 r) ((kx o id aL H).getD (2*r) []) ((kx o id aL H).getD (2*r+1) []):=by
 rw[MO o id aL H r h1 (by omega),Q4,if_neg (by omega)]
end
end iC
end Go.Am

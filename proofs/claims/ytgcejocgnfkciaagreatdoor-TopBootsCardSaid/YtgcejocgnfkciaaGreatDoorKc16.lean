import Derived.Test.YtgcejocgnfkciaaGreatDoorKc15
namespace Go.Am
set_option linter.unusedSimpArgs false
set_option linter.unusedVariables false
attribute [local congr] cd bt cg bu bw bO bg bx bz bP a7 bQ bA b9
namespace iC
open Go.Am.F
set_option maxRecDepth 10000
structure St where
 h:List (BitVec 32)
 rest:List (BitVec 8)
 n:BitVec 64
def rY(s:St):D:= .agg KM [.agg (.ar 8 dk) (us s.h),.agg (.ar 64 L8) (bs s.rest),.raw (u64 s.n)]
theorem D5(x y:St)(h:rY x=rY y):x=y:=by
 obtain⟨a,b,c⟩:=x
 obtain⟨a',b',c'⟩:=y
 simp only[rY,D.agg.injEq,List.cons.injEq,true_and,and_true,D.raw.injEq]at h
 obtain⟨h1,h2,h3⟩:=h
 rw[Xf h1,tu h2,u64_inj.1 h3]
def St.ok(s:St):Bool:=decide (s.h.length=8)&&decide (s.rest.length=64)
def JV:List (BitVec 8):=List.replicate 64 0#8
def FZ(s:St)(b:BitVec 8):St:=
 if s.n.toNat %64+1=64 then⟨vM s.h (s.rest.set (s.n.toNat %64) b),JV,s.n+1#64⟩else⟨s.h,s.rest.set (s.n.toNat %64) b,s.n+1#64⟩
def feed(s:St)(p:List (BitVec 8)):St:=p.foldl FZ s
theorem eC(s:St)(p q:List (BitVec 8)):feed s (p++q)=feed (feed s p) q:=List.foldl_append
theorem Xm(s:St)(b:BitVec 8)(h:s.ok=true):(FZ s b).ok=true:=by
 simp only[St.ok,Bool.and_eq_true,decide_eq_true_eq]at h
 unfold FZ
 split
 ·simp[St.ok,TA _ _ h.1,JV]
 ·simp[St.ok,h.1,h.2]
theorem eD(p:List (BitVec 8)):∀(s:St),s.ok=true→(feed s p).ok=true:=by
 induction p with
 |nil=>exact fun s h=>h
 |cons b p ih=>exact fun s h=>ih _ (Xm s b h)
theorem Xn(n:BitVec 64)(j:Nat)(h:n.toNat %64+j<64):(n+BitVec.ofNat 64 j).toNat %64=n.toNat %64+j:=by
 simp only[BitVec.toNat_add,BitVec.toNat_ofNat]
 omega
theorem CU(l x:List (BitVec 8))(o:Nat)(b:BitVec 8)(h:o+x.length<l.length):(a9 l o x).set (o+x.length) b=a9 l o (x++[b]):=by
 unfold a9
 have e1:l.drop (o+x.length)=l.getD (o+x.length) 0#8::l.drop (o+x.length+1):=by
  rw[List.drop_eq_getElem_cons h];simp[List.getD,h]
 have e2:(l.take o++x).length=o+x.length:=by simp;omega
 rw[List.set_append_right _ _ (by omega),e2,Nat.sub_self,e1]
 simp[Nat.add_assoc]
theorem F0(l:List (BitVec 8))(o:Nat):a9 l o []=l:=by simp[a9]
theorem BF(s:St)(hs:s.rest.length=64):∀(j:Nat) (x:List (BitVec 8)),x.length=j→s.n.toNat %64+j<64→feed s x=⟨s.h,a9 s.rest (s.n.toNat %64) x,s.n+BitVec.ofNat 64 j⟩
 |0,x,hx,h=>by
  have:x=[]:=List.eq_nil_of_length_eq_zero hx
  subst this
  obtain⟨a,b,c⟩:=s
  simp[feed,F0]
 |j+1,x,hx,h=>by
  obtain⟨y,b,rfl⟩:∃y b,x=y++[b]:=⟨x.dropLast,x.getLast (by intro e;subst e;simp at hx),(List.dropLast_concat_getLast _).symm⟩
  have hy:y.length=j:=by simpa using hx
  rw[eC,BF s hs j y hy (by omega)]
  have ha:=Xn s.n j (by omega)
  show FZ _ b=_
  unfold FZ
  simp only[ha]
  rw[if_neg (by omega)]
  have hl:=CU s.rest y (s.n.toNat %64) b (by omega)
  rw[hy]at hl
  rw[hl]
  congr 1
  apply BitVec.eq_of_toNat_eq
  simp only[BitVec.toNat_add,BitVec.toNat_ofNat]
  omega
theorem TE(s:St)(hs:s.rest.length=64)(x:List (BitVec 8))(h:s.n.toNat %64+x.length=64):feed s x=⟨vM s.h (a9 s.rest (s.n.toNat %64) x),JV,s.n+BitVec.ofNat 64 x.length⟩:=by
 have hlt:s.n.toNat %64<64:=Nat.mod_lt _ (by decide)
 obtain⟨y,b,rfl⟩:∃y b,x=y++[b]:=⟨x.dropLast,x.getLast (by intro e;subst e;simp at h;omega),(List.dropLast_concat_getLast _).symm⟩
 simp only[List.length_append,List.length_cons,List.length_nil]at h
 rw[eC,BF s hs y.length y rfl (by omega)]
 have ha:=Xn s.n y.length (by omega)
 show FZ _ b=_
 unfold FZ
 simp only[ha]
 rw[if_pos (by omega)]
 have hl:=CU s.rest y (s.n.toNat %64) b (by omega)
 rw[hl]
 congr 1
 apply BitVec.eq_of_toNat_eq
 simp only[BitVec.toNat_add,BitVec.toNat_ofNat,List.length_append,List.length_cons,List.length_nil]
 omega
theorem kPress(rows:Rows)(k:D→Rows→Prop)(h:List (BitVec 32))(b:List (BitVec 8))(hh:h.length=8)(hb:b.length=64):aJ JU rows k [.agg (.ar 8 dk) (us h),.agg (.ar 64 L8) (bs b)]=k (.agg (.ar 8 dk) (us (vM h b))) rows:=by
 refine(bi (by simp[aN,aQ,Sh.pure]) (r:=(Tv (vM h b),[])) ?_).trans ?_
 ·exact jP (bV QF h) (bV FX b) (by simp[hh,hb])
 ·simp[shift,ae,Tv,Sh.pure]
noncomputable def qB:Fn:=wS (b8 rY) dN (fun s _=>s.ok) fun s p=>(rY (feed s p),[])
theorem OY(C:be)(hC:aI C P)(hp:C.fn 184=some JU):aO C.aZ P 158 (Fn.run qB):=by
 refine cr (Bu C hC) fun ds rows r h=>?_
 obtain⟨d,e,s0,p0,rfl,rfl,hd,he,hok,rfl⟩:=dq h
 cases aF hd
 obtain⟨x0,hx⟩:=cy he
 refine⟨rfl,_,.cons (.refl _) (.cons hx .nil),ag rfl ?_⟩
 clear h hd he hx
 unfold rS rU
 simp only[rY,↓aj,ak,simprocAttr,aa]
 refine rB (fun m env rows=>∃(s:St) (q:List (BitVec 8)) (ex:Bool) (z:D),m=q.length∧s.ok=true∧feed s q=feed s0 p0∧has env [(1,.cF L8 (bs q) ex),(2,.ptr KM 0 [0]),(4,.ptr KM 1 [0])]∧
  rows=[some ⟨KM,[.agg KM [.agg (.ar 8 dk) (us s.h),.agg (.ar 64 L8) (bs s.rest),.raw (u64 s.n)]]⟩,some ⟨KM,[z]⟩]) ?_ p0.length ⟨s0,p0,x0,_,rfl,hok,rfl,?_,rfl⟩
 ·rintro m env rows ⟨s,q,ex,z,rfl,hs,hf,hh,rfl⟩ R hR
  simp only[has]at hh
  obtain⟨h1,h2,h4,-⟩:=hh
  have fD:=hs
  simp only[St.ok,Bool.and_eq_true,decide_eq_true_eq]at fD
  obtain⟨hs1,tJ⟩:=fD
  by_cases hq:0<q.length
  ·have e0:((0:Int)<(q.length:Int))=True:=eq_true (by omega)
   have hlt:s.n.toNat %64<64:=Nat.mod_lt _ (by decide)
   have m64:(s.n %64#64).toNat=s.n.toNat %64:=by rw[BitVec.toNat_umod];rfl
   generalize ha:s.n.toNat %64=at_ at*
   have e1:wz (at_:Int)=at_:=bf (by omega)
   have e2:((0:Int)≤(at_:Int))=True:=eq_true (by omega)
   have e3:((at_:Int)≤64)=True:=eq_true (by omega)
   have en:(64#64:BitVec 64)≠0:=by decide
   obtain⟨k,hk⟩:∃k,min q.length (64-at_)=k:=⟨_,rfl⟩
   simp only[↓aj,ak,simprocAttr,aa,h1,h2,h4,e0,e1,e2,e3,m64,en,aC,decide_true]
   refine Eq.mpr (Mp (p:=[1]) (u:= .ar 64 L8) (l:=s.rest) rfl rfl (by omega) rfl) ?_
   rw[hk]
   have hk1:k≤q.length:=by omega
   have UU:at_+k≤64:=by omega
   have hk3:0<k:=by omega
   have SC:(q.take k).length=k:=by rw[List.length_take];omega
   have hspl:(a9 s.rest at_ (q.take k)).length=64:=by
    rw[←aC,←BC,xZ (by rw[aC,aC];omega),aC,tJ]
   have hqq:q.take k++q.drop k=q:=List.take_append_drop k q
   have f1:((0:Int)≤(k:Int))=True:=eq_true (by omega)
   have f2:((k:Int)≤(q.length:Int))=True:=eq_true (by omega)
   have f3:(q.drop k).take (q.length-k)=q.drop k:=List.take_of_length_le (by rw[List.length_drop];omega)
   have f4:wz ((at_:Int)+(k:Int))=((at_+k:Nat):Int):=by rw[bf (by omega)];omega
   have f5:BitVec.ofInt 64 (k:Int)=BitVec.ofNat 64 k:=rfl
   by_cases hfull:at_+k=64
   ·have f6:((at_+k:Nat):Int)=64:=by omega
    have iB:=TE s tJ (q.take k) (by rw[ha,SC];exact hfull)
    rw[ha,SC]at iB
    have JW:feed (feed s (q.take k)) (q.drop k)=feed s0 p0:=by rw[←eC,hqq,hf]
    have OZ:=eD (q.take k) s hs
    rw[iB]at JW OZ
    simp only[↓aj,ak,simprocAttr,aa,h1,h2,h4,aC,fw,ey,f1,f2,f3,f4,f5,f6,hp,kPress _ _ _ _ hs1 hspl,decide_true]
    refine hR _ _ _ ?_ ⟨_,q.drop k,oM none q.length q.length q.length ex,z,rfl,OZ,JW,?_,rfl⟩
    ·rw[List.length_drop];omega
    ·simp only[has,↓aj,ak,simprocAttr,aa,h2,h4]
   ·have f6:(((at_+k:Nat):Int)=64)=False:=eq_false (by omega)
    have iB:=BF s tJ k (q.take k) SC (by rw[ha];omega)
    rw[ha]at iB
    have JW:feed (feed s (q.take k)) (q.drop k)=feed s0 p0:=by rw[←eC,hqq,hf]
    have OZ:=eD (q.take k) s hs
    rw[iB]at JW OZ
    simp only[↓aj,ak,simprocAttr,aa,h1,h2,h4,aC,fw,ey,f1,f2,f3,f4,f5,f6,decide_false]
    refine hR _ _ _ ?_ ⟨_,q.drop k,oM none q.length q.length q.length ex,z,rfl,OZ,JW,?_,rfl⟩
    ·rw[List.length_drop];omega
    ·simp only[has,↓aj,ak,simprocAttr,aa,h2,h4]
  ·have e0:((0:Int)<(q.length:Int))=False:=eq_false (by omega)
   have Z4:q=[]:=List.eq_nil_of_length_eq_zero (by omega)
   subst Z4
   simp only[↓aj,ak,simprocAttr,aa,h1,h2,h4,e0,aC,decide_false]
   rw[←hf]
   exact .val _ rfl
 ·simp only[has,↓aj,ak,simprocAttr,aa]
def Xo:D→Option Unit
 | .raw (.slice none 0 0)=>some ()
 | _=>none
theorem O0{d:D}{u:Unit}(h:Xo d=some u):d= .raw (.slice none 0 0):=by
 unfold Xo at h
 split at h
 ·rfl
 ·cases h
theorem F1{rows:Rows}{r off len:Nat}{ex:Bool}{l src:List (BitVec 8)}{k:D→Rows→Prop}(hl:live rows r=some ⟨L8,bs l⟩)(hn:off+len≤l.length):
  nc rows L8 (.sl L8 r [] off len ex) (bs src) k=k (.raw (it ((min src.length len:Nat):Int))) (rows.set r (some ⟨L8,bs (a9 l off (src.take (min src.length len)))⟩)):=by
 unfold nc
 simp only[hl,bd,aC,ey,BC,hn,true_and]
 rfl
def BG:Fn:=wS pz Xo (fun ls _=>Nat.ble ls.length most&&Nat.ble ls.flatten.length most) fun ls _=>ez ls.flatten false
theorem BH(ls:List (List (BitVec 8)))(i:Nat):((ls.take i).flatten).length≤ls.flatten.length:=by
 have:ls=ls.take i++ls.drop i:=(List.take_append_drop _ _).symm
 calc ((ls.take i).flatten).length≤((ls.take i++ls.drop i).flatten).length:=by simp only[List.flatten_append,List.length_append];omega
  _=ls.flatten.length:=by rw[←this]
theorem jr(ls:List (List (BitVec 8)))(i:Nat)(h:i<ls.length):(ls.take (i+1)).flatten=(ls.take i).flatten++ls[i]:=by
 rw[List.take_succ_eq_append_getElem h,List.flatten_append,List.flatten_cons,List.flatten_nil,List.append_nil]
theorem Ip(acc F2 x:List (BitVec 8))(h:x.length≤F2.length):a9 (acc++F2) acc.length x=(acc++x)++F2.drop x.length:=by
 unfold a9
 have h1:(acc++F2).take acc.length=acc:=by simp
 have h2:(acc++F2).drop (acc.length+x.length)=F2.drop x.length:=by
  rw[List.drop_append,List.drop_eq_nil_of_le (by omega),List.nil_append];congr 1;omega
 rw[h1,h2]
theorem Xp(C:be)(hC:aI C P):aO C.aZ P 114 (Fn.run BG):=by
 refine aH (JF C hC) fun ds rows r h=>?_
 obtain⟨d,e0,ls,u,rfl,rfl,hd,he,hp,rfl⟩:=dq h
 obtain⟨l,e,rfl,hl⟩:=tq hd
 cases O0 he
 simp only[Bool.and_eq_true,Nat.ble_eq]at hp
 obtain⟨Mj,sG⟩:=hp
 unfold most at Mj sG
 obtain⟨hlen,jz⟩:=jk hl
 clear h hd he
 refine⟨rfl,ag rfl ?_⟩
 have Nw:∀i (hi:i<ls.length),∃x,l[i]?=some x∧ec x ls[i]:=fun i hi=>by
  have Dn:i<l.length:=by omega
  have hli:l[i]?=some l[i]:=List.getElem?_eq_getElem Dn
  exact⟨_,hli,eU (jz i _ _ hli (List.getElem?_eq_getElem hi))⟩
 have hsrc:∀x y rows,ec x y→n9 rows (.leaf (.int .u8)) x=some (bs y):=by
  intro x y rows hb
  rcases hb with⟨h,h2⟩|⟨e,h⟩
  ·rw[h,h2];rfl
  ·rw[h];simp[n9,Am.eK,Am.elems]
 have hfit:∀x y,ec x y→D.fits x .ref=true:=fun x y hb=>by rcases hb with⟨h,_⟩|⟨e,h⟩<;>rw[h]<;>rfl
 unfold zQ zS
 by_cases h0:ls.length=0
 ·have hls:ls=[]:=List.eq_nil_of_length_eq_zero h0
  have Dq:l=[]:=List.eq_nil_of_length_eq_zero (by omega)
  subst hls Dq
  simp only[↓aj,ak,simprocAttr,aa]
  exact .own _ 0 0 _ true false _ rfl rfl (fun h=>by cases h)
 ·by_cases h1 : ls.length = 1
  ·obtain⟨y,rfl⟩:∃y,ls=[y]:=by
    match ls,h1 with
    |[y],_=>exact⟨y,rfl⟩
   obtain⟨x,hx,hb⟩:=Nw 0 (by simp)
   have EG:ec x y:=hb
   have HE:l.length=1:=by rw[←hlen];rfl
   have hlx:l[0]?=some x:=hx
   simp only[↓aj,ak,simprocAttr,aa,HE,hlx,hfit _ _ EG,hsrc _ _ _ EG,EG.dK,aC,decide_true,decide_false]
   have hyl:y.length≤1099511627776:=by simpa using sG
   refine⟨by omega,hyl,?_⟩
   have e1:[y].flatten=y:=by simp
   rw[e1]
   exact .own _ 0 0 _ false false _ rfl rfl (fun h=>by cases h)
  ·have G1:2≤l.length:=by omega
   have c0:((l.length:Int)=0)=False:=eq_false (by omega)
   have c1:((l.length:Int)=1)=False:=eq_false (by omega)
   simp only[↓aj,ak,simprocAttr,aa,c0,c1,decide_false]
   refine bB l.length (fun i env rows=>has env [(0,.cF .ref l e),(1,.raw (.slice none 0 0)),(42,.cF .ref l e),(43,.raw (it l.length)),(44,.raw (it (i:Int))),(5,.raw (it (((ls.take i).flatten).length:Int)))]∧rows=[]) ?_ ?_ ⟨?_,rfl⟩
   ·rintro i hi env rows ⟨hh,rfl⟩ R hR
    simp only[has]at hh
    obtain⟨q0,q1,q42,q43,q44,q5,-⟩:=hh
    obtain⟨x,hx,hb⟩:=Nw i (by omega)
    have OT:((i:Int)<(l.length:Int))=True:=eq_true (by omega)
    have hw:=cE i (by omega)
    have h0i:((0:Int)≤(i:Int))=True:=eq_true (by omega)
    have s1:=BH ls (i+1)
    have s2:((ls.take (i+1)).flatten).length=((ls.take i).flatten).length+ls[i].length:=by rw[jr ls i (by omega),List.length_append]
    have w1:wz (9223372036854775807-(((ls.take i).flatten).length:Int))=9223372036854775807-(((ls.take i).flatten).length:Int):=bf (by omega)
    have w2:((9223372036854775807-(((ls.take i).flatten).length:Int))<(ls[i].length:Int))=False:=eq_false (by omega)
    have w3:wz ((((ls.take i).flatten).length:Int)+(ls[i].length:Int))=(((ls.take (i+1)).flatten).length:Int):=by rw[bf (by omega)];omega
    simp only[↓aj,ak,simprocAttr,aa,q0,q1,q42,q43,q44,q5,OT,hw,h0i,hx,hfit _ _ hb,hb.dK,w1,w2,w3,decide_true,decide_false]
    exact hR _ _ ⟨by simp only[has,↓aj,ak,simprocAttr,aa,q0,q1,q42,q43],rfl⟩
   ·rintro env rows ⟨hh,rfl⟩ R
    simp only[has]at hh
    obtain⟨q0,q1,q42,q43,q44,q5,-⟩:=hh
    have bY:(ls.take l.length).flatten=ls.flatten:=by rw[←hlen,List.take_length]
    rw[bY]at q5
    obtain⟨N,hN⟩:∃N,ls.flatten.length=N:=⟨_,rfl⟩
    rw[hN]at q5
    have nl:((l.length:Int)<(l.length:Int))=False:=eq_false (by omega)
    have n1:((0:Int)≤(N:Int))=True:=eq_true (by omega)
    have n2:((N:Int)≤1099511627776)=True:=eq_true (by omega)
    have n3:((N:Int)≤(N:Int))=True:=eq_true (by omega)
    have n4:∀q:List (BitVec 8),(q.map fun b=>D.raw (u8 b))=bs q:=fun q=>rfl
    simp only[↓aj,ak,simprocAttr,aa,q0,q1,q42,q43,q44,q5,nl,n1,n2,n3,n4,decide_false,Nat.sub_zero]
    intro F2 hj
    obtain⟨x,hx,hb⟩:=Nw 0 (by omega)
    have hx0:l[0]?=some x:=hx
    have p0:((0:Int)<(l.length:Int))=True:=eq_true (by omega)
    have p1:((1:Int)≤(l.length:Int))=True:=eq_true (by omega)
    simp only[↓aj,ak,simprocAttr,aa,q0,q1,q42,q43,q44,q5,nl,n1,n2,n3,n4,p0,p1,hx0,hfit _ _ hb,hsrc _ _ _ hb,hb.dK,aC,decide_true]
    have Dq:ls[0].length≤N:=by
     have:=BH ls 1
     rw[jr ls 0 (by omega)]at this
     simp only[List.take_zero,List.flatten_nil,List.nil_append]at this
     omega
    refine Eq.mpr (F1 (l:=F2) (src:=ls[0]) rfl (by omega)) ?_
    have t0:ls[0].take (min ls[0].length N)=ls[0]:=List.take_of_length_le (by omega)
    have t1:a9 F2 0 ls[0]=(ls.take 1).flatten++F2.drop ls[0].length:=by
     have:=Ip [] F2 ls[0] (by omega)
     simp only[List.nil_append,List.length_nil]at this
     rw[this,jr ls 0 (by omega)];simp
    have t2:min ls[0].length N=((ls.take 1).flatten).length:=by rw[jr ls 0 (by omega)];simp;omega
    have t3:((l.drop 1).take (l.length-1)).length=l.length-1:=by simp
    rw[t0,t1,t2]
    simp only[↓aj,ak,simprocAttr,aa,q0,q1,q42,q43,q44,q5,p1,n3,t3,decide_true]
    generalize hexx:oM (some (N:Int)) N N N false=exx
    generalize hexy:oM none l.length l.length l.length e=exy
    refine bB (l.length-1) (fun i env rows=>has env [(1,.raw (.slice none 0 0)),(70,.cF .ref ((l.drop 1).take (l.length-1)) exy),(71,.raw (it ((l.length-1:Nat):Int))),(72,.raw (it (i:Int))),(8,.sl L8 0 [] 0 N exx),(9,.raw (it (((ls.take (i+1)).flatten).length:Int)))]∧
     ∃q:List (BitVec 8),rows=[some ⟨L8,bs ((ls.take (i+1)).flatten++q)⟩]∧((ls.take (i+1)).flatten).length+q.length=N) ?_ ?_ ⟨?_,_,rfl,?_⟩
    ·rintro i hi env rows ⟨hh,q,rfl,hq⟩ R hR
     simp only[has]at hh
     obtain⟨q1,q70,q71,q72,q8,q9,-⟩:=hh
     obtain⟨x,hx,hb⟩:=Nw (i+1) (by omega)
     have pS:((l.drop 1).take (l.length-1))[i]?=some x:=by
      rw[List.getElem?_take,if_pos (by omega),List.getElem?_drop,Nat.add_comm];exact hx
     have s1:=BH ls (i+1+1)
     have s0:=jr ls (i+1) (by omega)
     have s2:((ls.take (i+1+1)).flatten).length=((ls.take (i+1)).flatten).length+ls[i+1].length:=by rw[s0,List.length_append]
     generalize hacc:(ls.take (i+1)).flatten=acc at*
     have OT:((i:Int)<((l.length-1:Nat):Int))=True:=eq_true (by omega)
     have hw:=cE i (by omega)
     have h0i:((0:Int)≤(i:Int))=True:=eq_true (by omega)
     have b0:((0:Int)≤(acc.length:Int))=True:=eq_true (by omega)
     have b1:((acc.length:Int)≤(N:Int))=True:=eq_true (by omega)
     have b2:wz ((acc.length:Int)+0)=acc.length:=by rw[Int.add_zero];exact bf (by omega)
     simp only[↓aj,ak,simprocAttr,aa,q1,q70,q71,q72,q8,q9,OT,hw,h0i,pS,t3,hfit _ _ hb,b0,b1,n3,decide_true]
     refine Eq.mpr (F1 (l:=acc++q) (src:=[]) rfl (by rw[List.length_append];omega)) ?_
     have u0:a9 (acc++q) acc.length (([]:List (BitVec 8)).take (min ([]:List (BitVec 8)).length (N-acc.length)))=acc++q:=by rw[List.take_nil,F0]
     have u1:(min ([]:List (BitVec 8)).length (N-acc.length))=0:=by simp
     rw[u0,u1]
     simp only[↓aj,ak,simprocAttr,aa,q1,q70,q71,q72,q8,q9,hw,h0i,hsrc _ _ _ hb,hb.dK,aC,b0,b1,b2,n3,decide_true]
     refine Eq.mpr (F1 (l:=acc++q) (src:=ls[i+1]) rfl (by rw[List.length_append];omega)) ?_
     have u2:ls[i+1].take (min ls[i+1].length (N-acc.length))=ls[i+1]:=List.take_of_length_le (by omega)
     have u3:min ls[i+1].length (N-acc.length)=ls[i+1].length:=by omega
     have u4:wz ((acc.length:Int)+(ls[i+1].length:Int))=(((ls.take (i+1+1)).flatten).length:Int):=by rw[bf (by omega)];omega
     rw[u2,u3,Ip _ _ _ (by omega)]
     simp only[↓aj,ak,simprocAttr,aa,q1,q70,q71,q72,q8,q9,hw,u4]
     exact hR _ _ ⟨by simp only[has,↓aj,ak,simprocAttr,aa,q1,q70,q71,q8],q.drop ls[i+1].length,by rw[s0],by rw[List.length_drop];omega⟩
    ·rintro env rows ⟨hh,q,rfl,hq⟩ R
     simp only[has]at hh
     obtain⟨q1,q70,q71,q72,q8,q9,-⟩:=hh
     have e1:l.length-1+1=ls.length:=by omega
     rw[e1,List.take_length]at hq⊢
     have Z4:q=[]:=List.eq_nil_of_length_eq_zero (by omega)
     have nl2:(((l.length-1:Nat):Int)<((l.length-1:Nat):Int))=False:=eq_false (by omega)
     subst Z4
     simp only[↓aj,ak,simprocAttr,aa,q1,q70,q71,q72,q8,q9,nl2,decide_false,List.append_nil]
     rw[←hN]
     exact .own _ 0 0 _ exx false _ rfl rfl (fun h=>by cases h)
    ·simp only[has,↓aj,ak,simprocAttr,aa,q1]
    ·rw[List.length_drop,←t2];omega
   ·simp only[has,↓aj,ak,simprocAttr,aa,List.flatten_nil]
def Iq:St:=⟨JT,JV,0#64⟩
def oq(s:St):List (BitVec 8):=jQ (feed s (OX s.n)).h
def dU(p:List (BitVec 8)):List (BitVec 8):=oq (feed Iq p)
theorem mO:Iq.ok=true:=rfl
def Mr:Fn
 |[],[]=>some (rY Iq,[])
 | _,_=>none
theorem new_ok(C:be)(hC:aI C P)(hg:C.aZ 2=some (Tv JT)):aO C.aZ P 157 (Fn.run Mr):=by
 refine aH (To C hC) fun ds rows r h=>?_
 unfold Mr at h
 split at h
 ·cases h
  refine⟨rfl,ag rfl ?_⟩
  unfold Ia Ib
  simp only[↓aj,ak,simprocAttr,aa,hg,Tv]
  exact .val _ rfl
 ·cases h
theorem O1(rows:Rows)(k:D→Rows→Prop):aJ Mr rows k []=k (rY Iq) rows:=by
 refine(bi rfl (r:=(rY Iq,[])) rfl).trans ?_
 simp[shift,ae,rY,Sh.pure]
theorem st_ok{s:St}(h:s.ok=true):s.h.length=8∧s.rest.length=64:=by
 simpa[St.ok]using h
theorem jI(rows:Rows)(k:D→Rows→Prop)(s:St)(d:D)(p:List (BitVec 8))(h:bc rows d p)(hs:s.ok=true):aJ qB rows k [rY s,d]=k (rY (feed s p)) rows:=by
 obtain⟨⟨d',je,hb⟩,hn⟩:=h
 have e1:∀d2,dN d2=some p→qB [rY s,d2] []=some (rY (feed s p),[]):=fun d2 h2=>jP (bV D5 s) h2 hs
 have hr:aQ (rY s)=false:=by simp[rY,aQ,Sh.pure]
 have hv:view rows 9 (rY s)=some (rY s):=by simp[rY,view,Sh.pure]
 unfold aJ
 have h1:aN [rY s,d]=aQ d:=by simp[aN,hr]
 rw[h1]
 have hsh:shift rows.length (rY (feed s p))=rY (feed s p):=by simp[rY,shift,Sh.pure]
 have hno:bZ (rY (feed s p))=true:=by simp[rY,bZ,Sh.pure]
 cases hh:aQ d with
 |true=>
  simp only[forall_const,cW,hv,je,bd,e1 _ hb.rd,hno,aS,Bool.and_self,true_and,hsh,ae,List.append_nil]
  simp
 |false=>
  simp only[forall_const,bd,e1 _ (hn hh).rd,hsh,ae,List.append_nil]
  simp
noncomputable def tw:Fn:=lE (b8 rY) (fun s=>s.ok) fun s=>(aW (oq s),[])
theorem Xq(C:be)(hC:aI C P)(h1:C.fn 186=some fPad)(h2:C.fn 158=some qB)(h3:C.fn 185=some An):aO C.aZ P 159 (Fn.run tw):=by
 refine aH (DA C hC) fun ds rows r h=>?_
 obtain⟨d,s,rfl,rfl,hd,hok,rfl⟩:=a8 h
 cases aF hd
 refine⟨rfl,ag rfl ?_⟩
 clear h hd
 have OZ:=eD (OX s.n) s hok
 have e:=st_ok OZ
 unfold tZ ua
 have hst:rY s= .agg KM [.agg (.ar 8 dk) (us s.h),.agg (.ar 64 L8) (bs s.rest),.raw (u64 s.n)]:=rfl
 rw[hst]
 simp only[↓aj,ak,simprocAttr,aa,h1,h2,h3,kPad]
 rw[←hst]
 refine Eq.mpr (jI _ _ _ _ (OX s.n) (bc.own rfl _ rfl) hok) ?_
 simp only[rY,↓aj,ak,simprocAttr,aa,h1,h2,h3]
 rw[QI _ _ _ e.1]
 simp only[↓aj,ak,simprocAttr,aa]
 exact .val _ rfl
theorem yF(rows:Rows)(k:D→Rows→Prop)(s:St)(h:s.ok=true):aJ tw rows k [rY s]=k (.agg (.ar 32 L8) (bs (oq s))) rows:=by
 refine(bi (by simp[aN,aQ,rY,Sh.pure]) (r:=(aW (oq s),[])) ?_).trans ?_
 ·exact ei (bV D5 s) h
 ·simp[shift,ae,aW,Sh.pure]
def BI:Fn:=lE pz (fun ls=>Nat.ble ls.length most&&Nat.ble ls.flatten.length most) fun ls=>(aW (dU ls.flatten),[])
theorem sum_ok (C : be) (hC : aI C P) (h1 : C.fn 157 = some Mr) (h2 : C.fn 158 = some qB) (h3 : C.fn 114 = some BG) (h4 : C.fn 159 = some tw) : aO C.aZ P 95 (Fn.run BI) := by
 refine aH (Tm C hC) fun ds rows r h=>?_
 obtain⟨d,ls,rfl,rfl,hd,hp,rfl⟩:=a8 h
 obtain⟨l,e,rfl,hl⟩:=tq hd
 refine⟨rfl,ag rfl ?_⟩
 have hj : ∀ (rows : Rows) k, aJ BG rows k [.cF .ref l e, .raw (.slice none 0 0)] = k (.sl L8 (0 + rows.length) [] 0 ls.flatten.length false) (rows ++ [some ⟨L8, bs ls.flatten⟩]) := fun rows k => by
  have hnr : aN [.cF .ref l e, .raw (.slice none 0 0)] = false := by
   have : ∀ (l : List D) (ls : List (List (BitVec 8))), cW dN l = some ls → aN l = false := by
    intro l
    induction l with
    |nil=>intro _ _;rfl
    | cons x l ih =>
     intro ls h
     simp only[cW]at h
     split at h
     ·rename_i y hy
      split at h
      ·rename_i ys hys
       have hx:aQ x=false:=by
        rcases eU hy with⟨h,_⟩|⟨e,h⟩<;>rw[h]<;>rfl
       simp[aN,hx,ih _ hys]
      ·cases h
     ·cases h
   simp[aN,aQ,Sh.pure,this l ls hl]
  refine(bi hnr (r:=ez ls.flatten false) ?_).trans ?_
  ·exact jP hd rfl hp
  ·simp[ez,shift,ae,Sh.pure]
 clear h
 have hok:=eD ls.flatten Iq mO
 unfold H6 H7
 simp only[↓aj,ak,simprocAttr,aa,h1,h2,h3,h4,O1,hj]
 refine Eq.mpr (jI _ _ _ _ ls.flatten (bc.own rfl _ rfl) mO) ?_
 simp only[↓aj,ak,simprocAttr,aa,h4]
 rw[yF _ _ _ hok]
 simp only[↓aj,ak,simprocAttr,aa]
 exact .val _ rfl
end iC
end Go.Am
namespace Go.Am
set_option linter.unusedSimpArgs false
set_option linter.unusedVariables false
attribute [local congr] cd bt cg bu bw bO bg bx bz bP a7 bQ bA b9
namespace iC
open Go.Am.F
set_option maxRecDepth 10000
end iC
end Go.Am
namespace Go.Am
set_option linter.unusedSimpArgs false
set_option linter.unusedVariables false
attribute [local congr] cd bt cg bu bw bO bg bx bz bP a7 bQ bA b9
namespace iC
open Go.Am.F
set_option maxRecDepth 10000
theorem view8{rows:Rows}{x:D}{y:List (BitVec 8)}(h:bc rows x y):∃x',view rows 8 x=some x'∧ec x' y:=by
 obtain⟨⟨d',h1,h2⟩,-⟩:=h
 have key : view rows 8 x = some d' := by
  cases x with
  |raw v=>exact h1
  | sl s r p off len e =>
   simp only[view]at h1⊢
   cases he:elems rows (.sl s r p off len e)with
   |none=>rw[he]at h1;cases h1
   | some l =>
    rw[he]at h1
    simp only at h1⊢
    cases hl:(!(l.length==len))with
    |true=>rw[hl]at h1;cases h1
    | false =>
     rw[hl]at h1
     cases hp:s.pure with
     |true=>rw[hp]at h1;exact h1
     | false =>
      rw[hp]at h1
      simp only[cond_false]at h1
      split at h1
      ·cases h1
       rcases h2 with⟨h,_⟩|⟨e2,h⟩
       ·cases h
       ·injection h with hs;subst hs;cases hp
      ·cases h1
  | cF s l e =>
   simp only[view]at h1⊢
   cases hp:s.pure with
   |true=>rw[hp]at h1;exact h1
   | false =>
    rw[hp]at h1
    simp only[cond_false]at h1
    split at h1
    ·cases h1
     rcases h2 with⟨h,_⟩|⟨e2,h⟩
     ·cases h
     ·injection h with hs;subst hs;cases hp
    ·cases h1
  | ptr s r p =>
   simp only[view]at h1
   split at h1
   ·split at h1
    ·cases hp:s.pure<;>rw[hp]at h1
     ·simp only[cond_false]at h1
      split at h1
      ·cases h1;rcases h2 with⟨h,_⟩|⟨e2,h⟩<;>cases h
      ·cases h1
     ·cases h1;rcases h2 with⟨h,_⟩|⟨e2,h⟩<;>cases h
    ·cases h1
   ·cases h1
  | agg s l =>
   simp only[view]at h1
   cases hp:s.pure<;>rw[hp]at h1
   ·simp only[cond_false]at h1
    split at h1
    ·cases h1;rcases h2 with⟨h,_⟩|⟨e2,h⟩<;>cases h
    ·cases h1
   ·cases h1;rcases h2 with⟨h,_⟩|⟨e2,h⟩<;>cases h
  |lF=>simp[view]at h1
  |b5 d=>exact h1
  |cA=>simp[view]at h1
  |om=>exact h1
  |A0=>simp[view]at h1
  |mp r=>
   simp only[view]at h1⊢
   exact h1
 exact⟨d',key,h2⟩
theorem pC{rows:Rows}:∀{l:List D} {ls:List (List (BitVec 8))},aY (fun x y=>bc rows x y) l ls→∃l',cW (view rows 8) l=some l'∧cW dN l'=some ls:=by
 intro l
 induction l with
 |nil=>
  intro ls h
  have:ls=[]:=List.eq_nil_of_length_eq_zero h.len.symm
  subst this
  exact⟨[],rfl,rfl⟩
 | cons x l ih =>
  intro ls h
  match ls,h.len with
  |y::ls,_=>
   obtain⟨x',h1,h2⟩:=view8 h.head
   obtain⟨l',h3,h4⟩:=ih h.tail
   exact⟨x'::l',by simp only[cW,h1,h3],by simp only[cW,h2.rd,h4]⟩
theorem CV{pre:List (List (BitVec 8))→Bool}{out:List (List (BitVec 8))→D×Rows}{rows:Rows}{k:D→Rows→Prop}{r n:Nat}{ex:Bool}{l:List D}{ls:List (List (BitVec 8))}(hl:live rows r=some ⟨.ref,l⟩)(hn:l.length=n)
  (hv:aY (fun x y=>bc rows x y) l ls)(hp:pre ls=true)(hr:(bZ (out ls).1&&aS (out ls).2)=true):aJ (lE pz pre out) rows k [.sl .ref r [] 0 n ex]=k (shift rows.length (out ls).1) (rows++ae rows.length (out ls).2):=by
 obtain⟨l',h1,h2⟩:=pC hv
 have he:elems rows (.sl .ref r [] 0 n ex)=some l:=by simp[elems,hl,←hn]
 have hvw:view rows 9 (.sl .ref r [] 0 n ex)=some (.cF .ref l' ex):=by
  simp only[view,he,hn,beq_self_eq_true,Bool.not_true,cond_false,Sh.pure,h1]
 refine zq (fun d2 yQ=>?_) ⟨_,hvw⟩ (fun hh=>by simp[aQ]at hh) hr
 rw[hvw]at yQ
 cases yQ
 exact ei (by simpa[pz]using h2) hp
theorem O2(rows:Rows)(k:D→Rows→Prop)(r n:Nat)(ex:Bool)(l:List D)(ls:List (List (BitVec 8)))(hl:live rows r=some ⟨.ref,l⟩)(hn:l.length=n)
  (hv:aY (fun x y=>bc rows x y) l ls)(hp:ls.length≤1099511627776)(sG:ls.flatten.length≤1099511627776):aJ BI rows k [.sl .ref r [] 0 n ex]=k (.agg (.ar 32 L8) (bs (dU ls.flatten))) rows:=by
 refine(CV hl hn hv (by simp only[Bool.and_eq_true,Nat.ble_eq];exact⟨hp,sG⟩) (by simp[aW,bZ,aS,Sh.pure])).trans ?_
 simp[aW,shift,ae,Sh.pure]
theorem kJoin(rows:Rows)(k:D→Rows→Prop)(r n:Nat)(ex:Bool)(l:List D)(ls:List (List (BitVec 8)))(hl:live rows r=some ⟨.ref,l⟩)(hn:l.length=n)
  (hv:aY (fun x y=>bc rows x y) l ls)(hp:ls.length≤1099511627776)(sG:ls.flatten.length≤1099511627776):aJ Mi rows k [.sl .ref r [] 0 n ex]=k (.sl L8 (0+rows.length) [] 0 ls.flatten.length false) (rows++[some ⟨L8,bs ls.flatten⟩]):=by
 refine(CV hl hn hv (by simp only[Bool.and_eq_true,Nat.ble_eq];exact⟨hp,sG⟩) (by simp[ez,bZ,aS,Sh.pure])).trans ?_
 simp[ez,shift,ae,Sh.pure]
theorem l5(s:St):D.fits (rY s) KM=true:=by simp[rY,D.fits]
theorem Ir(s:St)(h:s.ok=true):(oq s).length=32:=by
 rw[oq,nC,(st_ok (eD _ _ h)).1]
theorem dh(p:List (BitVec 8)):(dU p).length=32:=Ir _ (eD _ _ mO)
theorem Ao{s:Sh}{d:D}{rows:Rows}{els news:List D}{bytes:Nat}{k:D→Rows→Prop}(h:iK s d rows els)(hb:(els.length+news.length)*bytes≤most)(HI:els.length+news.length≤most)
  (hk:∀ab,live ab rows.length=some ⟨s,els++news⟩→(∀r x,live rows r=some x→(∀ex n,d≠ .sl s r [] 0 n ex)→live ab r=some x)→ab.length=rows.length+1→k (.sl s rows.length [] 0 (els.length+news.length) false) ab):uL rows s bytes d news k:=by
 unfold uL
 rw[h.elems,h.dK]
 refine⟨h.eK,rfl,hb,HI,?_⟩
 rcases h with⟨rfl,rfl⟩|⟨r,ex,rfl,hl⟩
 ·simp only[isNil,Bool.true_or,cond_true,kill]
  exact hk _ vi (fun r x hx _=>bJ hx) (by simp)
 ·simp only[isNil,owned,Bool.false_or,cond_true,kill]
  have h1:(rows.set r none).length=rows.length:=by simp
  refine hk _ (by rw[←h1];exact vi) (fun r' x hx hne=>?_) (by simp)
  have hr:r≠r':=fun e=>hne ex _ (by rw[e])
  refine bJ ?_
  unfold live at hx⊢
  rw[List.getElem?_set_ne hr];exact hx
theorem aG{rows:Rows}{r:Nat}{x y:Row}(h:live rows r=some x):live (rows.set r (some y)) r=some y:=by
 have:=bn h
 simp[live,this]
theorem cK{rows:Rows}{r q:Nat}{x y:Row}(h:live rows r=some x)(hn:q≠r):live (rows.set q (some y)) r=some x:=by
 unfold live at h⊢
 rw[List.getElem?_set_ne hn];exact h
theorem ia{s s':Sh}{d:D}{rows:Rows}{els els':List D}{r:Nat}(h:iK s d rows els)(hl:live rows r=some ⟨s',els'⟩)(hs:s'≠s):∀ex n,d≠ .sl s r [] 0 n ex:=by
 intro ex n e
 rcases h with⟨-,rfl⟩|⟨r2,Jk,rfl,G1⟩
 ·cases e
 ·injection e with _ e
  subst e
  rw[G1]at hl
  injection hl with hl
  injection hl with h1 h2
  exact hs h1.symm
theorem Is{s:Sh}{d:D}{rows:Rows}{els:List D}(h:iK s d rows els):D.fits d .ref=true:=by
 rcases h with⟨-,rfl⟩|⟨r,ex,rfl,-⟩<;>rfl
theorem JX{β:Type}{DF:D→Option β}{y:β}{pre:List (BitVec 8)→β→Bool}{out:List (BitVec 8)→β→D×Rows}{rows:Rows}{k:D→Rows→Prop}{d:D}{v:Value}{a:List (BitVec 8)}(h:bc rows d a)(h2:DF (.raw v)=some y)(hp:pre a y=true)
  (hr:(bZ (out a y).1&&aS (out a y).2)=true):aJ (wS dN DF pre out) rows k [d,.raw v]=k (shift rows.length (out a y).1) (rows++ae rows.length (out a y).2):=by
 obtain⟨⟨d',je,hb⟩,hn⟩:=h
 have hv:view rows 9 (.raw v)=some (.raw v):=rfl
 unfold aJ
 simp only[cW,je,hv,bd,jP hb.rd h2 hp,hr,true_and]
 cases hh:aN [d,.raw v]with
 |true=>simp
 |false=>
  simp[aN]at hh
  simp only[jP (hn hh.1).rd h2 hp]
  simp
theorem kCutI(rows:Rows)(k:D→Rows→Prop)(d:D)(p:List (BitVec 8))(n:Int)(h:bc rows d p)(hp:p.length≤9223372036854775807)(sG:(p.take n.toNat).length≤1099511627776):aJ Tu rows k [d,.raw (it n)]=k (.sl L8 (0+rows.length) [] 0 (p.take n.toNat).length false) (rows++[some ⟨L8,bs (p.take n.toNat)⟩]):=by
 refine(JX h (nS n) (by rw[Bool.and_eq_true,Nat.ble_eq,Nat.ble_eq];exact⟨hp,sG⟩) rfl).trans ?_
 rfl
def tx:Fn:=lE dN (fun a=>Nat.ble a.length most) fun a=>ez a false
theorem Mt(C:be)(hC:aI C P):aO C.aZ P 73 (Fn.run tx):=by
 refine cr (Hf C hC) fun ds rows r h=>?_
 obtain⟨d,a,rfl,rfl,hd,hp,rfl⟩:=a8 h
 obtain⟨x,hx⟩:=cy hd
 refine⟨rfl,_,.cons hx .nil,ag rfl ?_⟩
 simp only[Nat.ble_eq]at hp
 clear h hx hd
 unfold xz xA
 simp only[↓aj,ak,simprocAttr,aa,aC]
 unfold most at hp
 refine⟨fun h0=>?_,by omega,by omega,.own L8 1 0 a.length false false _ rfl rfl id⟩
 cases a with
 |nil=>exact .Wl L8
 |cons b l=>simp at h0
theorem JY(rows:Rows)(k:D→Rows→Prop)(d:D)(p:List (BitVec 8))(h:bc rows d p)(hp:p.length≤1099511627776):aJ tx rows k [d]=k (.sl L8 (0+rows.length) [] 0 p.length false) (rows++[some ⟨L8,bs p⟩]):=by
 refine(rE h (by simpa[most]using hp) rfl).trans ?_
 rfl
end iC
end Go.Am
namespace Go.Am
set_option linter.unusedSimpArgs false
set_option linter.unusedVariables false
namespace iC
def bT{α:Type}(rows:Rows)(rd:D→Option α)(d:D)(a:α):Prop:=(∃d',view rows 9 d=some d'∧rd d'=some a)∧(aQ d=false→rd d=some a)
theorem bT.raw{α:Type}{rows:Rows}{rd:D→Option α}{v:Value}{a:α}(h:rd (.raw v)=some a):bT rows rd (.raw v) a:=⟨⟨_,rfl,h⟩,fun _=>h⟩
theorem bT.int{rows:Rows}(n:Int):bT rows rC (.raw (it n)) n:= .raw (nS n)
theorem bT.agg{α:Type}{rows:Rows}{rd:D→Option α}{s:Sh}{l:List D}{a:α}(hs:s.pure=true)(h:rd (.agg s l)=some a):bT rows rd (.agg s l) a:=⟨⟨.agg s l,by simp[view,hs],h⟩,fun _=>h⟩
theorem bT.bs{rows:Rows}{d:D}{l:List (BitVec 8)}(h:bc rows d l):bT rows dN d l:=by
 obtain⟨⟨d',je,hb⟩,hn⟩:=h
 exact⟨⟨d',je,hb.rd⟩,fun hh=>(hn hh).rd⟩
theorem bT.parts{rows:Rows}{r n:Nat}{ex:Bool}{l:List D}{ls:List (List (BitVec 8))}(hl:live rows r=some ⟨.ref,l⟩)(hn:l.length=n)
  (hv:aY (fun x y=>bc rows x y) l ls):bT rows pz (.sl .ref r [] 0 n ex) ls:=by
 obtain⟨l',h1,h2⟩:=pC hv
 have he:elems rows (.sl .ref r [] 0 n ex)=some l:=by simp[elems,hl,←hn]
 have hvw:view rows 9 (.sl .ref r [] 0 n ex)=some (.cF .ref l' ex):=by
  simp only[view,he,hn,beq_self_eq_true,Bool.not_true,cond_false,Sh.pure,h1]
 exact⟨⟨_,hvw,by simpa[pz]using h2⟩,fun h=>by simp[aQ]at h⟩
theorem rZ{A:Fn}{rows:Rows}{k:D→Rows→Prop}{ds ds':List D}{r:D×Rows}(hv:cW (view rows 9) ds=some ds')(hA:A ds' []=some r)(hn:aN ds=false→A ds []=some r)(hr:(bZ r.1&&aS r.2)=true):
  aJ A rows k ds=k (shift rows.length r.1) (rows++ae rows.length r.2):=by
 unfold aJ
 cases hh:aN ds with
 |true=>simp[bd,hv,hA,hr]
 |false=>simp[bd,hn hh]
theorem cC{α:Type}{rd:D→Option α}{pre:α→Bool}{out:α→D×Rows}{rows:Rows}{d:D}{a:α}(h:bT rows rd d a)(hp:pre a=true)(hr:(bZ (out a).1&&aS (out a).2)=true)(k:D→Rows→Prop):
  aJ (lE rd pre out) rows k [d]=k (shift rows.length (out a).1) (rows++ae rows.length (out a).2):=by
 obtain⟨⟨x,hx,hx'⟩,hn⟩:=h
 refine rZ (ds':=[x]) (by simp only[cW,hx]) (ei hx' hp) (fun hh=>?_) hr
 simp only[aN,Bool.or_eq_false_iff,and_true]at hh
 exact ei (hn hh) hp
theorem jB{α β:Type}{rd:D→Option α}{rd':D→Option β}{pre:α→β→Bool}{out:α→β→D×Rows}{rows:Rows}{d e:D}{a:α}{b:β}(h:bT rows rd d a)(h':bT rows rd' e b)(hp:pre a b=true)
  (hr:(bZ (out a b).1&&aS (out a b).2)=true)(k:D→Rows→Prop):
  aJ (wS rd rd' pre out) rows k [d,e]=k (shift rows.length (out a b).1) (rows++ae rows.length (out a b).2):=by
 obtain⟨⟨x,hx,hx'⟩,hn⟩:=h
 obtain⟨⟨y,hy,hy'⟩,hm⟩:=h'
 refine rZ (ds':=[x,y]) (by simp only[cW,hx,hy]) (jP hx' hy' hp) (fun hh=>?_) hr
 simp only[aN,Bool.or_eq_false_iff,and_true]at hh
 exact jP (hn hh.1) (hm hh.2) hp
theorem fT{α β γ:Type}{rd:D→Option α}{rd':D→Option β}{DF:D→Option γ}{pre:α→β→γ→Bool}{out:α→β→γ→D×Rows}{rows:Rows}{d e f:D}{a:α}{b:β}{c:γ}(h:bT rows rd d a)(h':bT rows rd' e b)(h2:bT rows DF f c)(hp:pre a b c=true)
  (hr:(bZ (out a b c).1&&aS (out a b c).2)=true)(k:D→Rows→Prop):
  aJ (G2 rd rd' DF pre out) rows k [d,e,f]=k (shift rows.length (out a b c).1) (rows++ae rows.length (out a b c).2):=by
 obtain⟨⟨x,hx,hx'⟩,hn⟩:=h
 obtain⟨⟨y,hy,hy'⟩,hm⟩:=h'
 obtain⟨⟨z,hz,I5⟩,ho⟩:=h2
 refine rZ (ds':=[x,y,z]) (by simp only[cW,hx,hy,hz]) (by simp only[yD,hx',hy',I5,Option.bind_some,hp,cond_true]) (fun hh=>?_) hr
 simp only[aN,Bool.or_eq_false_iff,and_true]at hh
 simp only[yD,hn hh.1,hm hh.2.1,ho hh.2.2,Option.bind_some,hp,cond_true]
end iC
end Go.Am
namespace Go.Am
set_option linter.unusedSimpArgs false
set_option linter.unusedVariables false
attribute [local congr] cd bt cg bu bw bO bg bx bz bP a7 bQ bA b9
namespace iC
open Go.Am.F
set_option maxRecDepth 10000
theorem r8{l:List (List (BitVec 8))}(h:∀x∈l,x.length=32):l.flatten.length=32*l.length:=by
 induction l with
 |nil=>rfl
 |cons x l ih=>rw[List.flatten_cons,List.length_append,ih (fun y hy=>h y (by simp[hy])),h x (by simp),List.length_cons];omega
theorem bc.at{rows:Rows}{r n i off len:Nat}{q:List Nat}{e:Bool}{row:Row}{l:List (BitVec 8)}(h:live rows r=some row)(hg:cP row.els (i::q)=some (.agg (.ar n L8) (bs l)))(hle:off+len≤l.length):bc rows (.sl L8 r (i::q) off len e) ((l.drop off).take len):=by
 refine⟨⟨.cF L8 (bs ((l.drop off).take len)) e,?_,.inr ⟨e,rfl⟩⟩,fun h=>by simp[aQ]at h⟩
 have h2:Am.elems rows (.sl L8 r (i::q) off len e)=some (bs ((l.drop off).take len)):=by
  simp only[elems,h,hg]
  simp[bs]
 simp only[Am.view]
 rw[h2]
 have hl:(bs ((l.drop off).take len)).length=len:=by simp[bs];omega
 simp[Sh.pure,hl]
theorem oG{rows:Rows}{r n i len:Nat}{q:List Nat}{e:Bool}{row:Row}{l:List (BitVec 8)}(h:live rows r=some row)(hg:cP row.els (i::q)=some (.agg (.ar n L8) (bs l)))(hl:l.length=len):Am.elems rows (.sl L8 r (i::q) 0 len e)=some (bs l):=by
 simp only[elems,h,hg]
 simp[bs,←hl,List.take_of_length_le]
theorem bc.r9{rows:Rows}{r n i len:Nat}{q:List Nat}{e:Bool}{row:Row}{l:List (BitVec 8)}(h:live rows r=some row)(hg:cP row.els (i::q)=some (.agg (.ar n L8) (bs l)))(hl:l.length=len):bc rows (.sl L8 r (i::q) 0 len e) l:=by
 have:=bc.at (off:=0) (len:=len) (e:=e) h hg (by omega)
 rwa [List.drop_zero,List.take_of_length_le (by omega)]at this
def ug:List (BitVec 8):=List.replicate 32 0#8
theorem dW:List.replicate 32 (D.raw (u8 0#8))=bs ug:=rfl
theorem inj_id(x y:List (BitVec 8))(h:D.agg (.ar 16 L8) (bs x)= .agg (.ar 16 L8) (bs y)):x=y:=by
 injection h with _ h;exact tu h
def xN(l:List (BitVec 8)):D:= .agg (.ar 16 L8) (bs l)
theorem D6{rows:Rows}(x:List (BitVec 8)):bT rows (b8 xN) (.agg (.ar 16 L8) (bs x)) x:=bT.agg rfl (bV inj_id x)
def It(l:List (List (BitVec 8))):Bool:=l.all fun x=>decide (x.length=32)
theorem sa{l:List (List (BitVec 8))}:It l=true↔∀x∈l,x.length=32:=by simp[It]
theorem iQ{rows:Rows}(x:List (BitVec 8)):bT rows (b8 aW) (.agg (.ar 32 L8) (bs x)) x:=bT.agg rfl (bV Al x)
theorem QJ:∀(a b:List (BitVec 8)),a.length=b.length→yV (bs a) (bs b)=some (decide (a=b))
 |[],[],_=>rfl
 | x :: a, y :: b, h => by
  have e1:sK (.raw (u8 x)) (.raw (u8 y))=some (decide (x=y)):=by
   simp only[sK,gW,u8]
   by_cases h:x=y
   ·subst h;simp
   ·have:¬(x.toNat:Int)=(y.toNat:Int):=fun e=>h (BitVec.eq_of_toNat_eq (by omega))
    simp[h,this]
  show yV (.raw (u8 x)::bs a) (.raw (u8 y)::bs b)=_
  rw[eL_c,e1,QJ a b (by simpa using h)]
  by_cases h1:x=y<;>by_cases h2:a=b<;>simp[h1,h2]
theorem JZ(a b:List (BitVec 8))(ha:a.length=32)(hb:b.length=32):eqA (.ar 32 L8) (.agg (.ar 32 L8) (bs a)) (.agg (.ar 32 L8) (bs b))=some (decide (a=b)):=by
 have:=QJ a b (by omega)
 simp[eqA,this]
end iC
end Go.Am
namespace Go.Am
set_option linter.unusedSimpArgs false
set_option linter.unusedVariables false
namespace iC
def Xr(l:List (BitVec 8)):Nat:=l.foldl (fun n b=>n*256+b.toNat) 0
theorem TF(a b c d:BitVec 8):Xr [a,b,c,d]=(cY [a,b,c,d]).toNat:=by
 have ha:=a.isLt
 have hb:=b.isLt
 have hc:=c.isLt
 have hd:=d.isLt
 have e:∀(x:BitVec 8) (k:Nat),k≤24→(x.setWidth 32<<<k).toNat=x.toNat*2^k:=by
  intro x k hk
  have hx:=x.isLt
  rw[BitVec.toNat_shiftLeft,BitVec.toNat_setWidth,Nat.shiftLeft_eq,Nat.mod_eq_of_lt (a:=x.toNat) (by omega)]
  apply Nat.mod_eq_of_lt
  calc x.toNat*2^k<2^8*2^k:=Nat.mul_lt_mul_of_pos_right hx (Nat.pow_pos (by decide))
   _≤2^8*2^24:=Nat.mul_le_mul_left _ (Nat.pow_le_pow_right (by decide) hk)
   _=2^32:=by decide
 have e8:∀(x:BitVec 8),(x.setWidth 32).toNat=x.toNat:=fun x=>by
  have:=x.isLt
  rw[BitVec.toNat_setWidth,Nat.mod_eq_of_lt (by omega)]
 have o:∀(x y k:Nat),y<2^k→(x*2^k)|||y=x*2^k+y:=fun x y k h=>by
  rw[Nat.mul_comm,←Nat.two_pow_add_eq_or_of_lt h]
 show Xr [a,b,c,d]=(a.setWidth 32<<<24|||b.setWidth 32<<<16|||c.setWidth 32<<<8|||d.setWidth 32).toNat
 rw[BitVec.toNat_or,BitVec.toNat_or,BitVec.toNat_or,e a 24 (by decide),e b 16 (by decide),e c 8 (by decide),e8 d,o _ (b.toNat*2^16) 24 (by omega)]
 rw[show a.toNat*2^24+b.toNat*2^16=(a.toNat*256+b.toNat)*2^16 by omega,o _ (c.toNat*2^8) 16 (by omega)]
 rw[show(a.toNat*256+b.toNat)*2^16+c.toNat*2^8=((a.toNat*256+b.toNat)*256+c.toNat)*2^8 by omega,o _ d.toNat 8 (by omega)]
 simp only[Xr,List.foldl_cons,List.foldl_nil]
 omega
theorem O3(x:BitVec 32):Xr (bC x)=x.toNat:=by
 have hx:=x.isLt
 simp only[bC,Xr,List.foldl_cons,List.foldl_nil,BitVec.toNat_setWidth,BitVec.toNat_ushiftRight,Nat.shiftRight_eq_div_pow]
 omega
def uG(n:Nat):List (BitVec 8):=[BitVec.ofNat 8 (n/256),BitVec.ofNat 8 n]
def xO(id:List (BitVec 8))(q:BitVec 32)(i j:Nat)(x:List (BitVec 8)):List (BitVec 8):=dU (id++bC q++uG i++[BitVec.ofNat 8 j]++x)
theorem oH(id:List (BitVec 8))(q:BitVec 32)(i j:Nat)(x:List (BitVec 8)):(xO id q i j x).length=32:=dh _
def Hn(id:List (BitVec 8))(q:BitVec 32)(i:Nat):Nat→Nat→List (BitVec 8)→List (BitVec 8)
 |0,_,x=>x
 |n+1,a,x=>Hn id q i n (a+1) (xO id q i a x)
theorem wD(id:List (BitVec 8))(q:BitVec 32)(i:Nat):∀(n a:Nat) (x:List (BitVec 8)),x.length=32→(Hn id q i n a x).length=32
 |0,_,x,h=>h
 |n+1,a,x,_=>wD id q i n (a+1) _ (oH _ _ _ _ _)
theorem J0(id:List (BitVec 8))(q:BitVec 32)(i m:Nat):∀(n a:Nat) (x:List (BitVec 8)),Hn id q i (n+m) a x=Hn id q i m (a+n) (Hn id q i n a x)
 |0,a,x=>by rw[Nat.zero_add];rfl
 |n+1,a,x=>by
  rw[show n+1+m=(n+m)+1 by omega]
  show Hn id q i (n+m) (a+1) (xO id q i a x)=Hn id q i m (a+(n+1)) (Hn id q i n (a+1) (xO id q i a x))
  rw[J0 id q i m n (a+1),show a+1+n=a+(n+1) by omega]
theorem Xs(id:List (BitVec 8))(q:BitVec 32)(i n a:Nat)(x:List (BitVec 8)):Hn id q i (n+1) a x=xO id q i (a+n) (Hn id q i n a x):=J0 id q i 1 n a x
def DH(id:List (BitVec 8))(q:BitVec 32)(i:Nat)(aL:List (BitVec 8)):List (BitVec 8):=xO id q i 255 aL
def CW(id:List (BitVec 8))(q:BitVec 32)(l:List (List (BitVec 8))):List (BitVec 8):=dU (id++bC q++uG 32896++l.flatten)
def vN(id:List (BitVec 8))(q:BitVec 32)(aL:List (BitVec 8))(e n:Nat):List (List (BitVec 8)):=(List.range n).map fun i=>Hn id q i e 0 (DH id q i aL)
theorem Xt(id:List (BitVec 8))(q:BitVec 32)(aL:List (BitVec 8))(e n:Nat):∀x∈vN id q aL e n,x.length=32:=by
 intro x hx
 obtain⟨i,-,rfl⟩:=List.mem_map.1 hx
 exact wD _ _ _ _ _ _ (oH _ _ _ _ _)
def Xu{α β γ δ:Type}(r0:D→Option α)(r1:D→Option β)(r2:D→Option γ)(r3:D→Option δ)(pre:α→β→γ→δ→Bool)(out:α→β→γ→δ→D×Rows):Fn
 |[d0,d1,d2,d3],[]=>match r0 d0,r1 d1,r2 d2,r3 d3 with
  |some x0,some x1,some x2,some x3=>bif pre x0 x1 x2 x3 then some (out x0 x1 x2 x3)else none
  | _,_,_,_=>none
 | _,_=>none
theorem sc{α β γ δ:Type}{r0:D→Option α}{r1:D→Option β}{r2:D→Option γ}{r3:D→Option δ}{pre:α→β→γ→δ→Bool}{out:α→β→γ→δ→D×Rows}{ds:List D}{rows:Rows}{r:D×Rows}(h:Xu r0 r1 r2 r3 pre out ds rows=some r):
  ∃d0 d1 d2 d3 x0 x1 x2 x3,ds=[d0,d1,d2,d3]∧rows=[]∧r0 d0=some x0∧r1 d1=some x1∧r2 d2=some x2∧r3 d3=some x3∧pre x0 x1 x2 x3=true∧r=out x0 x1 x2 x3:=by
 unfold Xu at h
 split at h
 ·rename_i d0 d1 d2 d3
  split at h
  ·rename_i x0 x1 x2 x3 h0 h1 h2 h3
   cases hp:pre x0 x1 x2 x3 with
   |false=>rw[hp]at h;cases h
   |true=>rw[hp]at h;cases h;exact⟨d0,d1,d2,d3,x0,x1,x2,x3,rfl,rfl,h0,h1,h2,h3,hp,rfl⟩
  ·cases h
 ·cases h
theorem O4{α β γ δ:Type}{r0:D→Option α}{r1:D→Option β}{r2:D→Option γ}{r3:D→Option δ}{pre:α→β→γ→δ→Bool}{out:α→β→γ→δ→D×Rows}{d0 d1 d2 d3:D}{x0:α}{x1:β}{x2:γ}{x3:δ}(h0:r0 d0=some x0)(h1:r1 d1=some x1)(h2:r2 d2=some x2)(h3:r3 d3=some x3)(hp:pre x0 x1 x2 x3=true):
  Xu r0 r1 r2 r3 pre out [d0,d1,d2,d3] []=some (out x0 x1 x2 x3):=by
 simp[Xu,h0,h1,h2,h3,hp]
theorem vO{α β γ δ:Type}{r0:D→Option α}{r1:D→Option β}{r2:D→Option γ}{r3:D→Option δ}{pre:α→β→γ→δ→Bool}{out:α→β→γ→δ→D×Rows}{rows:Rows}{d0 d1 d2 d3:D}{x0:α}{x1:β}{x2:γ}{x3:δ}(h0:bT rows r0 d0 x0)(h1:bT rows r1 d1 x1)(h2:bT rows r2 d2 x2)(h3:bT rows r3 d3 x3)(hp:pre x0 x1 x2 x3=true)
  (hr:(bZ (out x0 x1 x2 x3).1&&aS (out x0 x1 x2 x3).2)=true)(k:D→Rows→Prop):
  aJ (Xu r0 r1 r2 r3 pre out) rows k [d0,d1,d2,d3]=k (shift rows.length (out x0 x1 x2 x3).1) (rows++ae rows.length (out x0 x1 x2 x3).2):=by
 obtain⟨⟨y0,a0,b0⟩,c0⟩:=h0
 obtain⟨⟨y1,a1,b1⟩,c1⟩:=h1
 obtain⟨⟨y2,a2,b2⟩,c2⟩:=h2
 obtain⟨⟨y3,a3,b3⟩,c3⟩:=h3
 refine rZ (ds':=[y0,y1,y2,y3]) (by simp only[cW,a0,a1,a2,a3]) (O4 b0 b1 b2 b3 hp) (fun hh=>?_) hr
 simp only[aN,Bool.or_eq_false_iff,and_true]at hh
 exact O4 (c0 hh.1) (c1 hh.2.1) (c2 hh.2.2.1) (c3 hh.2.2.2) hp
def gn5{α β γ δ ε:Type}(r0:D→Option α)(r1:D→Option β)(r2:D→Option γ)(r3:D→Option δ)(r4:D→Option ε)(pre:α→β→γ→δ→ε→Bool)(out:α→β→γ→δ→ε→D×Rows):Fn
 |[d0,d1,d2,d3,d4],[]=>match r0 d0,r1 d1,r2 d2,r3 d3,r4 d4 with
  |some x0,some x1,some x2,some x3,some x4=>bif pre x0 x1 x2 x3 x4 then some (out x0 x1 x2 x3 x4)else none
  | _,_,_,_,_=>none
 | _,_=>none
theorem Mu{α β γ δ ε:Type}{r0:D→Option α}{r1:D→Option β}{r2:D→Option γ}{r3:D→Option δ}{r4:D→Option ε}{pre:α→β→γ→δ→ε→Bool}{out:α→β→γ→δ→ε→D×Rows}{ds:List D}{rows:Rows}{r:D×Rows}(h:gn5 r0 r1 r2 r3 r4 pre out ds rows=some r):
  ∃d0 d1 d2 d3 d4 x0 x1 x2 x3 x4,ds=[d0,d1,d2,d3,d4]∧rows=[]∧r0 d0=some x0∧r1 d1=some x1∧r2 d2=some x2∧r3 d3=some x3∧r4 d4=some x4∧pre x0 x1 x2 x3 x4=true∧r=out x0 x1 x2 x3 x4:=by
 unfold gn5 at h
 split at h
 ·rename_i d0 d1 d2 d3 d4
  split at h
  ·rename_i x0 x1 x2 x3 x4 h0 h1 h2 h3 h4
   cases hp:pre x0 x1 x2 x3 x4 with
   |false=>rw[hp]at h;cases h
   |true=>rw[hp]at h;cases h;exact⟨d0,d1,d2,d3,d4,x0,x1,x2,x3,x4,rfl,rfl,h0,h1,h2,h3,h4,hp,rfl⟩
  ·cases h
 ·cases h
theorem Xv{α β γ δ ε:Type}{r0:D→Option α}{r1:D→Option β}{r2:D→Option γ}{r3:D→Option δ}{r4:D→Option ε}{pre:α→β→γ→δ→ε→Bool}{out:α→β→γ→δ→ε→D×Rows}{d0 d1 d2 d3 d4:D}{x0:α}{x1:β}{x2:γ}{x3:δ}{x4:ε}(h0:r0 d0=some x0)(h1:r1 d1=some x1)(h2:r2 d2=some x2)(h3:r3 d3=some x3)(h4:r4 d4=some x4)(hp:pre x0 x1 x2 x3 x4=true):
  gn5 r0 r1 r2 r3 r4 pre out [d0,d1,d2,d3,d4] []=some (out x0 x1 x2 x3 x4):=by
 simp[gn5,h0,h1,h2,h3,h4,hp]
theorem Mv{α β γ δ ε:Type}{r0:D→Option α}{r1:D→Option β}{r2:D→Option γ}{r3:D→Option δ}{r4:D→Option ε}{pre:α→β→γ→δ→ε→Bool}{out:α→β→γ→δ→ε→D×Rows}{rows:Rows}{d0 d1 d2 d3 d4:D}{x0:α}{x1:β}{x2:γ}{x3:δ}{x4:ε}(h0:bT rows r0 d0 x0)(h1:bT rows r1 d1 x1)(h2:bT rows r2 d2 x2)(h3:bT rows r3 d3 x3)(h4:bT rows r4 d4 x4)(hp:pre x0 x1 x2 x3 x4=true)
  (hr:(bZ (out x0 x1 x2 x3 x4).1&&aS (out x0 x1 x2 x3 x4).2)=true)(k:D→Rows→Prop):
  aJ (gn5 r0 r1 r2 r3 r4 pre out) rows k [d0,d1,d2,d3,d4]=k (shift rows.length (out x0 x1 x2 x3 x4).1) (rows++ae rows.length (out x0 x1 x2 x3 x4).2):=by
 obtain⟨⟨y0,a0,b0⟩,c0⟩:=h0
 obtain⟨⟨y1,a1,b1⟩,c1⟩:=h1
 obtain⟨⟨y2,a2,b2⟩,c2⟩:=h2
 obtain⟨⟨y3,a3,b3⟩,c3⟩:=h3
 obtain⟨⟨y4,a4,b4⟩,c4⟩:=h4
 refine rZ (ds':=[y0,y1,y2,y3,y4]) (by simp only[cW,a0,a1,a2,a3,a4]) (Xv b0 b1 b2 b3 b4 hp) (fun hh=>?_) hr
 simp only[aN,Bool.or_eq_false_iff,and_true]at hh
 exact Xv (c0 hh.1) (c1 hh.2.1) (c2 hh.2.2.1) (c3 hh.2.2.2.1) (c4 hh.2.2.2.2) hp
end iC
end Go.Am
namespace Go.Am
set_option linter.unusedSimpArgs false
set_option linter.unusedVariables false
attribute [local congr] cd bt cg bu bw bO bg bx bz bP a7 bQ bA b9
namespace iC
open Go.Am.F
set_option maxRecDepth 10000
abbrev pD:Sh:= .cons LI (.cons LI (.cons LI .nil))
theorem mP{x y:BitVec 32}(h:u32 x=u32 y):x=y:=by
 injection h with _ h
 exact BitVec.eq_of_toNat_eq (by omega)
def wT(t:Nat):Nat:=if t=1 then 1 else if t=2 then 2 else if t=3 then 4 else if t=4 then 8 else 0
def pT(t:Nat):Nat:=if t=1 then 265 else if t=2 then 133 else if t=3 then 67 else if t=4 then 34 else 0
def lT(t:Nat):Nat:=if t=1 then 7 else if t=2 then 6 else if t=3 then 4 else 0
def sH(t:Nat):Bool:=decide (1≤t)&&decide (t≤4)
theorem Iu{t:BitVec 32}(h:sH t.toNat=true):t=1#32∨t=2#32∨t=3#32∨t=4#32:=by
 simp only[sH,Bool.and_eq_true,decide_eq_true_eq]at h
 have:t.toNat=1∨t.toNat=2∨t.toNat=3∨t.toNat=4:=by omega
 rcases this with h|h|h|h
 ·exact .inl (BitVec.eq_of_toNat_eq h)
 ·exact .inr (.inl (BitVec.eq_of_toNat_eq h))
 ·exact .inr (.inr (.inl (BitVec.eq_of_toNat_eq h)))
 ·exact .inr (.inr (.inr (BitVec.eq_of_toNat_eq h)))
theorem okT_not{t:Nat}(h:sH t=false):wT t=0∧pT t=0∧lT t=0:=by
 simp only[sH,Bool.and_eq_false_iff,decide_eq_false_iff_not]at h
 refine⟨?_,?_,?_⟩<;>simp only[wT,pT,lT]<;>(repeat' split)<;>omega
structure Z5 where
 w:Nat
 p:Nat
 l:Nat
def iR(x:Z5):D:= .agg pD [.raw (it (x.w:Int)),.raw (it (x.p:Int)),.raw (it (x.l:Int))]
theorem J1{x y:Nat}(h:it (x:Int)=it (y:Int)):x=y:=by
 injection h with _ h;omega
theorem Xw(x y:Z5)(h:iR x=iR y):x=y:=by
 obtain⟨a,b,c⟩:=x
 obtain⟨d,e,f⟩:=y
 simp only[iR,D.agg.injEq,List.cons.injEq,D.raw.injEq,true_and,and_true]at h
 rw[J1 h.1,J1 h.2.1,J1 h.2.2]
theorem cQ(x:Z5):(iR x).fits pD=true:=rfl
def uB(t:Nat):Z5:=⟨wT t,pT t,lT t⟩
theorem Xx{rows:Rows}(x:Z5):bT rows (b8 iR) (iR x) x:=bT.agg rfl (bV Xw x)
def BJ:D:= .agg (.ar 4 pD) [iR ⟨1,265,7⟩,iR ⟨2,133,6⟩,iR ⟨4,67,4⟩,iR ⟨8,34,0⟩]
def l6:Fn:=lE qN (fun _=>true) fun t=>(.cA [iR (uB t.toNat),.raw (.bool (sH t.toNat))],[])
theorem TG(C:be)(hC:aI C P)(hg:C.aZ 0=some BJ):aO C.aZ P 37 (Fn.run l6):=by
 refine aH (Jw C hC) fun ds rows r h=>?_
 obtain⟨d,t,rfl,rfl,hd,hp,rfl⟩:=a8 h
 cases dL hd
 refine⟨rfl,ag rfl ?_⟩
 clear h hd
 unfold zw zy
 have hz:D.agg pD [.raw (it 0),.raw (it 0),.raw (it 0)]=iR ⟨0,0,0⟩:=rfl
 simp only[hz]
 cases hk:sH t.toNat
 ·obtain⟨hw,hp,hl⟩:=okT_not hk
  have e:uB t.toNat=⟨0,0,0⟩:=by rw[uB,hw,hp,hl]
  rw[e]
  simp only[sH,Bool.and_eq_false_iff,decide_eq_false_iff_not]at hk
  have p8:=t.isLt
  by_cases c:t<1#32
  ·have c1:(t<1#32)=True:=eq_true c
   simp only[↓aj,ak,simprocAttr,aa,aX,cQ,c1,decide_true]
   exact .val _ rfl
  ·have c1:(t<1#32)=False:=eq_false c
   have c2:(4#32<t)=True:=eq_true (by
    rw[BitVec.lt_def]at c⊢
    have e1:(1#32).toNat=1:=rfl
    have e4:(4#32).toNat=4:=rfl
    omega)
   simp only[↓aj,ak,simprocAttr,aa,aX,cQ,c1,c2,decide_true,decide_false]
   exact .val _ rfl
 ·rcases Iu hk with rfl|rfl|rfl|rfl
  ·simp only[↓aj,ak,simprocAttr,aa,aX,cQ,hg,BJ,BitVec.reduceLT,BitVec.reduceSub,BitVec.reduceToNat,decide_true,decide_false]
   exact .val _ rfl
  ·simp only[↓aj,ak,simprocAttr,aa,aX,cQ,hg,BJ,BitVec.reduceLT,BitVec.reduceSub,BitVec.reduceToNat,decide_true,decide_false]
   exact .val _ rfl
  ·simp only[↓aj,ak,simprocAttr,aa,aX,cQ,hg,BJ,BitVec.reduceLT,BitVec.reduceSub,BitVec.reduceToNat,decide_true,decide_false]
   exact .val _ rfl
  ·simp only[↓aj,ak,simprocAttr,aa,aX,cQ,hg,BJ,BitVec.reduceLT,BitVec.reduceSub,BitVec.reduceToNat,decide_true,decide_false]
   exact .val _ rfl
theorem mY(rows:Rows)(k:D→Rows→Prop)(t:BitVec 32):aJ l6 rows k [.raw (u32 t)]=k (.cA [iR (uB t.toNat),.raw (.bool (sH t.toNat))]) rows:=by
 refine(cC (bT.raw (fK t)) rfl rfl k).trans ?_
 simp[iR,shift,bh,ae,Sh.pure]
end iC
end Go.Am

import Derived.Test.YtgcejocgnfkciaaGreatDoorKr22
namespace Go.Am
set_option linter.unusedSimpArgs false
set_option linter.unusedVariables false
attribute [local congr] cd bt cg bu bw bO bg bx bz bP a7 bQ bA b9
namespace iC
open Go.Am.F
set_option maxRecDepth 10000
def Gw(bH:List (BitVec 8))(least:Int)(q:List (BitVec 8)):Int:=
 if(cR q).2.2.2≠0 then(cR q).2.2.2 else if so bH (q.take 48) (cR q).2.1≠0 then so bH (q.take 48) (cR q).2.1 else
 if(cR q).1.v<least then 15 else if dU (cR q).2.2.1≠(cR q).1.dg then 16 else 0
theorem Rm(q:List (BitVec 8)):(cR q).1.dg.length=32:=by
 unfold cR
 cases decide (q.length<50)<;>cases decide ((cZ (q.take 48)).2≠0)<;>cases decide ((q.length:Int)<50+eZ q+(cZ (q.take 48)).1.s)<;>first|exact YC _|rfl
theorem Rn{q:List (BitVec 8)}(h:(cR q).2.2.2=0):50≤q.length:=by
 rcases Nat.lt_or_ge q.length 50 with c|c
 ·unfold cR at h
  rw[decide_eq_true c]at h
  cases h
 ·exact c
theorem M7(p:List (BitVec 8))(h:(cZ p).2=0):cL (cZ p).1=true:=by
 unfold cZ at h⊢
 cases h1:decide (p.length=48)<;>cases h2:decide (p.take 4=qU)<;>rw[h1,h2]at h<;>simp only[Bool.and_self,Bool.and_true,Bool.and_false,Bool.false_and,cond_false,cond_true]at h⊢<;>try (exact absurd h (by decide))
 cases h3:cL (qH p)<;>rw[h3]at h<;>simp only[cond_false,cond_true]at h⊢
 ·exact absurd h (by decide)
 ·exact h3
theorem BW{q:List (BitVec 8)}(h:(cR q).2.2.2=0):cL (cR q).1=true∧∃s:Nat,(cR q).1.s=(s:Int)∧4≤s∧s≤2048∧(cR q).2.2.1=sub q (50+eZ q) s∧50+eZ q+s≤q.length:=by
 unfold cR at h⊢
 cases h1:decide (q.length<50)<;>rw[h1]at h<;>simp only[cond_false,cond_true]at h⊢
 ·cases h2:decide ((cZ (q.take 48)).2≠0)<;>rw[h2]at h<;>simp only[cond_false,cond_true]at h⊢
  ·have hp:=M7 (q.take 48) (by simpa using h2)
   cases h3:decide ((q.length:Int)<50+eZ q+(cZ (q.take 48)).1.s)<;>rw[h3]at h<;>simp only[cond_false,cond_true]at h⊢
   ·obtain⟨v,s,e,hv,hs,he,b1,b2,b3,b4,-,-⟩:=wK hp
    rw[hs]at h3⊢
    simp only[decide_eq_false_iff_not]at h3
    refine⟨hp,s,rfl,?_,b2,by rw[Int.toNat_natCast,sub],by omega⟩
    simp only[cL,Bool.and_eq_true,decide_eq_true_eq]at hp
    omega
   ·exact absurd h (by decide)
  ·exact absurd h (by simpa using h2)
 ·exact absurd h (by decide)
theorem iK.PD{s s':Sh}{d:D}{rows:Rows}{els els':List D}{q:Nat}{x:Option Row}(h:iK s d rows els)(hq:live rows q=some ⟨s',els'⟩)(hs:s'≠s):iK s d (rows.set q x) els:=by
 rcases h with⟨h1,h2⟩|⟨r,ex,h1,h2⟩
 ·exact .inl ⟨h1,h2⟩
 ·refine .inr ⟨r,ex,h1,?_⟩
  rw[aE]
  ·exact h2
  ·rintro rfl
   rw[hq]at h2
   injection h2 with h2
   injection h2 with h2 _
   exact hs h2
theorem PE(C C1:be)(nR:C.fn 182=none)(rR:C.fU 182=some (aR C1 1 gA gz))(h13:C1.fn 201=some BV)(h30:C1.fn 73=some tx)
  (hV:C.fn 88=some Az)(hS:C.fn 95=some BI){rows:Rows}{r n:Nat}{ex:Bool}{q bH:List (BitVec 8)}{dp:D}{least:Int}(hl:live rows r=some ⟨L8,bs q⟩)(hn:n=q.length)(hq:q.length≤10000)(hp:∀L,bc (rows++L) dp bH)(sG:bH.length≤1000){K:D→Rows→Prop}
  (h0:Gw bH least q=0→∀ab d,eJ rows ab→iK L8 d ab (bs (cR q).2.2.1)→K (.cA [cO (cR q).1,d,.raw (it 0)]) ab)
  (h1:Gw bH least q≠0→∀ab,eJ rows ab→K (.cA [cO eS,.raw (.slice none 0 0),.raw (it (Gw bH least q))]) ab):
  aR C 3 ij ii [dp,.raw (it least),.sl L8 r [] 0 n ex] rows K:=by
 subst hn
 refine ag rfl ?_
 unfold ii ij
 simp only[-List.reduceReplicate,vV]
 simp only[-List.reduceReplicate,dW]
 have hzm:D.agg SM [.raw (it 0),.raw (it 0),.raw (it 0),.agg (.ar 32 L8) (bs ug)]=cO eS:=rfl
 have hf:=fA
 simp only[↓aj,ak,simprocAttr,aa,aX,nR,rR]
 refine YF C1 (aA hl _) rfl (by omega) h13 h30 ?_
 rintro _ R1 ⟨L,d1,d2,rfl,rfl,hO1,hO2⟩
 have Vd:eJ rows (rows++[some ⟨SM,[cO eS]⟩]++L):=(eJ.app _ _).trans (eJ.app _ _)
 have hpL:∀L',bc (rows++[some ⟨SM,[cO eS]⟩]++L++L') dp bH:=fun L'=>by rw[List.append_assoc,List.append_assoc];exact hp _
 have I3:live (rows++[some ⟨SM,[cO eS]⟩]++L) rows.length=some ⟨SM,[cO eS]⟩:=aA (by rw[b6];rfl) _
 generalize rows++[some ⟨SM,[cO eS]⟩]++L=R at*
 have wx:=Vd _ _ hl
 have qj:=fun L'=>aA I3 L'
 have yT:=Rm q
 obtain⟨hs1,tJ⟩:=YH q
 have hlen:=@Rn q
 have gv:∀m,(cO m).get [0]=some (.raw (it m.v)):=fun _=>rfl
 have gd:∀m,(cO m).get [3]=some (.agg (.ar 32 L8) (bs m.dg)):=fun _=>rfl
 unfold Gw at h0 h1
 generalize hR:cR q=I at*
 obtain⟨m,sg,p,E⟩:=I
 simp only at h0 h1 hO1 hO2 yT hs1 tJ hlen
 have nt2:=hO2.mI
 have pX:∀L' x,live ((R++L').set rows.length (some x)) rows.length=some x:=fun L' x=>aG (qj L')
 have fin:∀L',eJ rows ((R++L').set rows.length (some ⟨SM,[cO eS]⟩)):=fun L'=>(Vd.trans (eJ.app R L')).set (Nat.le_refl _) _
 by_cases c1:E=0
 ·subst c1
  have hq50:=hlen rfl
  have e48:((48:Int)≤((q.length:Nat):Int))=True:=eq_true (by omega)
  simp only[ne_eq,not_true_eq_false,if_false]at h0 h1
  have kV:=fun L' oy k=>kVerify (R++L') k dp (.sl L8 r [] 0 48 oy) d1 bH (q.take 48) sg (hpL _) (by
   have:=bc.sub (rows:=R++L') (off:=0) (len:=48) (ex:=oy) (aA wx _) (by omega)
   rwa [List.drop_zero]at this) hO1.push.to (by omega) (by rw[List.length_take];omega) (by omega)
  generalize hVe:so bH (q.take 48) sg=V at*
  by_cases c2:V=0
  ·subst c2
   simp only[not_true_eq_false,if_false]at h0 h1
   by_cases c3:m.v<least
   ·have PC:(m.v<least)=True:=eq_true c3
    rw[if_pos c3]at h0 h1
    simp only[↓aj,ak,simprocAttr,aa,aX,hf,hV,kV,e48,PC,gv,hzm,nt2,qj,pX]
    exact h1 (by decide) _ (fin _)
   ·have PC:(m.v<least)=False:=eq_false c3
    rw[if_neg c3]at h0 h1
    simp only[↓aj,ak,simprocAttr,aa,aX,hf,hV,kV,e48,PC,gv,gd,hzm,nt2,hS,qj,pX,Is hO2]
    refine Eq.mpr (O2 _ _ _ _ _ _ [p] (by rw[cD];rfl) rfl (.cons hO2.push.to .nil) (by simp) (by simp;omega)) ?_
    have hsum:(dU [p].flatten)=dU p:=by simp
    rw[hsum]
    have hq:=JZ (dU p) m.dg (dh p) yT
    by_cases c4:dU p=m.dg
    ·rw[decide_eq_true c4]at hq
     simp only[c4,not_true_eq_false,if_false]at h0 h1
     simp only[↓aj,ak,simprocAttr,aa,aX,hf,gd,hq,nt2,qj,pX]
     exact h0 trivial _ d2 ((Vd.trans (eJ.app _ _)).set (Nat.le_refl _) _) (iK.PD hO2.push (qj _) (by decide))
    ·rw[decide_eq_false c4]at hq
     rw[if_pos c4]at h0 h1
     simp only[↓aj,ak,simprocAttr,aa,aX,hf,gd,hq,nt2,qj,pX,hzm]
     exact h1 (by decide) _ (fin _)
  ·have Z9:(V=0)=False:=eq_false c2
   rw[if_pos c2]at h0 h1
   simp only[↓aj,ak,simprocAttr,aa,aX,hf,hV,kV,e48,Z9,hzm,qj,pX]
   exact h1 c2 _ (fin _)
 ·have T7:(E=0)=False:=eq_false c1
  rw[if_pos c1]at h0 h1
  simp only[↓aj,ak,simprocAttr,aa,aX,hf,T7,hzm,qj,pX]
  exact h1 c1 _ (fin _)
abbrev SVw:Sh:= .cons LI (.cons SM (.cons .ref .nil))
def yM(e:Int)(m:xQ)(p:D):D:= .agg SVw [.raw (it e),cO m,p]
def gT(x bH:List (BitVec 8))(least:Int)(i:Nat):Int:=Gw bH least (sub x (4096*i) 4096)
def gq(x:List (BitVec 8))(i:Nat):xQ×List (BitVec 8)×List (BitVec 8)×Int:=cR (sub x (4096*i) 4096)
def Uk(x bH:List (BitVec 8))(least:Int)(i:Nat):D×Rows:=
 if gT x bH least i=0 then(yM 0 (gq x i).1 (.sl L8 0 [] 0 (gq x i).2.2.1.length false),[some ⟨L8,bs (gq x i).2.2.1⟩])else(yM (gT x bH least i) eS (.raw (.slice none 0 0)),[])
noncomputable def M8:Fn:=Xu (b8 yJ) dN rC rC (fun K p _ i=>decide (mc K=10240)&&decide (p.length≤1000)&&(decide (i=0)||decide (i=1))) fun K p l i=>Uk (nG K) p l i.toNat
theorem look_ok(C C1 C2:be)(hC:aI C P)(jO:C.fn 130=some Au)(hrd:C.fn 23=some vT)(n0:C.fn 131=none)(r0:C.fU 131=some (aR C1 3 ij ii))
  (nR:C1.fn 182=none)(rR:C1.fU 182=some (aR C2 1 gA gz))(h13:C2.fn 201=some BV)(h30:C2.fn 73=some tx)(hV:C1.fn 88=some Az)(hS:C1.fn 95=some BI):
  aO C.aZ P 68 (Fn.run M8):=by
 refine cr (He C hC) fun ds rows r h=>?_
 obtain⟨d0,d1,d2,d3,K,bH,least,i,rfl,rfl,hd,he,hf,hg,hp,rfl⟩:=sc h
 cases aF hd
 obtain⟨ex,hx⟩:=cy he
 cases bX hf
 cases bX hg
 simp only[Bool.and_eq_true,Bool.or_eq_true,decide_eq_true_eq]at hp
 obtain⟨⟨hl,sO⟩,hi⟩:=hp
 refine⟨rfl,_,.cons (.refl _) (.cons hx (.cons (.refl _) (.cons (.refl _) .nil))),ag rfl ?_⟩
 clear h hd he hf hg hx
 unfold xv xy
 obtain⟨j,rfl,hj⟩:∃j:Nat,i=(j:Int)∧j≤1:=⟨i.toNat,by omega,by omega⟩
 rcases K with _|⟨x,ek⟩
 ·simp[mc]at hl
 simp only[mc]at hl
 simp only[-List.reduceReplicate,vV]
 have hsb:iE (j:Int)=true:=by unfold iE;rcases(by omega:j=0∨j=1)with rfl|rfl<;>rfl
 have ks:=fun rows k=>XF rows k (j:Int)
 rw[hsb]at ks
 have e1:wz (4096*(j:Int))=((4096*j:Nat):Int):=by rw[bf (by omega)];omega
 have e0:ky (some (x,ek)) ((4096*j:Nat):Int) 4096=0:=by simp only[ky];rw[if_neg (by omega)]
 have kr:=fun rows k=>Yi (Kh rows (some (x,ek))) (by simp[mc];omega) ((4096*j:Nat):Int) 4096 k
 simp only[Gn,if_pos e0,nG,Int.toNat_natCast,shift,bh,ae,Sh.pure,cond_true,show(4096:Int).toNat=4096 from rfl]at kr
 simp only[Int.toNat_natCast,nG]
 have hq:(sub x (4096*j) 4096).length=4096:=j9 (by omega)
 have hf:=fA
 have hvz:D.agg SVw [.raw (it 0),cO eS,.raw (.slice none 0 0)]=yM 0 eS (.raw (.slice none 0 0)):=rfl
 have hvf:∀e m d,d.fits .ref=true→(yM e m d).fits SVw=true:=fun _ _ _ _=>rfl
 have hO0:Gw bH least (sub x (4096*j) 4096)=0→Uk x bH least j=(yM 0 (cR (sub x (4096*j) 4096)).1 (.sl L8 0 [] 0 (cR (sub x (4096*j) 4096)).2.2.1.length false),[some ⟨L8,bs (cR (sub x (4096*j) 4096)).2.2.1⟩]):=fun h=>if_pos h
 have hO1:Gw bH least (sub x (4096*j) 4096)≠0→Uk x bH least j=(yM (Gw bH least (sub x (4096*j) 4096)) eS (.raw (.slice none 0 0)),[]):=fun h=>if_neg h
 generalize Uk x bH least j=O at*
 simp only[yJ]at kr⊢
 generalize sub x (4096*j) 4096=q at*
 simp only[↓aj,ak,simprocAttr,aa,aX,jO,ks,e1,hrd,kr,n0,r0]
 refine PE C1 C2 nR rR h13 h30 hV hS (q:=q) rfl hq.symm (by omega) (fun L=>ec.to (.inr ⟨ex,rfl⟩)) sO (fun hz ab d hK hO=>?_) (fun hz ab hK=>?_)
 ·rw[hO0 hz]
  obtain⟨hr1,s,hs1,tJ,Z0,hs4,hs5⟩:=BW (q:=q) (by
   unfold Gw at hz
   split at hz
   ·rename_i h;exact absurd hz h
   ·rename_i h;simpa using h)
  have hpl2:(cR q).2.2.1.length=s:=by rw[hs4];exact j9 hs5
  have I3:=hK 0 _ rfl
  generalize (cR q).2.2.1=p at*
  generalize (cR q).1=m at*
  have hnt:=hO.mI
  have hof:=Is hO
  have qj:=fun L=>aA I3 L
  have pX:=fun L x=>aG (y:=x) (qj L)
  simp only[↓aj,ak,simprocAttr,aa,aX,hf,qj,pX,hnt,hof,yM]
  rcases iK.PD (q:=0) (x:=some ⟨SVw,[.agg SVw [.raw (it 0),cO m,d]]⟩) (hO.push (more:=[some ⟨SM,[cO m]⟩])) (qj _) (by decide)with⟨h1,rfl⟩|⟨r,oy,rfl,Dj⟩
  ·have:p.length=0:=by rw[←aC,h1];rfl
   omega
  ·simp only[aC]at Dj⊢
   exact .ownA _ [_,_] _ _ _ _ _ _ _ [] Dj rfl rfl rfl (fun h=>by cases h)
 ·rw[hO1 hz]
  have I3:=hK 0 _ rfl
  have qj:=fun L=>aA I3 L
  have pX:=fun L x=>aG (y:=x) (qj L)
  simp only[↓aj,ak,simprocAttr,aa,aX,hf,qj,pX,yM]
  exact .val _ rfl
def Ro(p:List (BitVec 8)):JS:=⟨cY (p.drop 4),(p.getD 8 0#8).toNat,((p.getD 9 0#8).toNat:Int)-1,(p.getD 10 0#8).toNat⟩
def Gx:JS:=⟨0#32,0,0,0⟩
def b7(p:List (BitVec 8)):JS×Bool:=
 bif decide (p.length=32)&&(bK (Ro p)&&decide (cU (Ro p)=p))then(Ro p,true)else(Gx,false)
theorem YI(s:JS)(h:bK s=true):Ro (cU s)=s:=by
 obtain⟨a,t,n,ha,ht,hn,b1,b2,b3⟩:=MC h
 have g:∀i,i<12→(cU s).getD i 0#8=(Av s).getD i 0#8:=fun i hi=>by
  rw[cU,List.getD_eq_getElem?_getD,List.getElem?_append_left (by rw[D8];exact hi),←List.getD_eq_getElem?_getD]
 have hx:∀x:Nat,x≤3→((BitVec.ofInt 8 (x:Int)).toNat:Int)=(x:Int):=fun x hx=>by
  show((BitVec.ofNat 8 x).toNat:Int)=_
  rw[BitVec.toNat_ofNat];omega
 have e1:cY ((cU s).drop 4)=s.q:=by
  rw[Io,g 4 (by omega),g (4+1) (by omega),g (4+2) (by omega),g (4+3) (by omega)]
  show cY (bC s.q)=s.q
  obtain⟨q,_,_,_⟩:=s
  show cY (bC q)=q
  have hb:∀x:BitVec 32,cY (bC x)=x:=fun x=>by
   simp only[cY,bC,List.getD_cons_zero,List.getD_cons_succ]
   apply BitVec.eq_of_getLsbD_eq
   intro i hi
   simp only[BitVec.getLsbD_or,BitVec.getLsbD_shiftLeft,BitVec.getLsbD_setWidth,BitVec.getLsbD_ushiftRight]
   rcases(by omega:i<8∨(8≤i∧i<16)∨(16≤i∧i<24)∨(24≤i∧i<32))with c|⟨c,c'⟩|⟨c,c'⟩|⟨c,c'⟩
   ·simp[show i<24 by omega,show i<16 by omega,show i<8 by omega,show i<32 by omega]
   ·simp[show i<24 by omega,show i<16 by omega,show¬i<8 by omega,show i<32 by omega,show i-8<8 by omega,show 8+(i-8)=i by omega,show i-8<32 by omega]
   ·simp[show i<24 by omega,show¬i<16 by omega,show¬i<8 by omega,show i<32 by omega,show i-16<8 by omega,show 16+(i-16)=i by omega,show¬i-8<8 by omega,show i-16<32 by omega]
   ·simp[show¬i<24 by omega,show¬i<16 by omega,show¬i<8 by omega,show i<32 by omega,show i-24<8 by omega,show 24+(i-24)=i by omega,show¬i-8<8 by omega,show¬i-16<8 by omega,show i-24<32 by omega]
  exact hb q
 have e2:((cU s).getD 8 0#8)=BitVec.ofInt 8 s.a:=by rw[g 8 (by omega)];rfl
 have e3:((cU s).getD 9 0#8)=BitVec.ofInt 8 (s.t+1):=by rw[g 9 (by omega)];rfl
 have e4:((cU s).getD 10 0#8)=BitVec.ofInt 8 s.n:=by rw[g 10 (by omega)];rfl
 unfold Ro
 rw[e1,e2,e3,e4,ha,ht,hn,show((t:Int)-1+1)=(t:Int) by omega,hx a (by omega),hx t (by omega),hx n b3,←ha,←ht,←hn]
theorem M9(s:JS)(h:bK s=true):b7 (cU s)=(s,true):=by
 rw[b7,YI s h,eY,h]
 simp
noncomputable def Ej:Fn:=lE dN (fun p=>Nat.ble p.length most) fun p=>(.cA [jD (b7 p).1,.raw (.bool (b7 p).2)],[])
set_option maxHeartbeats 1000000 in
theorem Ul(C:be)(hC:aI C P)(hb:C.fn 60=some qD)(he:C.fn 94=some F5):aO C.aZ P 119 (Fn.run Ej):=by
 refine cr (Dy C hC) fun ds rows r h=>?_
 obtain⟨d,p,rfl,rfl,hd,hp,rfl⟩:=a8 h
 obtain⟨x,hx⟩:=cy hd
 refine⟨rfl,_,.cons hx .nil,ag rfl ?_⟩
 simp only[Nat.ble_eq]at hp
 unfold most at hp
 clear h hx hd
 unfold tV tW
 have hz:D.agg SJ [.raw (u32 0#32),.raw (it 0),.raw (it 0),.raw (it 0)]=jD Gx:=rfl
 by_cases hl:p.length=32
 ·have g:∀i,i<32→(bs p)[i]?=some (.raw (u8 (p.getD i 0#8))):=fun i hi=>mJ (by omega)
  have hn:(p.getD 4 0#8).setWidth 32<<<24|||(p.getD 5 0#8).setWidth 32<<<16|||(p.getD 6 0#8).setWidth 32<<<8|||(p.getD 7 0#8).setWidth 32=cY (p.drop 4):=by
   rw[Io];rfl
  have w:wz (((p.getD 9 0#8).toNat:Int)-1)=((p.getD 9 0#8).toNat:Int)-1:=by
   have:=(p.getD 9 0#8).isLt
   rw[bf (by omega)]
  have hof:∀q:BitVec 32,q=cY (p.drop 4)→D.agg SJ [.raw (u32 q),.raw (it ((p.getD 8 0#8).toNat:Int)),.raw (it (((p.getD 9 0#8).toNat:Int)-1)),.raw (it ((p.getD 10 0#8).toNat:Int))]=jD (Ro p):=fun q hq=>by rw[hq];rfl
  have hof':=hof _ hn
  simp only[↓aj,ak,simprocAttr,aa,aC,hl,g 4 (by omega),g 5 (by omega),g 6 (by omega),g 7 (by omega),g 8 (by omega),g 9 (by omega),g 10 (by omega),w,hn,hz,hof _ rfl,cw,hb]
  cases hk:bK (Ro p)
  ·have hq:b7 p=(Gx,false):=by rw[b7,hk];simp
   have kb:=fun rows k=>kBytesN rows k (Ro p) hk
   have ke:=fun rows k=>Pa rows k (.raw (.slice none 0 0)) (.cF L8 (bs p) x) [] p (ec.to (.inl ⟨rfl,rfl⟩)) (ec.to (.inr ⟨x,rfl⟩)) (by simp) hp
   have hne:decide (([]:List (BitVec 8))=p)=false:=decide_eq_false (by intro h;rw[←h]at hl;cases hl)
   rw[hne]at ke
   rw[hq]
   simp only[↓aj,ak,simprocAttr,aa,kb,he,ke,hz,cw]
   exact .val _ rfl
  ·have kb:=fun rows k=>QP rows k (Ro p) hk
   simp only[↓aj,ak,simprocAttr,aa,kb,he]
   refine Eq.mpr (Pa _ _ _ _ (cU (Ro p)) p (bc.own rfl _ (eY _).symm) (ec.to (.inr ⟨x,rfl⟩)) (by rw[eY];omega) hp) ?_
   by_cases N5:cU (Ro p)=p
   ·have hq:b7 p=(Ro p,true):=by rw[b7,hk,hl,decide_eq_true N5];simp
    rw[hq,decide_eq_true N5]
    simp only[↓aj,ak,simprocAttr,aa,cw]
    exact .val _ rfl
   ·have hq:b7 p=(Gx,false):=by rw[b7,decide_eq_false N5];simp
    rw[hq,decide_eq_false N5]
    simp only[↓aj,ak,simprocAttr,aa,hz,cw]
    exact .val _ rfl
 ·have wx:((p.length:Int)=32)=False:=eq_false (by omega)
  have hq:b7 p=(Gx,false):=by rw[b7,decide_eq_false hl];rfl
  rw[hq]
  simp only[↓aj,ak,simprocAttr,aa,aC,wx,hz,cw]
  exact .val _ rfl
theorem kParseJ(rows:Rows)(k:D→Rows→Prop)(d:D)(p:List (BitVec 8))(h:bc rows d p)(hp:p.length≤1099511627776):aJ Ej rows k [d]=k (.cA [jD (b7 p).1,.raw (.bool (b7 p).2)]) rows:=by
 refine(rE h (by simpa[most]using hp) ?_).trans ?_
 ·simp[jD,bZ,fI,aS,Sh.pure]
 ·simp[shift,bh,F6,ae]
def eE:JS:=⟨0#32,0,-1,0⟩
noncomputable def BX:Fn
 |[],[]=>some (jD eE,[])
 | _,_=>none
theorem YJ(C:be)(hC:aI C P):aO C.aZ P 118 (Fn.run BX):=by
 refine aH (Dx C hC) fun ds rows r h=>?_
 unfold BX at h
 split at h
 ·cases h
  refine⟨rfl,ag rfl ?_⟩
  unfold tT tU
  simp only[↓aj,ak,simprocAttr,aa]
  exact .val _ rfl
 ·cases h
theorem YK(rows:Rows)(k:D→Rows→Prop):aJ BX rows k []=k (jD eE) rows:=by
 refine(bi rfl (r:=(jD eE,[])) rfl).trans ?_
 simp[F6,ae]
def AK(K:FV)(i:Nat)(s:JS×Int):JS×Int:=
 if ky K ((256*i:Nat):Int) 32=0 then
  (bif (b7 (sub (nG K) (256*i) 32)).2&&(decide (s.2=-1)||decide (s.1.q<(b7 (sub (nG K) (256*i) 32)).1.q))then((b7 (sub (nG K) (256*i) 32)).1,(i:Int))else s)
 else s
def dJ(K:FV):JS×Int:=AK K 33 (AK K 32 (eE,-1))
noncomputable def yN:Fn:=lE (b8 yJ) (fun K=>decide (mc K≤1048576)) fun K=>(.cA [jD (dJ K).1,.raw (it (dJ K).2)],[])
def Y3(K:FV):Nat→JS×Int
 |0=>(eE,-1)
 |1=>AK K 32 (eE,-1)
 | _=>dJ K
theorem YL(x y:BitVec 32)(k:D→Prop):bE .gtr (u32 x) (u32 y) k=k (.raw (.bool (decide (y<x)))):=by
 have:(x.toNat:Int)>(y.toNat:Int)↔y<x:=by rw[BitVec.lt_def];omega
 simp only[bE,u32]
 by_cases h:y<x
 ·have:=this.2 h
  simp[h,BitVec.lt_def.1 h]
 ·have h2:¬y.toNat<x.toNat:=fun e=>h (BitVec.lt_def.2 e)
  simp[h,h2]
set_option maxHeartbeats 2000000 in
theorem YM(C:be)(hC:aI C P)(hf:C.fn 118=some BX)(hr:C.fn 23=some vT)(hp:C.fn 119=some Ej):aO C.aZ P 58 (Fn.run yN):=by
 refine aH (Fl C hC) fun ds rows r h=>?_
 obtain⟨d,K,rfl,rfl,hd,hp',rfl⟩:=a8 h
 cases aF hd
 simp only[decide_eq_true_eq]at hp'
 refine⟨rfl,ag rfl ?_⟩
 clear h hd
 unfold vl vn
 have hz:D.agg SJ [.raw (u32 0#32),.raw (it 0),.raw (it 0),.raw (it 0)]=jD Gx:=rfl
 have hg:∀rs,MQ rs (yJ K) K:=fun rs=>Kh rs K
 have kr:=fun rows (i:Nat) k=>Yi (hg rows) hp' ((256*i:Nat):Int) 32 k
 generalize hkk:yJ K=kk at kr⊢
 simp only[↓aj,ak,simprocAttr,aa,aX,hz,cw,hf,YK]
 refine bB 2 (fun i env rows=>has env [(6,.raw (it ((32+i:Nat):Int))),(5,.raw (it (Y3 K i).2)),(4,.ptr SJ 1 [0]),(2,.ptr SJ 0 [0]),(0,kk)]∧live rows 1=some ⟨SJ,[jD (Y3 K i).1]⟩∧∃x,live rows 0=some ⟨SJ,[x]⟩) ?_ ?_ ?_
 ·rintro i hi env rows ⟨hh,r1,⟨x0,r0⟩⟩ R hR
  simp only[has]at hh
  have e0:(((32+i:Nat):Int)<34)=True:=eq_true (by omega)
  have e1:wz (256*((32+i:Nat):Int))=((256*(32+i):Nat):Int):=by rw[bf (by omega)];omega
  have e2:wz (((32+i:Nat):Int)+1)=((32+(i+1):Nat):Int):=by rw[bf (by omega)];omega
  have hs:Y3 K (i+1)=AK K (32+i) (Y3 K i):=by
   have:i=0∨i=1:=by omega
   rcases this with rfl|rfl<;>rfl
  have fin:∀env' ab,(has env' [(6,.raw (it ((32+(i+1):Nat):Int))),(5,.raw (it (Y3 K (i+1)).2)),(4,.ptr SJ 1 [0]),(2,.ptr SJ 0 [0]),(0,kk)]∧live ab 1=some ⟨SJ,[jD (Y3 K (i+1)).1]⟩∧∃x,live ab 0=some ⟨SJ,[x]⟩)→R env' ab:=fun env' ab h=>hR env' ab h
  rw[hs]at fin
  have Y4:=kr rows (32+i)
  by_cases c:ky K ((256*(32+i):Nat):Int) 32=0
  ·rw [Gn, if_pos c] at Y4
   have jO:(sub (nG K) (256*(32+i)) 32).length=32:=by
    rcases K with _|⟨x,ex⟩
    ·cases c
    ·obtain⟨b1,b2,b3,b4⟩:=Kg c
     exact j9 (x:=x) (by omega)
   have e32:(32:Int).toNat=32:=rfl
   simp only[Int.toNat_natCast,e32,shift,bh,ae,List.map_cons,List.map_nil,Sh.pure,cond_true,Nat.zero_add]at Y4
   simp only[AK,if_pos c]at fin
   generalize sub (nG K) (256*(32+i)) 32=p at Y4 fin jO
   generalize Y3 K i=st at hh r1 fin
   have kp:=fun k=>kParseJ (rows++[some ⟨L8,bs p⟩]) k (.sl L8 rows.length [] 0 32 false) p (bc.own (by rw[b6];rfl) _ jO.symm) (by omega)
   generalize b7 p=qk at kp fin
   obtain⟨q,ok⟩:=qk
   obtain⟨s1,at1⟩:=st
   simp only at hh r1 fin kp
   have f1:=fun l=>aA r1 l
   have f0:=fun l=>aA r0 l
   have hw:∀rs,live rs 1=some ⟨SJ,[jD s1]⟩→live (rs.set 1 (some ⟨SJ,[jD q]⟩)) 1=some ⟨SJ,[jD q]⟩:=fun rs h=>aG h
   have hw0:∀rs,live rs 0=some ⟨SJ,[x0]⟩→live (rs.set 1 (some ⟨SJ,[jD q]⟩)) 0=some ⟨SJ,[x0]⟩:=fun rs h=>cK h (by decide)
   cases ok
   ·simp only[Bool.false_and,cond_false]at fin
    simp only[↓aj,ak,simprocAttr,aa,aX,hh,e0,e1,e2,hr,Y4,hp,kp,cw,f1]
    exact fin _ _ ⟨by simp only[has,↓aj,ak,simprocAttr,aa,hh],f1 _,_,f0 _⟩
   ·simp only[Bool.true_and]at fin
    by_cases c2:at1=-1
    ·have c3:(at1=-1)=True:=eq_true c2
     simp only[c3,decide_true,Bool.true_or,cond_true]at fin
     simp only[↓aj,ak,simprocAttr,aa,aX,hh,e0,e1,e2,hr,Y4,hp,kp,cw,f1,c3]
     exact fin _ _ ⟨by simp only[has,↓aj,ak,simprocAttr,aa,hh],hw _ (f1 _),_,hw0 _ (f0 _)⟩
    ·have c3:(at1=-1)=False:=eq_false c2
     by_cases c4:s1.q<q.q
     ·have c5:(s1.q<q.q)=True:=eq_true c4
      simp only[c3,c5,decide_true,decide_false,Bool.false_or,cond_true]at fin
      simp only[↓aj,ak,simprocAttr,aa,aX,hh,e0,e1,e2,hr,Y4,hp,kp,cw,f1,c3,F7,YL,c5,decide_true]
      exact fin _ _ ⟨by simp only[has,↓aj,ak,simprocAttr,aa,hh],hw _ (f1 _),_,hw0 _ (f0 _)⟩
     ·have c5:(s1.q<q.q)=False:=eq_false c4
      simp only[c3,c5,decide_false,Bool.false_or,cond_false]at fin
      simp only[↓aj,ak,simprocAttr,aa,aX,hh,e0,e1,e2,hr,Y4,hp,kp,cw,f1,c3,F7,YL,c5,decide_false]
      exact fin _ _ ⟨by simp only[has,↓aj,ak,simprocAttr,aa,hh],f1 _,_,f0 _⟩
  ·rw[Gn,if_neg c]at Y4
   have c1:(ky K ((256*(32+i):Nat):Int) 32=0)=False:=eq_false c
   simp only[shift,bh,ae]at Y4
   simp only[AK,if_neg c]at fin
   generalize Y3 K i=st at hh r1 fin
   simp only[↓aj,ak,simprocAttr,aa,aX,hh,e0,e1,e2,hr,Y4,c1]
   exact fin _ _ ⟨by simp only[has,↓aj,ak,simprocAttr,aa,hh],r1,_,r0⟩
 ·rintro env rows ⟨hh,r1,⟨x0,r0⟩⟩ R
  simp only[has]at hh
  have YN:Y3 K 2=dJ K:=rfl
  rw[YN]at hh r1
  have e5:live (rows.set 0 (some ⟨SJ,[jD (dJ K).1]⟩)) 0=some ⟨SJ,[jD (dJ K).1]⟩:=aG r0
  simp only[↓aj,ak,simprocAttr,aa,aX,hh,r1,r0,cw,e5]
  exact .val _ rfl
 ·have:Y3 K 0=(eE,-1):=rfl
  rw[this]
  exact⟨by simp only[has,↓aj,ak,simprocAttr,aa],rfl,_,rfl⟩
theorem kReadJ{rows:Rows}{d:D}{K:FV}(h:MQ rows d K)(hl:mc K≤1048576)(k:D→Rows→Prop):aJ yN rows k [d]=k (.cA [jD (dJ K).1,.raw (it (dJ K).2)]) rows:=by
 refine(AF h (vs:=[]) rfl rfl (r:=(.cA [jD (dJ K).1,.raw (it (dJ K).2)],[])) ?_ (by simp[jD,bZ,fI,aS,Sh.pure]) k).trans ?_
 ·simp only[yN,Xa,bV wI,Option.bind_some,hl,decide_true,cond_true]
 ·simp[shift,bh,F6,ae]
def Um(x:List (BitVec 8)):JS×Int:=
 if x.length<8704 then(eE,-1)else
 bif (b7 (sub x 8192 32)).2&&(!(b7 (sub x 8448 32)).2||decide ((b7 (sub x 8448 32)).1.q≤(b7 (sub x 8192 32)).1.q))then((b7 (sub x 8192 32)).1,32)else
 bif (b7 (sub x 8448 32)).2 then((b7 (sub x 8448 32)).1,33)else(eE,-1)
theorem vW(x:List (BitVec 8))(e:Bool)(h:8704≤x.length):dJ (some (x,e))=Um x:=by
 have w1:ky (some (x,e)) ((256*32:Nat):Int) 32=0:=by simp only[ky];rw[if_neg (by omega)]
 have w2:ky (some (x,e)) ((256*33:Nat):Int) 32=0:=by simp only[ky];rw[if_neg (by omega)]
 unfold dJ AK Um
 rw[if_pos w1,if_pos w2,if_neg (by omega)]
 show(bif (b7 (sub x 8448 32)).2&&(decide ((bif (b7 (sub x 8192 32)).2&&(decide ((-1:Int)=-1)||decide (eE.q<(b7 (sub x 8192 32)).1.q))then((b7 (sub x 8192 32)).1,(32:Int))else(eE,-1)).2=-1)||decide ((bif (b7 (sub x 8192 32)).2&&(decide ((-1:Int)=-1)||decide (eE.q<(b7 (sub x 8192 32)).1.q))then((b7 (sub x 8192 32)).1,(32:Int))else(eE,-1)).1.q<(b7 (sub x 8448 32)).1.q))then((b7 (sub x 8448 32)).1,(33:Int))else bif (b7 (sub x 8192 32)).2&&(decide ((-1:Int)=-1)||decide (eE.q<(b7 (sub x 8192 32)).1.q))then((b7 (sub x 8192 32)).1,(32:Int))else(eE,-1))=_
 generalize b7 (sub x 8192 32)=A
 generalize b7 (sub x 8448 32)=B
 obtain⟨a,x1⟩:=A
 obtain⟨b,y1⟩:=B
 have hlt:decide (a.q<b.q)=!decide (b.q≤a.q):=by
  by_cases c:b.q≤a.q
  ·rw[decide_eq_true c,decide_eq_false (by rw[BitVec.lt_def];rw[BitVec.le_def]at c;omega)];rfl
  ·rw[decide_eq_false c,decide_eq_true (by rw[BitVec.lt_def];rw[BitVec.le_def]at c;omega)];rfl
 cases x1<;>cases y1<;>simp[hlt]<;>cases decide (b.q≤a.q)<;>simp
theorem Un{α β γ δ:Type}{rd:D→Option α}{rd':D→Option β}{DF:D→Option γ}{Z8:D→Option δ}{pre:α→β→γ→δ→Bool}{out:α→β→γ→δ→D×Rows}{rows:Rows}{d e f g:D}{a:α}{b:β}{c:γ}{z:δ}(h:bT rows rd d a)(h':bT rows rd' e b)(h2:bT rows DF f c)(h3:bT rows Z8 g z)(hp:pre a b c z=true)
  (hr:(bZ (out a b c z).1&&aS (out a b c z).2)=true)(k:D→Rows→Prop):
  aJ (fn4 rd rd' DF Z8 pre out) rows k [d,e,f,g]=k (shift rows.length (out a b c z).1) (rows++ae rows.length (out a b c z).2):=by
 obtain⟨⟨x,hx,hx'⟩,hn⟩:=h
 obtain⟨⟨y,hy,hy'⟩,hm⟩:=h'
 obtain⟨⟨u,hz,I5⟩,ho⟩:=h2
 obtain⟨⟨v,hw,hw'⟩,hq⟩:=h3
 refine rZ (ds':=[x,y,u,v]) (by simp only[cW,hx,hy,hz,hw]) (Yk hx' hy' I5 hw' hp) (fun hh=>?_) hr
 simp only[aN,Bool.or_eq_false_iff,and_true]at hh
 exact Yk (hn hh.1) (hm hh.2.1) (ho hh.2.2.1) (hq hh.2.2.2) hp
theorem bT.fl{rows:Rows}{r m:Nat}{x:List (BitVec 8)}(h:fG rows r m x):∃e,bT rows (b8 yJ) (.ptr SF r [0]) (some (x,e)):=by
 obtain⟨e,hv⟩:=h.view
 exact⟨e,⟨_,hv,bV wI _⟩,fun h=>by simp[aQ]at h⟩
theorem kAfterG{rows:Rows}{r m:Nat}{x:List (BitVec 8)}(h:fG rows r m x)(hx:x.length≤1048576)(i a:Int){d:D}{p:List (BitVec 8)}(hp:bc rows d p)(sO:p.length≤1048576)(h0:qT (some (x,false)) i a p=0)(k:D→Rows→Prop):
  aJ BS rows k [.ptr SF r [0],.raw (it i),.raw (it a),d]=k (.cA [.sl L8 rows.length [] 0 256 false,.raw (it 0)]) (rows++[some ⟨L8,bs (sx (some (x,false)) i a p)⟩]):=by
 obtain⟨e,hf⟩:=bT.fl h
 have hE:qT (some (x,e)) i a p=qT (some (x,false)) i a p:=rfl
 have hD:sx (some (x,e)) i a p=sx (some (x,false)) i a p:=rfl
 have ho:Hr (some (x,e)) i a p=(.cA [.sl L8 0 [] 0 256 false,.raw (it 0)],[some ⟨L8,bs (sx (some (x,false)) i a p)⟩]):=by
  rw[Hr,hE,if_pos h0,hD]
 refine(Un hf (.int i) (.int a) (.bs hp) (by simp[mc,hx,sO]) (by rw[ho];simp[bZ,fI,aS,Sh.pure]) k).trans ?_
 rw[ho]
 simp[shift,bh,ae,Sh.pure]
def eF:List (BitVec 8):=List.replicate 256 255#8
theorem YO:eF.length=256:=by rw[eF,List.length_replicate]
theorem ff_get(i:Nat)(h:i<256):eF.getD i 0#8=255#8:=Ys 256 i h
noncomputable def IK:Fn
 |[],[]=>some (.sl L8 0 [] 0 256 false,[some ⟨L8,bs eF⟩])
 | _,_=>none
theorem allf_ok(C:be)(hC:aI C P)(hr:C.fn 103=some oB):aO C.aZ P 57 (Fn.run IK):=by
 refine aH (Hd C hC) fun ds rows r h=>?_
 unfold IK at h
 split at h
 ·cases h
  refine⟨rfl,ag rfl ?_⟩
  unfold xq xu
  simp only[↓aj,ak,simprocAttr,aa,hr]
  refine Eq.mpr (Kf (b:=255#8) (bc.own (l:=[255#8]) rfl _ rfl) 256 (by omega) _) ?_
  rw[show List.replicate 256 255#8=eF from rfl]
  simp only[↓aj,ak,simprocAttr,aa]
  exact .own L8 _ 0 256 false false _ rfl rfl id
 ·cases h
theorem kAllF(rows:Rows)(k:D→Rows→Prop):aJ IK rows k []=k (.sl L8 (0+rows.length) [] 0 256 false) (rows++[some ⟨L8,bs eF⟩]):=by
 refine(bi rfl (r:=(.sl L8 0 [] 0 256 false,[some ⟨L8,bs eF⟩])) rfl).trans ?_
 simp only[shift,ae,Sh.pure,List.map_cons,List.map_nil,cond_true]
abbrev AL:Sh:= .cons L8 (.cons LI (.cons LI (.cons .ref (.cons LI (.cons dk .nil)))))
def opD(kind:BitVec 8)(page:Nat)(d:D):D:= .agg AL [.raw (u8 kind),.raw (it (page:Int)),.raw (it 0),d,.raw (it 0),.raw (u32 0#32)]
theorem op_g0(k:BitVec 8)(i:Nat)(d:D):(opD k i d).get [0]=some (.raw (u8 k)):=rfl
theorem op_g1(k:BitVec 8)(i:Nat)(d:D):(opD k i d).get [1]=some (.raw (it (i:Int))):=rfl
theorem op_g2(k:BitVec 8)(i:Nat)(d:D):(opD k i d).get [2]=some (.raw (it 0)):=rfl
theorem op_g3(k:BitVec 8)(i:Nat)(d:D):(opD k i d).get [3]=some d:=rfl
inductive KQ (rows:Rows) (m:Nat):BitVec 8→D→List (BitVec 8)→Prop where
 |er:KQ rows m 1#8 (.raw (.slice none 0 0)) []
 |wr (q:Nat) (p:List (BitVec 8)) (ex:Bool):live rows q=some ⟨L8,bs p⟩→0<p.length→p.length≤256→q≠m→KQ rows m 2#8 (.sl L8 q [] 0 p.length ex) p
theorem KQ.fits{rows:Rows}{m:Nat}{k:BitVec 8}{d:D}{p:List (BitVec 8)}(h:KQ rows m k d p)(i:Nat):(opD k i d).fits AL=true:=by
 cases h<;>rfl
theorem KQ.bs{rows:Rows}{m:Nat}{k:BitVec 8}{d:D}{p:List (BitVec 8)}(h:KQ rows m k d p)(L:Rows):bc (rows++L) d p:=by
 cases h with
 |er=>exact ec.to (.inl ⟨rfl,rfl⟩)
 |wr q p ex h1 h2 h3 h4=>exact bc.own (aA h1 L) _ rfl
theorem KQ.len{rows:Rows}{m:Nat}{k:BitVec 8}{d:D}{p:List (BitVec 8)}(h:KQ rows m k d p):p.length≤256:=by
 cases h with
 |er=>simp
 |wr q p ex h1 h2 h3 h4=>exact h3
def mo(x:List (BitVec 8))(i:Nat)(p w:List (BitVec 8)):List (BitVec 8):=Vb x i (sx (some (x,false)) i 0 p) w
theorem pJ(x:List (BitVec 8))(i:Nat)(p w:List (BitVec 8)):(mo x i p w).length=x.length:=Rb _ _ _ _
theorem Rp(x:List (BitVec 8))(i:Nat)(p:List (BitVec 8))(hp:p.length≤256)(hx:256*i+256≤x.length):(sx (some (x,false)) i 0 p).length=256:=by
 unfold sx
 split
 ·rw[List.length_replicate]
 ·have jO:(sub (nG (some (x,false))) (256*(i:Int).toNat) 256).length=256:=j9 (x:=x) (by omega)
  rw[show(0:Int).toNat=0 from rfl,iH _ _ _ (by omega),jO]
theorem tearB{rows:Rows}{r m q1 q2 n:Nat}{x w k:List (BitVec 8)}{Pj Jk:Bool}(h:fG rows r m x)(hx:x.length≤1048576)(Sw:live rows q1=some ⟨L8,bs w⟩)(hn:n=w.length)(N5:live rows q2=some ⟨L8,bs k⟩)(n1:m≠q1)(n2:m≠q2)(hw:w.length≤1048576)(Nz:k.length≤1048576)(i:Int)(hE:Yo x i=0){K:D→Rows→Prop}
  (hk:∀ab,Rc rows ab r m (Vb x i w k)→K (.raw (it 0)) ab):aR CF 4 cT cS [.ptr SF r [0],.raw (it i),.sl L8 q1 [] 0 n Pj,.sl L8 q2 [] 0 k.length Jk] rows K:=by
 subst hn
 refine tearA h hx Sw N5 n1 n2 hw Nz i fun ab U=>?_
 rw[hE]
 exact hk ab U
theorem Rc.of{rows L ab:Rows}{r m:Nat}{x:List (BitVec 8)}(h:Rc (rows++L) ab r m x):Rc rows ab r m x:=⟨h.fl,fun q row hq hn=>h.frame q row (aA hq L) hn⟩
set_option maxHeartbeats 1000000 in
theorem Uo(C:be){dc:D}{rows:Rows}{r m qm i:Nat}{ex:Bool}{kind:BitVec 8}{d:D}{x p w:List (BitVec 8)}(hF:fG rows r m x)(hx:x.length≤1048576)(hi:256*i+256≤x.length)(ho:KQ rows m kind d p)
  (hm:live rows qm=some ⟨L8,bs w⟩)(nm:m≠qm)(hw:w.length≤1048576)(h0:qT (some (x,false)) (i:Int) 0 p=0)
  (hA:C.fn 116=some BS)(nT:C.fn 117=none)(rT:C.fU 117=some (aR CF 4 cT cS)){K:D→Rows→Prop}
  (hk:∀ab,Rc rows ab r m (mo x i p w)→K (.raw (it 0)) ab):aR C 4 ig ie [.ptr SF r [0],dc,opD kind i d,.sl L8 qm [] 0 w.length ex] rows K:=by
 refine ag rfl ?_
 unfold ie ig
 have hE:Yo x (i:Int)=0:=by simp only[Yo,uC];rw[if_neg (by omega)]
 have hfit:=ho.fits i
 have hd:=Rp x i p ho.len hi
 have ka:=fun L k=>kAfterG (hF.push L) hx (i:Int) 0 (ho.bs L) (by have:=ho.len;omega) h0 k
 have lt:=hF.lt
 cases ho with
 |er=>
  simp only[↓aj,ak,simprocAttr,aa,aX,hfit,op_g0,op_g1,op_g2,op_g3,hA,ka,nT,rT]
  refine tearB (hF.push _) hx (w:=sx (some (x,false)) (i:Int) 0 []) (by rw[cD];rfl) hd.symm (aA hm _) (by omega) nm (by omega) hw _ hE fun ab U=>?_
  simp only[↓aj,ak,simprocAttr,aa]
  exact hk ab U.of
 |wr q p ex h1 h2 h3 h4=>
  have c0:((p.length:Int)=0)=False:=eq_false (by omega)
  simp only[↓aj,ak,simprocAttr,aa,aX,hfit,op_g0,op_g1,op_g2,op_g3,c0,hA,ka,nT,rT]
  refine tearB (hF.push _) hx (w:=sx (some (x,false)) (i:Int) 0 p) (by rw[cD];rfl) hd.symm (aA hm _) (by omega) nm (by omega) hw _ hE fun ab U=>?_
  simp only[↓aj,ak,simprocAttr,aa]
  exact hk ab U.of
structure JO where
 k:BitVec 8
 i:Nat
 d:D
 p:List (BitVec 8)
def JO.D(o:JO):Am.D:=opD o.k o.i o.d
def IL(x:List (BitVec 8))(l:List JO):List (BitVec 8):=l.foldl (fun x o=>mo x o.i o.p eF) x
theorem me(x:List (BitVec 8))(l:List JO):(IL x l).length=x.length:=by
 induction l generalizing x with
 |nil=>rfl
 |cons o l ih=>exact(ih _).trans (pJ _ _ _ _)
theorem YP(x:List (BitVec 8))(l:List JO)(j:Nat)(o:JO)(h:l[j]?=some o):IL x (l.take (j+1))=mo (IL x (l.take j)) o.i o.p eF:=by
 obtain⟨hj,rfl⟩:=List.getElem?_eq_some_iff.1 h
 rw[List.take_succ_eq_append_getElem hj,IL,List.foldl_append]
 rfl
theorem KQ.keep{rows ab:Rows}{m:Nat}{k:BitVec 8}{d:D}{p:List (BitVec 8)}(h:KQ rows m k d p)(f:∀q row,live rows q=some row→q≠m→live ab q=some row):KQ ab m k d p:=by
 cases h with
 |er=>exact .er
 |wr q p ex h1 h2 h3 h4=>exact .wr q p ex (f _ _ h1 h4) h2 h3 h4
set_option maxHeartbeats 1000000 in
theorem PF(C C0:be){dc:D}{rows:Rows}{r m ro n:Nat}{ex:Bool}{x:List (BitVec 8)}{ops:List JO}(hF:fG rows r m x)(hx:x.length≤1048576)(hro:live rows ro=some ⟨AL,ops.map JO.D⟩)(nro:ro≠m)(hn:ops.length=n)(hn2:n≤1048576)
  (hop:∀(j:Nat) (o:JO),ops[j]?=some o→KQ rows m o.k o.d o.p∧256*o.i+256≤x.length∧qT (some (IL x (ops.take j),false)) (o.i:Int) 0 o.p=0)
  (hA:C0.fn 116=some BS)(nT:C0.fn 117=none)(rT:C0.fU 117=some (aR CF 4 cT cS))
  (bY:C.fn 57=some IK)(nJ:C.fn 56=none)(rJ:C.fU 56=some (aR C0 4 ig ie)){K:D→Rows→Prop}
  (hk:∀ab,Rc rows ab r m (IL x ops)→K (.raw (it 0)) ab):aR C 3 fM fL [.ptr SF r [0],dc,.sl AL ro [] 0 n ex] rows K:=by
 subst hn
 refine ag rfl ?_
 unfold fL fM
 simp only[↓aj,ak,simprocAttr,aa]
 refine bB ops.length (fun j env rs=>has env [(12,.raw (it (j:Int))),(11,.raw (it (ops.length:Int))),(10,.sl AL ro [] 0 ops.length ex),(0,.ptr SF r [0]),(1,dc)]∧Rc rows rs r m (IL x (ops.take j))) ?_ ?_ ?_
 ·rintro j hj env rs ⟨hh,U⟩ R hR
  simp only[has]at hh
  have e0:((j:Int)<(ops.length:Int))=True:=eq_true (by omega)
  have e1:=cE j (by omega)
  obtain⟨o,ho⟩:∃o,ops[j]?=some o:=⟨_,List.getElem?_eq_getElem hj⟩
  obtain⟨b1,b2,b3⟩:=hop j o ho
  have g:(ops.map JO.D)[j]?=some (opD o.k o.i o.d):=by rw[List.getElem?_map,ho];rfl
  have hl:=U.frame _ _ hro nro
  have hlA:=fun L=>aA hl L
  have b1':=b1.keep U.frame
  have hfit:=b1.fits o.i
  have e2:((0:Int)≤(j:Int))=True:=eq_true (by omega)
  simp only[↓aj,ak,simprocAttr,aa,aX,hh,e0,e1,e2,hl,hlA,g,hfit,bY,kAllF,nJ,rJ]
  have lt:=U.fl.lt
  have hm:=cD rs [some ⟨AL,[opD o.k o.i o.d]⟩,some ⟨L8,bs eF⟩] 1
  refine Uo C0 (dc:=dc) (w:=eF) (U.fl.push _) (by rw[me];exact hx) (by rw[me];exact b2) (b1'.keep fun q row hq _=>aA hq _) (by rw[cD];rfl) (by omega) (by rw[YO];omega) b3 hA nT rT fun ab U'=>?_
  have hs:=YP x ops j o ho
  rw[←hs]at U'
  simp only[↓aj,ak,simprocAttr,aa,aX,hh,e1]
  refine hR _ _ ⟨by simp only[has,↓aj,ak,simprocAttr,aa,hh],U'.fl,fun q row hq hn=>U'.of.frame q row (U.frame q row hq hn) hn⟩
 ·rintro env rs ⟨hh,U⟩ R
  simp only[has]at hh
  rw[List.take_length]at U
  have e0:((ops.length:Int)<(ops.length:Int))=False:=eq_false (by omega)
  simp only[↓aj,ak,simprocAttr,aa,aX,hh,e0]
  exact hk _ U
 ·exact⟨by simp only[has,↓aj,ak,simprocAttr,aa],hF,fun q row hq _=>hq⟩
def fg(K:FV)(s:JS):JS:=⟨(dJ K).1.q+1#32,s.a,s.t,s.n⟩
def eG(K:FV):Nat:=if(dJ K).2=32 then 33 else 32
def j4(K:FV)(s:JS):Bool:=!decide ((dJ K).1.q+1#32=0#32)&&bK s
def jL(K:FV)(s:JS)(q:Nat):List JO:=[⟨1#8,eG K,.raw (.slice none 0 0),[]⟩,⟨2#8,eG K,.sl L8 q [] 0 32 false,cU (fg K s)⟩]
theorem Kr(x y:BitVec 32)(k:D→Prop):bE .eql (u32 x) (u32 y) k=k (.raw (.bool (decide (x=y)))):=by
 simp only[bE,u32]
 by_cases h:x=y
 ·subst h;simp
 ·have:¬(x.toNat:Int)=(y.toNat:Int):=fun e=>h (BitVec.eq_of_toNat_eq (by omega))
  simp[h,this]
theorem Rq(s:JS)(q:BitVec 32):(jD s).set [0] (.raw (u32 q))=some (jD ⟨q,s.a,s.t,s.n⟩):=rfl
def Sl(rows:Rows)(d:D)(p:List (BitVec 8)):Prop:=ec d p∨∃r ex,d= .sl L8 r [] 0 p.length ex∧live rows r=some ⟨L8,bs p⟩
theorem Sl.to{rows:Rows}{d:D}{p:List (BitVec 8)}(h:Sl rows d p):bc rows d p:=by
 rcases h with h|⟨r,ex,rfl,h⟩
 ·exact h.to
 ·exact bc.own h _ rfl
theorem Sl.keep{rows ab:Rows}{d:D}{p:List (BitVec 8)}(h:Sl rows d p)(f:∀q row,live rows q=some row→live ab q=some row):Sl ab d p:=by
 rcases h with h|⟨r,ex,rfl,h⟩
 ·exact .inl h
 ·exact .inr ⟨r,ex,rfl,f _ _ h⟩
theorem Made.sE{rows pK lN:Rows}{r m:Nat}{x y:List (BitVec 8)}(h:Made rows pK r m x)(U:Rc pK lN r m y):Made rows lN r m y:=
 ⟨U.fl,fun q row hq=>U.frame q row (h.frame q row hq) (by have:=bn hq;have:=h.hm;omega),h.hr,h.hm⟩
theorem Made.more{rows pK:Rows}{r m:Nat}{x:List (BitVec 8)}(h:Made rows pK r m x)(L:Rows):Made rows (pK++L) r m x:=
 ⟨h.fl.push L,fun q row hq=>aA (h.frame q row hq) L,h.hr,h.hm⟩
structure JC (C:be):Prop where
 nW:C.fn 45=none
 rW:C.fU 45=some (aR CF 3 dB dA)
 nN:C.fn 43=none
 rN:C.fU 43=some (aR CF 1 lj lh)
 cut:C.fn 17=some Tu
theorem IM{a b:List (BitVec 8)}(hl:a.length=b.length)(h:∀i,i<a.length→a.getD i 0#8=b.getD i 0#8):a=b:=by
 refine List.ext_getElem hl fun i h1 h2=>?_
 have:=h i h1
 simpa[List.getD,h1,h2]using this
theorem sub_congr{x y:List (BitVec 8)}(a n:Nat)(hl:x.length=y.length)(h:∀t,a≤t→t<a+n→x.getD t 0#8=y.getD t 0#8):sub x a n=sub y a n:=by
 refine IM (by simp only[sub,List.length_take,List.length_drop,hl]) fun i hi=>?_
 have hi':i<n:=by simp only[sub,List.length_take]at hi;omega
 rw[Kj _ _ _ _ hi',Kj _ _ _ _ hi']
 exact h _ (by omega) (by omega)
theorem erE0{x:List (BitVec 8)}{i:Nat}(hi:256*i+256≤x.length):Yo x (i:Int)=0:=by
 simp only[Yo,uC];rw[if_neg (by omega)]
theorem Na(x:List (BitVec 8))(i:Nat)(p w:List (BitVec 8))(hi:256*i+256≤x.length)(t:Nat)(ht:t<256*i∨256*i+256≤t):(mo x i p w).getD t 0#8=x.getD t 0#8:=by
 unfold mo Vb
 rw[if_pos (erE0 hi),Int.toNat_natCast]
 have hM:MU (sx (some (x,false)) (i:Int) 0 p) w≤256:=by unfold MU;omega
 rw[Ef _ _ _ _ _ _ (by omega),if_neg (by omega)]
theorem IN(x:List (BitVec 8))(i:Nat)(p:List (BitVec 8))(hp:p.length≤256)(hi:256*i+256≤x.length):sub (mo x i p eF) (256*i) 256=sx (some (x,false)) (i:Int) 0 p:=by
 have hd:=Rp x i p hp hi
 refine IM (by rw[hd];exact j9 (by rw[pJ];omega)) fun j hj=>?_
 have mr:j<256:=by rw[j9 (by rw[pJ];omega)]at hj;exact hj
 rw[Kj _ _ _ _ mr]
 unfold mo Vb
 rw[if_pos (erE0 hi),Int.toNat_natCast]
 have hM:MU (sx (some (x,false)) (i:Int) 0 p) eF=256:=by unfold MU;rw[hd,YO];rfl
 rw[hM,Ef _ _ _ _ _ _ (by omega),if_pos (by omega),Nat.add_sub_cancel_left,ff_get _ mr,teV_all]
theorem dat_nil(x:List (BitVec 8))(i:Int):sx (some (x,false)) i 0 []=eF:=by rw[sx,if_pos rfl,eF]
theorem err_nil{x:List (BitVec 8)}{i:Nat}(hi:256*i+256≤x.length):qT (some (x,false)) (i:Int) 0 []=0:=by
 have hP:uC (some (x,false)) (i:Int)=0:=erE0 hi
 rw[qT,if_neg (by rw[hP];simp),if_pos rfl]
theorem err_wr{x p:List (BitVec 8)}{i:Nat}(hi:256*i+256≤x.length)(hp:p.length≤256)(hs:sub x (256*i) 256=eF):qT (some (x,false)) (i:Int) 0 p=0:=by
 have hP:uC (some (x,false)) (i:Int)=0:=erE0 hi
 rw[qT,if_neg (by rw[hP];simp)]
 split
 ·rfl
 ·rw[if_neg (by omega),if_pos]
  rw[Int.toNat_natCast]
  show clears ((sub x (256*i) 256).drop 0) p
  rw[hs,List.drop_zero,eF]
  exact Pt _ _ hp
theorem dat_wr{x p:List (BitVec 8)}{i:Nat}(h0:0<p.length)(hp:p.length≤256)(hs:sub x (256*i) 256=eF):(sx (some (x,false)) (i:Int) 0 p).take p.length=p:=by
 have hne:p≠[]:=by intro h;rw[h]at h0;simp at h0
 rw[sx,if_neg hne,Int.toNat_natCast]
 show(a9 (sub x (256*i) 256) 0 p).take p.length=p
 rw[a9,List.take_zero,List.nil_append,List.take_left]
theorem YQ(x:List (BitVec 8))(a n k:Nat)(h:k≤n):sub x a k=(sub x a n).take k:=by
 simp only[sub,List.take_take];congr 1;omega
theorem vX(K:FV):eG K=32∨eG K=33:=by unfold eG;split<;>simp
theorem YR{x:List (BitVec 8)}{i:Nat}(hi:256*i+256≤x.length):sub (mo x i [] eF) (256*i) 256=eF:=by
 rw[IN x i [] (by simp) hi,dat_nil]
theorem Rr{x:List (BitVec 8)}{K:FV}{s:JS}{q:Nat}(hx:8704≤x.length):∀(j:Nat) (o:JO),(jL K s q)[j]?=some o→o.p.length≤256∧256*o.i+256≤x.length∧qT (some (IL x ((jL K s q).take j),false)) (o.i:Int) 0 o.p=0:=by
 have hi:256*eG K+256≤x.length:=by rcases vX K with h|h<;>rw[h]<;>omega
 intro j o h
 match j with
 |0=>cases h;exact⟨by simp,hi,err_nil hi⟩
 |1=>
  cases h
  refine⟨by rw[eY];omega,hi,?_⟩
  show qT (some (mo x (eG K) [] eF,false)) (eG K:Int) 0 (cU (fg K s))=0
  exact err_wr (by rw[pJ];exact hi) (by rw[eY];omega) (YR hi)
 |j+2=>cases h
theorem Up{x:List (BitVec 8)}{K:FV}{s:JS}{q:Nat}(hx:8704≤x.length):sub (IL x (jL K s q)) (256*eG K) 32=cU (fg K s):=by
 have hi:256*eG K+256≤x.length:=by rcases vX K with h|h<;>rw[h]<;>omega
 have Dn:256*eG K+256≤(mo x (eG K) [] eF).length:=by rw[pJ];exact hi
 show sub (mo (mo x (eG K) [] eF) (eG K) (cU (fg K s)) eF) (256*eG K) 32=_
 rw[YQ _ _ 256 32 (by omega),IN _ _ _ (by rw[eY];omega) Dn]
 have:=dat_wr (p:=cU (fg K s)) (by rw[eY];omega) (by rw[eY];omega) (YR hi)
 rwa [eY]at this
theorem AM{x:List (BitVec 8)}{K:FV}{s:JS}{q:Nat}(hx:8704≤x.length)(t:Nat)(ht:t<256*eG K∨256*eG K+256≤t):(IL x (jL K s q)).getD t 0#8=x.getD t 0#8:=by
 have hi:256*eG K+256≤x.length:=by rcases vX K with h|h<;>rw[h]<;>omega
 have Dn:256*eG K+256≤(mo x (eG K) [] eF).length:=by rw[pJ];exact hi
 show(mo (mo x (eG K) [] eF) (eG K) (cU (fg K s)) eF).getD t 0#8=_
 rw[Na _ _ _ _ Dn t ht,Na _ _ _ _ hi t ht]
def sA(A B:JS×Bool):JS×Int:=
 bif A.2&&(!B.2||decide (B.1.q≤A.1.q))then(A.1,32)else bif B.2 then(B.1,33)else(eE,-1)
theorem Nb(x:List (BitVec 8))(h:8704≤x.length):Um x=sA (b7 (sub x 8192 32)) (b7 (sub x 8448 32)):=by
 have hn:¬x.length<8704:=by omega
 unfold Um sA
 simp only[hn,if_false]
theorem Rs(A B:JS×Bool):((sA A B).2=32∧A.2=true∧(sA A B).1=A.1∧(B.2=true→B.1.q≤A.1.q))∨((sA A B).2=33∧B.2=true∧(sA A B).1=B.1∧(A.2=true→A.1.q<B.1.q))∨((sA A B).2=-1∧A.2=false∧B.2=false∧(sA A B).1=eE):=by
 obtain⟨a,x⟩:=A
 obtain⟨b,y⟩:=B
 by_cases c:b.q≤a.q
 ·cases x<;>cases y<;>simp[sA,c]
 ·have c':a.q<b.q:=by rw[BitVec.lt_def];rw[BitVec.le_def]at c;omega
  cases x<;>cases y<;>simp[sA,c,c']
theorem PG{x:List (BitVec 8)}{e:Bool}{s:JS}{q:Nat}(hx:8704≤x.length)(h:eG (some (x,e))=33):sub (IL x (jL (some (x,e)) s q)) 8192 32=sub x 8192 32:=
 sub_congr _ _ (me _ _) fun t h1 h2=>AM hx t (by rw[h];omega)
theorem PH{x:List (BitVec 8)}{e:Bool}{s:JS}{q:Nat}(hx:8704≤x.length)(h:eG (some (x,e))=32):sub (IL x (jL (some (x,e)) s q)) 8448 32=sub x 8448 32:=
 sub_congr _ _ (me _ _) fun t h1 h2=>AM hx t (by rw[h];omega)
theorem PI(K:FV)(s:JS):bK (fg K s)=bK s:=by
 unfold fg
 generalize (dJ K).1.q+1#32=z
 rfl
theorem YS{x:List (BitVec 8)}{e:Bool}{s:JS}{q:Nat}(hx:8704≤x.length)(hb:j4 (some (x,e)) s=true):Um (IL x (jL (some (x,e)) s q))=(fg (some (x,e)) s,(eG (some (x,e)):Int)):=by
 have hr:=vW x e hx
 have hp:=Nb x hx
 have hrt:bK (fg (some (x,e)) s)=true:=by
  simp only[j4,Bool.and_eq_true]at hb
  exact(PI _ s).trans hb.2
 have hpb:=M9 _ hrt
 have hne:¬(dJ (some (x,e))).1.q+1#32=0#32:=by
  simp only[j4,Bool.and_eq_true,Bool.not_eq_true',decide_eq_false_iff_not]at hb
  exact hb.1
 have hlt:(dJ (some (x,e))).1.q<(fg (some (x,e)) s).q:=by
  show(dJ (some (x,e))).1.q<(dJ (some (x,e))).1.q+1#32
  generalize (dJ (some (x,e))).1.q=z at hne
  rw[BitVec.lt_def,BitVec.toNat_add]
  have h1:z.toNat+1≠4294967296:=fun h=>hne (by
   apply BitVec.eq_of_toNat_eq
   rw[BitVec.toNat_add]
   show(z.toNat+1) %4294967296=0
   rw[h])
  have:=z.isLt
  show z.toNat<(z.toNat+1) %4294967296
  omega
 rw[Nb _ (by rw[me];exact hx)]
 have Rt:=Up (x:=x) (K:=some (x,e)) (s:=s) (q:=q) hx
 rw[hr,hp]at hlt
 by_cases c:(dJ (some (x,e))).2=32
 ·have h33:eG (some (x,e))=33:=if_pos c
  rw[PG hx h33]
  rw[h33]at Rt
  rw[Rt,hpb,h33]
  rw[hr,hp]at c
  rcases Rs (b7 (sub x 8192 32)) (b7 (sub x 8448 32))with⟨g1,g2,g3,g4⟩|⟨g1,g2,g3,g4⟩|⟨g1,g2,g3,g4⟩
  ·rw[g3]at hlt
   generalize b7 (sub x 8192 32)=A at hlt g2
   obtain⟨a,xa⟩:=A
   cases g2
   have hlt:a.q<(fg (some (x,e)) s).q:=hlt
   have:¬(fg (some (x,e)) s).q≤a.q:=by rw[BitVec.le_def];rw[BitVec.lt_def]at hlt;omega
   simp[sA,this]
  ·rw[g1]at c;cases c
  ·rw[g1]at c;cases c
 ·have p8:eG (some (x,e))=32:=if_neg c
  rw[PH hx p8]
  rw[p8]at Rt
  rw[Rt,hpb,p8]
  rw[hr,hp]at c
  rcases Rs (b7 (sub x 8192 32)) (b7 (sub x 8448 32))with⟨g1,g2,g3,g4⟩|⟨g1,g2,g3,g4⟩|⟨g1,g2,g3,g4⟩
  ·exact absurd g1 c
  ·rw[g3]at hlt
   generalize b7 (sub x 8448 32)=B at hlt g2
   obtain⟨b,xb⟩:=B
   cases g2
   have hlt:b.q<(fg (some (x,e)) s).q:=hlt
   have:b.q≤(fg (some (x,e)) s).q:=by rw[BitVec.le_def];rw[BitVec.lt_def]at hlt;omega
   simp[sA,this]
  ·generalize b7 (sub x 8448 32)=B at g3
   obtain⟨b,xb⟩:=B
   cases g3
   simp[sA]
def vwAt(x bH:List (BitVec 8))(least:Int)(i n:Nat):D:=
 if gT x bH least i=0 then yM 0 (gq x i).1 (.sl L8 n [] 0 (gq x i).2.2.1.length false)else yM (gT x bH least i) eS (.raw (.slice none 0 0))
def vwR(x bH:List (BitVec 8))(least:Int)(i:Nat):Rows:=if gT x bH least i=0 then[some ⟨L8,bs (gq x i).2.2.1⟩]else[]
theorem fG.rd{rows:Rows}{r m:Nat}{x:List (BitVec 8)}(h:fG rows r m x):∃e,bT rows (b8 yJ) (.ptr SF r [0]) (some (x,e)):=by
 obtain⟨e,hv⟩:=h.view
 exact⟨e,⟨_,hv,bV wI _⟩,fun h=>by simp[aQ]at h⟩
theorem kLook{rows:Rows}{f m:Nat}{x bH:List (BitVec 8)}{dp:D}(hF:fG rows f m x)(hx:x.length=10240)(hp:bc rows dp bH)(sG:bH.length≤1000)(least:Int)(i:Nat)(hi:i≤1)(k:D→Rows→Prop):
  aJ M8 rows k [.ptr SF f [0],dp,.raw (it least),.raw (it (i:Int))]=k (vwAt x bH least i rows.length) (rows++vwR x bH least i):=by
 obtain⟨e,hr⟩:=hF.rd
 refine(vO hr (.bs hp) (.int _) (.int _) (by simp[mc,hx,sG];omega) ?_ k).trans ?_
 ·simp only[Uk,yM,cO]
  split<;>simp[bZ,fI,aS,Sh.pure]
 ·simp only[Uk,vwAt,vwR,Int.toNat_natCast,nG]
  by_cases c:gT x bH least i=0<;>simp[c,yM,cO,shift,bh,ae,Sh.pure]
theorem YT(C:be)(hC:aI C P):aO C.aZ P 130 (Fn.run Au):=by
 refine aH (Hh C hC) fun ds rows r h=>?_
 obtain⟨d,i,rfl,rfl,hd,hp,rfl⟩:=a8 h
 cases bX hd
 refine⟨rfl,ag rfl ?_⟩
 clear h hd
 unfold xD xE iE
 by_cases c0:i=0
 ·simp only[↓aj,ak,simprocAttr,aa,c0,decide_true,Bool.true_or]
  exact .val _ rfl
 ·simp only[↓aj,ak,simprocAttr,aa,c0,decide_false,Bool.false_or]
  exact .val _ rfl
structure Cho where
 i:Int
 s:JS
 c:Bool
 t:Bool
 e:Int
abbrev SCo:Sh:= .cons LI (.cons SJ (.cons LB (.cons LB (.cons LI .nil))))
def KR(c:Cho):D:= .agg SCo [.raw (it c.i),jD c.s,.raw (.bool c.c),.raw (.bool c.t),.raw (it c.e)]
def rdBo:D→Option Bool
 | .raw (.bool b)=>some b
 | _=>none
theorem Uq{d:D}{b:Bool}(h:rdBo d=some b):d= .raw (.bool b):=by
 unfold rdBo at h
 split at h
 ·cases h;rfl
 ·cases h
noncomputable def Ek:Fn:=Xu rC (b8 jD) (b8 jD) rdBo (fun _ _ _ _=>true) fun i n w t=>(KR ⟨i,n,!decide (n=w),t,0⟩,[])
theorem Ur(C:be)(hC:aI C P):aO C.aZ P 134 (Fn.run Ek):=by
 refine aH (Dz C hC) fun ds rows r h=>?_
 obtain⟨d0,d1,d2,d3,i,n,w,t,rfl,rfl,hd,he,hf,hg,hp,rfl⟩:=sc h
 cases bX hd
 cases aF he
 cases aF hf
 cases Uq hg
 refine⟨rfl,ag rfl ?_⟩
 clear h hd he hf hg
 unfold tX tY
 have hz:D.agg SJ [.raw (u32 0#32),.raw (it 0),.raw (it 0),.raw (it 0)]=jD ⟨0#32,0,0,0⟩:=rfl
 have e:=Pc n w
 simp only[hz]
 simp only[↓aj,ak,simprocAttr,aa,aX,cw,e]
 exact .val _ rfl
theorem kChosen(rows:Rows)(k:D→Rows→Prop)(i:Int)(n w:JS)(t:Bool):aJ Ek rows k [.raw (it i),jD n,jD w,.raw (.bool t)]=k (KR ⟨i,n,!decide (n=w),t,0⟩) rows:=by
 refine(bi rfl (O4 (nS i) (bV yG n) (bV yG w) (x3:=t) rfl rfl)).trans ?_
 simp[KR,jD,shift,bh,ae,Sh.pure]
def El(e0 e1 i:Int):Bool:=(decide (i=0)&&decide (e0=0))||(decide (i=1)&&decide (e1=0))
def pL(iI:Int)(s:JS)(e0 e1:Int):Cho:=
 if iI=4 then⟨-1,s,false,false,17⟩else if iI<1∨3<iI then⟨-1,s,false,false,14⟩else
 bif El e0 e1 s.t&&decide (s.n<3)then⟨s.t,⟨s.q,s.a,s.t,s.n+1⟩,true,true,0⟩else
 bif El e0 e1 s.a then⟨s.a,⟨s.q,s.a,-1,0⟩,!decide ((⟨s.q,s.a,-1,0⟩:JS)=s),false,0⟩else
 bif El e0 e1 (1-s.a)then⟨1-s.a,⟨s.q,1-s.a,-1,0⟩,!decide ((⟨s.q,1-s.a,-1,0⟩:JS)=s),false,0⟩else
 ⟨-1,⟨s.q,s.a,-1,0⟩,!decide ((⟨s.q,s.a,-1,0⟩:JS)=s),false,3⟩
def e2D(x:Int×Int):D:= .agg (.ar 2 LI) [.raw (it x.1),.raw (it x.2)]
theorem e2D_inj(x y:Int×Int)(h:e2D x=e2D y):x=y:=by
 simp only[e2D,D.agg.injEq,List.cons.injEq,D.raw.injEq,E9,and_true,true_and]at h
 exact Prod.ext h.1 h.2
noncomputable def Us:Fn:=G2 rC (b8 jD) (b8 e2D) (fun _ s _=>bK s) fun l s x=>(KR (pL l s x.1 x.2),[])
theorem vY(C C1:be)(hs:C1.fn 130=some Au){rows:Rows}{r:Nat}{e0 e1 i:Int}(hr:live rows r=some ⟨.ar 2 LI,[e2D (e0,e1)]⟩){K:D→Rows→Prop}(hk:K (.raw (.bool (El e0 e1 i))) rows):
  aR C1 2 gK gJ [.raw (it i),.ptr (.ar 2 LI) r [0]] rows K:=by
 refine ag rfl ?_
 unfold gJ gK
 have ks:=fun rows k=>XF rows k i
 unfold El at hk
 simp only[e2D]at hr
 by_cases c0:i=0
 ·subst c0
  simp only[↓aj,ak,simprocAttr,aa,hs,ks,iE,hr]
  simpa using hk
 ·by_cases c1:i=1
  ·subst c1
   simp only[↓aj,ak,simprocAttr,aa,hs,ks,iE,hr]
   simpa using hk
  ·simp only[↓aj,ak,simprocAttr,aa,hs,ks,iE,c0,c1]
   simpa[c0,c1]using hk
theorem sel_ok(C C1:be)(hC:aI C P)(hs:C1.fn 130=some Au)(hc:C.fn 134=some Ek)(n0:C.fn 133=none)(r0:C.fU 133=some (aR C1 2 gK gJ)):aO C.aZ P 70 (Fn.run Us):=by
 refine aH (Dt C hC) fun ds rows r h=>?_
 obtain⟨d0,d1,d2,l,s,⟨e0,e1⟩,rfl,rfl,hd,he,hf,hp,rfl⟩:=fq h
 cases bX hd
 cases aF he
 cases aF hf
 refine⟨rfl,ag rfl ?_⟩
 clear h hd he hf
 unfold tL tM
 have hz:D.agg SJ [.raw (u32 0#32),.raw (it 0),.raw (it 0),.raw (it 0)]=jD ⟨0#32,0,0,0⟩:=rfl
 have ef:(e2D (e0,e1)).fits (.ar 2 LI)=true:=rfl
 have hmb:IY 133 []=false:=rfl
 simp only[hz,pL]
 by_cases c1:l=4
 ·have T7:(l=4)=True:=eq_true c1
  simp only[↓aj,ak,simprocAttr,aa,aX,cw,ef,T7,if_true]
  exact .val _ rfl
 have T7:(l=4)=False:=eq_false c1
 by_cases c2:l<1
 ·have Z9:(l<1)=True:=eq_true c2
  simp only[↓aj,ak,simprocAttr,aa,aX,cw,ef,T7,Z9,if_true,if_false,true_or]
  exact .val _ rfl
 have Z9:(l<1)=False:=eq_false c2
 by_cases c3:3<l
 ·have PC:(3<l)=True:=eq_true c3
  simp only[↓aj,ak,simprocAttr,aa,aX,cw,ef,T7,Z9,PC,if_true,if_false,or_true]
  exact .val _ rfl
 have PC:(3<l)=False:=eq_false c3
 have kc:=fun rows k=>kChosen rows k
 obtain⟨q,a,t,n⟩:=s
 have hr:(a=0∨a=1)∧0≤n∧n≤3:=by
  simp only[bK,iE,Bool.and_eq_true,Bool.or_eq_true,decide_eq_true_eq]at hp
  exact⟨hp.1.1.1,hp.1.2,hp.2⟩
 clear hp hz hmb
 have js1:∀s v,(jD s).set [1] (.raw (it v))=some (jD ⟨s.q,v,s.t,s.n⟩):=fun _ _=>rfl
 have js2:∀s v,(jD s).set [2] (.raw (it v))=some (jD ⟨s.q,s.a,v,s.n⟩):=fun _ _=>rfl
 have js3:∀s v,(jD s).set [3] (.raw (it v))=some (jD ⟨s.q,s.a,s.t,v⟩):=fun _ _=>rfl
 have w1:wz (n+1)=n+1:=bf (by omega)
 have w2:wz (1-a)=1-a:=bf (by omega)
 have cf:∀c,(KR c).fits SCo=true:=fun _=>rfl
 have hne:(⟨q,a,t,n+1⟩:JS)≠⟨q,a,t,n⟩:=fun h=>by injection h;omega
 have Cj:decide ((⟨q,a,t,n+1⟩:JS)=⟨q,a,t,n⟩)=false:=decide_eq_false hne
 simp only[↓aj,ak,simprocAttr,aa,aX,cw,ef,T7,Z9,PC,if_false,or_self,uh,As,QN,n0,r0]
 refine⟨rfl,vY C C1 hs rfl ?_⟩
 cases k1:El e0 e1 t&&decide (n<3)with
 |true=>
  obtain⟨k2,k3⟩:=Bool.and_eq_true_iff.1 k1
  have k3':(n<3)=True:=eq_true (of_decide_eq_true k3)
  simp only[↓aj,ak,simprocAttr,aa,aX,k2,k3',cw,As,QN,js3,w1,hc,kc,Cj,cf]
  exact .val _ rfl
 | false =>
  simp only[cond_false]
  have k4:El e0 e1 t=false∨El e0 e1 t=true∧(n<3)=False:=by
   cases h:El e0 e1 t
   ·exact .inl rfl
   ·rw[h,Bool.true_and]at k1
    exact .inr ⟨rfl,eq_false (of_decide_eq_false k1)⟩
  rcases k4 with k2|⟨k2,k3⟩
  ·simp only[↓aj,ak,simprocAttr,aa,aX,k2,cw,uh,js2,js3,n0,r0]
   refine⟨rfl,vY C C1 hs rfl ?_⟩
   cases k5:El e0 e1 a with
   |true=>
    simp only[↓aj,ak,simprocAttr,aa,aX,k5,cw,uh,hc,kc,cf]
    exact .val _ rfl
   | false =>
    simp only[↓aj,ak,simprocAttr,aa,aX,k5,cw,uh,w2,n0,r0]
    refine⟨rfl,vY C C1 hs rfl ?_⟩
    cases k6:El e0 e1 (1-a)with
    |true=>
     simp only[↓aj,ak,simprocAttr,aa,aX,k6,cw,js1,hc,kc,cf]
     exact .val _ rfl
    |false=>
     simp only[↓aj,ak,simprocAttr,aa,aX,k6,cw,Pc]
     exact .val _ rfl
  ·simp only[↓aj,ak,simprocAttr,aa,aX,k2,k3,cw,uh,QN,js2,js3,n0,r0]
   refine⟨rfl,vY C C1 hs rfl ?_⟩
   cases k5:El e0 e1 a with
   |true=>
    simp only[↓aj,ak,simprocAttr,aa,aX,k5,cw,uh,hc,kc,cf]
    exact .val _ rfl
   | false =>
    simp only[↓aj,ak,simprocAttr,aa,aX,k5,cw,uh,w2,n0,r0]
    refine⟨rfl,vY C C1 hs rfl ?_⟩
    cases k6:El e0 e1 (1-a)with
    |true=>
     simp only[↓aj,ak,simprocAttr,aa,aX,k6,cw,js1,hc,kc,cf]
     exact .val _ rfl
    |false=>
     simp only[↓aj,ak,simprocAttr,aa,aX,k6,cw,Pc]
     exact .val _ rfl
theorem kSel(rows:Rows)(k:D→Rows→Prop)(l:Int)(s:JS)(hs:bK s=true)(e0 e1:Int):aJ Us rows k [.raw (it l),jD s,.agg (.ar 2 LI) [.raw (it e0),.raw (it e1)]]=k (KR (pL l s e0 e1)) rows:=by
 refine(bi rfl (r:=(KR (pL l s e0 e1),[])) ?_).trans ?_
 ·have h:=bV e2D_inj (e0,e1)
  simp only[Us,yD,nS,bV yG,Option.bind_some,hs]
  rw[show D.agg (.ar 2 LI) [.raw (it e0),.raw (it e1)]=e2D (e0,e1)from rfl,h]
  rfl
 ·simp[KR,jD,shift,bh,ae,Sh.pure]
end iC
end Go.Am

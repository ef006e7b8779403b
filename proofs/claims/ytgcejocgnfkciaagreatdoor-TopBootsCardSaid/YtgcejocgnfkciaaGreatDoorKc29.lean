import Derived.Test.YtgcejocgnfkciaaGreatDoorKc28
namespace Go.Am
set_option linter.unusedSimpArgs false
set_option linter.unusedVariables false
attribute [local congr] cd bt cg bu bw bO bg bx bz bP a7 bQ bA b9
namespace iC
open Go.Am.F
set_option maxRecDepth 10000
def B4:List (BitVec 8):=List.replicate 10240 255#8
noncomputable def oC(p0 p1:List (BitVec 8)):List (BitVec 8):=NC (NC B4 0 (p0.take 4096)) 4096 (p1.take 4096)
def z16L:List (BitVec 8):=List.replicate 16 0#8
theorem P7:List.replicate 16 (D.raw (u8 0#8))=bs z16L:=rfl
theorem z16_set:(bs z16L).set 0 (.raw (u8 2#8))=bs idL:=rfl
structure AS (n:Nat) (rows R:Rows) (x:List (BitVec 8)) (c:pU):Prop where
 k:eJ rows R
 f:fG R (n+3) (n+2) x
 c:sv R (n+6) (n+5) (n+4) c
theorem AS.push{n:Nat}{rows R:Rows}{x:List (BitVec 8)}{c:pU}(h:AS n rows R x c)(l:Rows):AS n rows (R++l) x c:=⟨h.k.trans (eJ.app _ _),h.f.push l,h.c.push l⟩
theorem AS.wr{rows R R':Rows}{x y:List (BitVec 8)}{c:pU}(h:AS rows.length rows R x c)(U:Rc R R' (rows.length+3) (rows.length+2) y):AS rows.length rows R' y c:=
 ⟨fun q row hq=>U.frame q row (h.k q row hq) (by have:=bn hq;omega),U.fl,h.c.keep fun p row hp hq=>U.frame p row hp (by omega)⟩
theorem AS.pr{rows R R':Rows}{x:List (BitVec 8)}{c c':pU}(h:AS rows.length rows R x c)(hc:sv R' (rows.length+6) (rows.length+5) (rows.length+4) c')(f:∀p row,live R p=some row→p≠rows.length+4→live R' p=some row):AS rows.length rows R' x c':=by
 obtain⟨⟨e,g1⟩,g2⟩:=h.f
 exact⟨fun q row hq=>f q row (h.k q row hq) (by have:=bn hq;omega),⟨⟨e,f _ _ g1 (by omega)⟩,f _ _ g2 (by omega)⟩,hc⟩
structure LayC (C:be):Prop where
 f0:C.fn 43=none
 f1:C.fU 43=some (aR CF 1 lj lh)
 o0:C.fn 44=none
 o1:∃C1 C2,C.fU 44=some (aR C1 0 rL rK)∧C1.fn 104=none∧C1.fU 104=some (aR C2 1 mL mK)
 cu:C.fn 17=some Tu
 w0:C.fn 45=none
 w1:C.fU 45=some (aR CF 3 dB dA)
 ke:C.fn 46=some J7
 ct:C.fn 48=some J6
 li:C.fn 49=some Ea
 d0:C.fn 47=none
 d1:∃C1 C2 C3,C.fU 47=some (aR C1 2 jW jV)∧PrgC C3 C2 C1
 n0:C.fn 20=none
 n1:∃C1,C.fU 20=some (aR C1 2 gE gC)∧NmC C1
set_option maxHeartbeats 1000000 in
theorem Nr(C:be)(H:LayC C){rows:Rows}{d s0 s1:D}{bH p0 p1:List (BitVec 8)}(n m:Nat)(hn:n≤255)(hm:m<4)(hd:∀R,eJ rows R→bc R d bH)(hpub:bH.length=56)(h0:∀R,eJ rows R→bc R s0 p0)(h1:∀R,eJ rows R→bc R s1 p1)(l0:p0.length≤9223372036854775807)(l1:p1.length≤9223372036854775807)
  (hf0:s0.fits .ref=true)(hf1:s1.fits .ref=true){K:D→Rows→Prop}
  (hk:∀ab L,eJ rows ab→(∀x∈[L.M,L.s,L.m,L.e,L.sl,L.q,L.w],rows.length≤x)→fB ab L ⟨0,w9,oC p0 p1,GQ bH n m⟩→DS ab L zR sl8→K (.ptr jb L.M [0]) ab):
  aR C 4 rI rH [d,.agg (.ar 2 .ref) [s0,s1],.raw (it (n:Int)),.raw (it ((m+1:Nat):Int))] rows K:=by
 refine ag rfl ?_
 unfold rH rI
 obtain⟨C1,C2,o1,o2,o3⟩:=H.o1
 obtain⟨D1,D2,D3,dd,hP⟩:=H.d1
 obtain⟨N1,nn,hN⟩:=H.n1
 simp only[-List.reduceReplicate,P7]
 simp only[↓aj,ak,simprocAttr,aa,aX,H.f0,H.f1]
 have e40:(40:Int)=((40:Nat):Int):=rfl
 rw[e40]
 refine Yq 40 (by decide) ?_
 have hx0:B4.length=10240:=List.length_replicate ..
 rw[show List.replicate (256*40) 255#8=B4 from rfl]
 have hF0:fG (rows++[some ⟨.ar 2 .ref,[.agg (.ar 2 .ref) [s0,s1]]⟩,some ⟨L8,[.raw (u8 255#8)]⟩,some ⟨L8,bs B4⟩,some ⟨SF,[.agg SF [.sl L8 (rows.length+2) [] 0 10240 false]]⟩]) (rows.length+3) (rows.length+2) B4:=⟨⟨false,by rw[hx0];exact cD rows _ 3⟩,cD rows _ 2⟩
 have Vd:=eJ.app rows [some ⟨.ar 2 .ref,[.agg (.ar 2 .ref) [s0,s1]]⟩,some ⟨L8,[.raw (u8 255#8)]⟩,some ⟨L8,bs B4⟩,some ⟨SF,[.agg SF [.sl L8 (rows.length+2) [] 0 10240 false]]⟩]
 have hsl1:=b6 rows [some ⟨.ar 2 .ref,[.agg (.ar 2 .ref) [s0,s1]]⟩,some ⟨L8,[.raw (u8 255#8)]⟩,some ⟨L8,bs B4⟩,some ⟨SF,[.agg SF [.sl L8 (rows.length+2) [] 0 10240 false]]⟩]
 simp only[↓aj,ak,simprocAttr,aa,aX,H.o0,o1]
 refine Yb C1 C2 o2 o3 fun R2 hK2 hC2=>?_
 have hsl2:=hK2 _ _ hsl1
 have hI2:AS rows.length rows R2 B4 DM:=by
  obtain⟨⟨e,g1⟩,g2⟩:=hF0
  exact⟨Vd.trans hK2,⟨⟨e,hK2 _ _ g1⟩,hK2 _ _ g2⟩,by simpa using hC2⟩
 clear hC2 hF0 Vd hsl1
 have kC0:=fun k=>Zz (h0 R2 hI2.k) 4096 l0 (by decide) k
 simp only[↓aj,ak,simprocAttr,aa,aX,hsl2]
 refine fX 3 ?_
 simp only[↓aj,ak,simprocAttr,aa,aX,H.cu,kC0,H.w0,H.w1]
 refine Yr (hI2.f.push _) (b6 R2 _) (by rw[hx0];decide) (by rw[List.length_take];omega) 0 fun R3 U3=>?_
 have hI3:=(hI2.push _).wr U3
 have kC1:=fun k=>Zz (h1 R3 hI3.k) 4096 l1 (by decide) k
 simp only[↓aj,ak,simprocAttr,aa,aX,H.cu,kC1,H.w0,H.w1]
 have pS:(NC B4 0 (p0.take 4096)).length=10240:=by rw[AG];exact hx0
 refine Yr (hI3.f.push _) (b6 R3 _) (by rw[pS];decide) (by rw[List.length_take];omega) 4096 fun R4 U4=>?_
 have hI4:AS rows.length rows R4 (oC p0 p1) DM:=(hI3.push _).wr U4
 have kK:=fun k=>kToKey (hI4.c.rd) v8 (hd R4 hI4.k) hpub (by decide) (fun w hw=>by rw[P2]at hw;exact List.eq_of_mem_replicate (List.mem_of_mem_drop hw)) k
 simp only[-List.reduceReplicate,↓aj,ak,simprocAttr,aa,aX,z16_set,H.ke,kK,H.d0,dd]
 have Mj:=GP DM 9 (DT bH) (by rw[v7,v8];decide) fun k _ _=>P3 k
 refine Ke D1 D2 D3 hP (hI4.push _).c (b6 R4 _) rfl (Nat.le_trans (si _ _ _ _) (by rw[v7];decide)) Mj.1 fun R5 hC5 hF5=>?_
 have hI5:AS rows.length rows R5 (oC p0 p1) (KC bH):=(hI4.push _).pr hC5 hF5
 have lf0:dH (P0 bH n)=0:=by unfold dH;rw[KD];show CX 0#32 4=0;decide
 have ct0:iS (KC bH)≤n:=by
  unfold iS
  have e:((KC bH).w.drop 1).take 8=List.replicate 8 0#32:=by
   rw[P4,List.append_assoc,List.drop_append_of_le_length (by simp),List.take_append_of_le_length (by simp)]
   rfl
  rw[e]
  exact Nat.le_trans (by decide) (Nat.zero_le n)
 have kN:=fun k=>kToCtr (hI5.c.rd) (v9 bH) n hn ct0 k
 simp only[↓aj,ak,simprocAttr,aa,aX,H.ct,kN,H.d0,dd]
 have sG:=GP (KC bH) 1 (p9 n) (by rw[iz,v9];decide) fun k _ h=>P5 bH k (by rw[iz]at h;omega)
 refine Ke D1 D2 D3 hP (hI5.push _).c (b6 R5 _) rfl (Nat.le_trans (si _ _ _ _) (by rw[iz];decide)) sG.1 fun R6 hC6 hF6=>?_
 have hI6:AS rows.length rows R6 (oC p0 p1) (P0 bH n):=(hI5.push _).pr hC6 hF6
 have kL:=fun k=>kToLife (hI6.c.rd) (GR bH n) m hm (by rw[lf0];omega) k
 simp only[↓aj,ak,simprocAttr,aa,aX,H.li,kL,H.d0,dd]
 have hp3:=GP (P0 bH n) 0 [255#32<<<(8*m)] (by rw[GR];exact Nat.le_of_ble_eq_true rfl) fun k _ h=>by
  have:k=0:=by simpa using h
  subst this
  rw[KD];rfl
 refine Ke D1 D2 D3 hP (hI6.push _).c (b6 R6 _) rfl (Nat.le_trans (si _ _ _ _) (Nat.le_of_ble_eq_true rfl)) hp3.1 fun R7 hC7 hF7=>?_
 have hI7:AS rows.length rows R7 (oC p0 p1) (GQ bH n m):=(hI6.push _).pr hC7 hF7
 simp only[↓aj,ak,simprocAttr,aa,aX,H.n0,nn]
 have zj:(oC p0 p1).length=10240:=by rw[oC,AG];exact pS
 refine nm_run N1 hN hI7.f zj hI7.c fun R8 L hK8 e1 e2 e3 e4 e5 e6 hM hE=>?_
 simp only[↓aj,ak,simprocAttr,aa,aX]
 have hgr:rows.length≤R7.length:=by
  have:=hI7.f.lt.2
  omega
 simp only[List.mem_cons,List.not_mem_nil,or_false,forall_eq_or_imp,forall_eq]at e6
 exact hk R8 L (hI7.k.trans hK8) (by simp only[List.mem_cons,List.not_mem_nil,or_false,forall_eq_or_imp,forall_eq];omega) hM hE
end iC
end Go.Am
namespace Go.Am
set_option linter.unusedSimpArgs false
set_option linter.unusedVariables false
namespace iC
open Go.Am.F
set_option maxRecDepth 10000
theorem UI{q r:List (BitVec 8)}(h:(cR q).2.2.2=0):cR (q++r)=cR q:=by
 have h50:=Rn h
 obtain⟨-,s,hs,-,-,-,hn⟩:=BW h
 have t48:(q++r).take 48=q.take 48:=List.take_append_of_le_length (by omega)
 have g:∀i,i<q.length→(q++r).getD i 0#8=q.getD i 0#8:=fun i hi=>by
  rw[List.getD_eq_getElem?_getD,List.getD_eq_getElem?_getD,List.getElem?_append_left hi]
 have hsg:eZ (q++r)=eZ q:=by unfold eZ;rw[g 48 (by omega),g 49 (by omega)]
 revert h hs
 unfold cR
 rw[t48,hsg,List.length_append]
 cases d1:decide (q.length<50)
 ·have e1:decide (q.length+r.length<50)=false:=decide_eq_false (by omega)
  rw[e1]
  cases d2:decide ((cZ (q.take 48)).2≠0)
  ·cases d3:decide ((q.length:Int)<50+eZ q+(cZ (q.take 48)).1.s)
   ·intro _ hs
    simp only[cond_false]at hs⊢
    have d3:=of_decide_eq_false d3
    have e3:decide (((q.length+r.length:Nat):Int)<50+eZ q+(cZ (q.take 48)).1.s)=false:=decide_eq_false (by omega)
    rw[e3,hs,Int.toNat_natCast]
    simp only[cond_false]
    have f1:((q++r).drop 50).take (eZ q)=(q.drop 50).take (eZ q):=by
     rw[List.drop_append_of_le_length (by omega),List.take_append_of_le_length (by rw[List.length_drop];omega)]
    have f2:((q++r).drop (50+eZ q)).take s=(q.drop (50+eZ q)).take s:=by
     rw[List.drop_append_of_le_length (by omega),List.take_append_of_le_length (by rw[List.length_drop];omega)]
    rw[f1,f2]
   ·intro h;simp at h
  ·intro h
   simp only[cond_false,cond_true]at h
   exact absurd h (of_decide_eq_true d2)
 ·intro h;simp at h
def pV(n:Nat):List (BitVec 8):=List.replicate n 255#8
theorem GS(n:Nat)(p:List (BitVec 8))(h:p.length≤n):clears (pV n) p:=by
 rw[Ps]
 simp only[Ki,List.all_eq_true,List.mem_range,decide_eq_true_eq]
 intro i hi
 have:(pV n).getD i 0#8=255#8:=by
  rw[pV,List.getD_eq_getElem?_getD,List.getElem?_replicate,if_pos (by omega)];rfl
 rw[this]
 have e: ~~~(255#8)=0#8:=rfl
 rw[e,BitVec.and_zero]
theorem KE(p0 p1:List (BitVec 8)):oC p0 p1=p0.take 4096++pV (4096-(p0.take 4096).length)++(p1.take 4096++pV (6144-(p1.take 4096).length)):=by
 have h0:(p0.take 4096).length≤4096:=List.length_take_le ..
 have h1:(p1.take 4096).length≤4096:=List.length_take_le ..
 unfold oC
 generalize p0.take 4096=q0 at*
 generalize p1.take 4096=q1 at*
 have hf:B4=pV 10240:=rfl
 have l1:∀n,(pV n).length=n:=fun n=>List.length_replicate ..
 have w0:=wr_ok (x:=B4) (p:=q0) (a:=0) (by rw[hf,l1];omega) (by rw[List.drop_zero,hf];exact GS _ _ (by omega))
 have s0:a9 B4 0 q0=q0++pV (4096-q0.length)++pV 6144:=by
  rw[a9,hf,List.take_zero,List.nil_append,Nat.zero_add,pV,List.drop_replicate,List.append_assoc,pV,pV,List.replicate_append_replicate]
  congr 2
  omega
 have e0:NC B4 0 q0=q0++pV (4096-q0.length)++pV 6144:=w0.2.trans s0
 rw[e0]
 have l2:(q0++pV (4096-q0.length)).length=4096:=by rw[List.length_append,l1];omega
 have w1:=wr_ok (x:=q0++pV (4096-q0.length)++pV 6144) (p:=q1) (a:=4096) (by rw[List.length_append,l2,l1];omega) (by rw[List.drop_left' l2];exact GS _ _ (by omega))
 refine w1.2.trans ?_
 have dr:(pV 6144).drop q1.length=pV (6144-q1.length):=List.drop_replicate ..
 rw[a9,List.take_left' l2,←List.drop_drop,List.drop_left' l2,dr,List.append_assoc]
theorem ZF(p0 p1:List (BitVec 8)):sub (oC p0 p1) 0 4096=p0.take 4096++pV (4096-(p0.take 4096).length):=by
 have h0:(p0.take 4096).length≤4096:=List.length_take_le ..
 rw[KE,sub,List.drop_zero]
 exact List.take_left' (by rw[List.length_append,pV,List.length_replicate];omega)
theorem ZH(p0 p1:List (BitVec 8))(a n:Nat)(h:8192≤a)(hn:a+n≤10240):sub (oC p0 p1) a n=pV n:=by
 have h0:(p0.take 4096).length≤4096:=List.length_take_le ..
 have h1:(p1.take 4096).length≤4096:=List.length_take_le ..
 rw[KE,sub]
 have e:pV (6144-(p1.take 4096).length)=pV (a-4096-(p1.take 4096).length)++pV (10240-a):=by
  rw[pV,pV,pV,List.replicate_append_replicate];congr 1;omega
 rw[e,←List.append_assoc,←List.append_assoc,List.drop_left' (by simp only[List.length_append,pV,List.length_replicate];omega),pV,List.take_replicate,pV]
 congr 1
 omega
theorem AT(p0 p1:List (BitVec 8)):(oC p0 p1).length=10240:=by rw[oC,AG,AG];exact List.length_replicate ..
theorem AU(p0 p1:List (BitVec 8))(e:Bool):dJ (some (oC p0 p1,e))=(eE,-1):=by
 rw[vW _ e (by rw[AT];decide)]
 unfold Um
 rw[if_neg (by rw[AT];decide),ZH _ _ _ _ (by decide) (by decide),ZH _ _ _ _ (by decide) (by decide)]
 have:(b7 (pV 32)).2=false:=by decide+kernel
 rw[this]
 rfl
theorem imgOk_T(v:Nat)(p sig:List (BitVec 8))(hv:v≤255)(hs:sig.length≤65535):pI (dY v p) sig (lD p)=true:=by
 simp only[pI,GO v p hv,Bool.true_and,Bool.and_eq_true,decide_eq_true_eq]
 exact⟨rfl,hs⟩
theorem GU{x bH sig p:List (BitVec 8)}{least:Int}{j v n:Nat}(hv:v≤255)(hs:sig.length≤65535)(hx:sub x (4096*j) 4096=j3 (dY v p) sig (lD p)++pV n)(KF:so bH (cB (dY v p)) sig=0):
  gT x bH least j=(if(v:Int)<least then 15 else 0)∧gq x j=(dY v p,sig,lD p,0):=by
 have yT:(dY v p).dg.length=32:=dh _
 have hr:=YG (dY v p) sig (lD p) yT (imgOk_T v p sig hv hs)
 have YN:cR (j3 (dY v p) sig (lD p)++pV n)=(dY v p,sig,lD p,0):=by rw[UI (by rw[hr]),hr]
 have Ow:=pH (dY v p) yT
 have ht:(j3 (dY v p) sig (lD p)++pV n).take 48=cB (dY v p):=by
  rw[j3,List.append_assoc]
  exact List.take_left' Ow
 unfold gT gq Gw
 rw[hx,YN,ht]
 refine⟨?_,rfl⟩
 have hd:dU (lD p)=(dY v p).dg:=rfl
 have hvv:(dY v p).v=(v:Int):=rfl
 simp only[KF,hd,hvv,ne_eq,not_true_eq_false,if_false]
theorem RR(q0 q1:List (BitVec 8))(h:q0.length≤4096):sub (oC q0 q1) (4096*0) 4096=q0++pV (4096-q0.length):=by
 have:=ZF q0 q1
 rwa [List.take_of_length_le h]at this
end iC
end Go.Am
namespace Go.Am
set_option linter.unusedSimpArgs false
set_option linter.unusedVariables false
attribute [local congr] cd bt cg bu bw bO bg bx bz bP a7 bQ bA b9
namespace iC
open Go.Am.F
set_option maxRecDepth 10000
def id1:List (BitVec 8):=z16L.set 0 1#8
theorem RS:(bs z16L).set 0 (.raw (u8 1#8))=bs id1:=rfl
def pN:List (BitVec 8):=ug.set 0 1#8
theorem UJ:(bs ug).set 0 (.raw (u8 1#8))=bs pN:=rfl
def yO(aL:List (BitVec 8)):Sg:=uk 3758096385#32 3#32 id1 aL (kx 3#32 id1 aL (hH 3758096385#32))
theorem KG{s:oJ}(hW:Whole s)(ho:s.o=3#32)(ht:s.t=3758096385#32){q:BitVec 32}(hq:q.toNat<hH s.t)(v:Nat)(p c m:List (BitVec 8))(hc:c.length=32):(iD s q c m).length=2220∧(j3 (dY v p) (iD s q c m) (lD p)).length≤2400:=by
 have h1:=Gi hW.ok (by rw[hW.lv];exact hq) c m hc
 rw[hW.pn hq,ho,ht]at h1
 have h2:(iD s q c m).length=2220:=h1
 have h3:=pH (dY v p) (dh _)
 have h4:=GN p
 refine⟨h2,?_⟩
 rw[j3,List.length_append,List.length_append,List.length_append,h2,h3,h4]
 show 48+(2+_)≤2400
 omega
theorem GV{s:oJ}(h:Whole s){q:BitVec 32}(hq:q.toNat<hH s.t)(c m:List (BitVec 8))(hc:c.length=32):so (fc s) m (iD s q c m)=0:=by
 rw[ver_own h h rfl rfl rfl hq c m hc,if_pos rfl]
theorem ZI{S:wM}{bH sig Vh:List (BitVec 8)}(hx:S.x=oC Vh [])(hc:S.c=GQ bH 0 1)(hp:bH.length=56)(hs:sig.length≤65535)(ZJ:j3 (dY 1 []) sig (lD [])=Vh)(hl:Vh.length≤4096)(KF:so bH (cB (dY 1 [])) sig=0):
  sC S=⟨0,eE,false,false,0⟩∧nxB S=false∧(gq S.x 0).1.s=4:=by
 have hf:dH S.c=2:=(congrArg dH hc).trans (IW bH 0 1 (by decide))
 have hc0:iS S.c=0:=(congrArg iS hc).trans (Np bH 0 1 (by decide))
 have hk:jE S.c=bH:=(congrArg jE hc).trans (Nq bH 0 1 hp)
 have Bn:=GU (x:=oC Vh []) (bH:=bH) (sig:=sig) (p:=[]) (least:=((0:Nat):Int)) (j:=0) (v:=1) (n:=4096-Vh.length) (by decide) hs (by rw[ZJ];exact RR Vh [] hl) KF
 rw[←hx]at Bn
 have e0:gT S.x bH ((0:Nat):Int) 0=0:=Bn.1
 have hr:dJ (some (S.x,false))=(eE,-1):=by rw[hx];exact AU _ _ _
 have P8:sC S=⟨0,eE,false,false,0⟩:=by
  unfold sC
  rw[hf,hc0,hk,hr,e0]
  generalize gT S.x bH ((0:Nat):Int) 1=y
  simp[pL,El,eE]
 refine⟨P8,by unfold nxB;rw[P8];rfl,?_⟩
 rw[Bn.2]
 rfl
structure WkC (C:be):Prop where
 nw0:C.fn 8=none
 nw1:∃C1,C.fU 8=some (aR C1 4 rG rF)∧LmC C1
 pu:C.fn 10=some AB
 im0:C.fn 11=none
 im1:∃C1,C.fU 11=some (aR C1 4 nv nu)∧ImC C1
 la0:C.fn 9=none
 la1:∃C1,C.fU 9=some (aR C1 4 rI rH)∧LayC C1
 bn0:C.fn 14=none
 bn1:∃C1,C.fU 14=some (aR C1 0 oX oW)
 rn0:C.fn 15=none
 rn1:∃C1 C2,C.fU 15=some (aR C1 3 iL cv)∧RnC C1 C2
theorem UK(C:be)(H:WkC C){rows:Rows}{K:D→Rows→Prop}(hk:∀ab,eJ rows ab→K (.raw (.bool true)) ab):aR C 0 nt nk [] rows K:=by
 refine ag rfl ?_
 unfold nk nt
 obtain⟨C1,n1,hL⟩:=H.nw1
 obtain⟨C2,i1,hI⟩:=H.im1
 obtain⟨C3,l1,hY⟩:=H.la1
 obtain⟨C4,b1⟩:=H.bn1
 obtain⟨C5,C6,r1,hR⟩:=H.rn1
 simp only[-List.reduceReplicate,P7,dW]
 simp only[-List.reduceReplicate,↓aj,ak,simprocAttr,aa,aX,RS,UJ,H.nw0,n1]
 refine Nk C1 hL (t:=3758096385#32) (o:=3#32) (id:=id1) (aL:=pN) (by decide) (by decide) (by decide) (by decide) (by decide) fun R1 A hS Vd e1 e2 e3 e4 e5=>?_
 have hW:=IU hS (by decide) (by decide) (by decide) (by decide) (by decide)
 change qa R1 A (yO pN)at hS
 change Whole ((yO pN).v A)at hW
 have kP:=fun k=>MM R1 k _ _ hS.rd hW.ok
 simp only[-List.reduceReplicate,↓aj,ak,simprocAttr,aa,aX,H.pu,kP,H.im0,i1]
 have Zt:=hS.push [some ⟨L8,bs (fc ((yO pN).v A))⟩]
 refine B1 C2 hI (d:= .raw (.slice none 0 0)) (p:=[]) 1 (by decide) Zt hW (by decide) (by decide) (fun more=>ec.to (.inl ⟨rfl,rfl⟩)) rfl (by decide) fun R2 dl r n Zu hn hr Ax hel qY=>?_
 simp only[-List.reduceReplicate,↓aj,ak,simprocAttr,aa,aX,H.la0,l1]
 have sO:(fc ((yO pN).v A)).length=56:=sq hW.ok
 have hpu:=hel _ _ (b6 R1 [some ⟨L8,bs (fc ((yO pN).v A))⟩]) (KB hS (Nat.le_refl _))
 have Z4:(yO pN).nx.toNat<hH ((yO pN).v A).t:=(by decide:(0#32).toNat<hH 3758096385#32)
 have hlen:=KG hW rfl rfl Z4 1 [] (AZ 1) (cB (dY 1 [])) (by decide)
 have KF:=GV hW Z4 (AZ 1) (cB (dY 1 [])) (by decide)
 change so (fc ((yO pN).v A)) (cB (dY 1 [])) (iD ((yO pN).v A) (yO pN).nx (AZ 1) (cB (dY 1 [])))=0 at KF
 generalize hsig:iD ((yO pN).v A) (yO pN).nx (AZ 1) (cB (dY 1 []))=sig at*
 generalize hpub:fc ((yO pN).v A)=bH at*
 generalize ZJ:j3 (dY 1 []) sig (lD [])=Vh at*
 refine Nr C3 hY (bH:=bH) (p0:=Vh) (p1:=[]) 0 1 (by decide) (by decide) (fun R hK=>bc.own (hK _ _ hpu) _ sO.symm) sO (fun R hK=>bc.own (hK _ _ hr) _ hn) (fun R hK=>ec.to (.inl ⟨rfl,rfl⟩)) (by omega) (by decide) rfl rfl fun R3 L hK3 hMx hM hE=>?_
 simp only[↓aj,ak,simprocAttr,aa,aX,H.bn0,b1]
 refine Nn C4 ?_
 simp only[↓aj,ak,simprocAttr,aa,aX,H.rn0,r1]
 generalize hx:oC Vh []=X at hM
 generalize hc:GQ bH 0 1=ch at hM
 generalize w9=rm at hM
 obtain⟨P8,G5,hs4⟩:=ZI (S:=⟨0,rm,X,ch⟩) hx.symm hc.symm sO (by omega) ZJ (by omega) KF
 have hRd:GK (R3++[some ⟨jM,[jF PW]⟩]) L ⟨0,rm,X,ch⟩ R3.length PW zR sl8:=⟨hM.keep fun q row hq _=>aA hq _,hE.keep fun q row hq _=>aA hq _,b6 R3 [some ⟨jM,[jF PW]⟩]⟩
 refine Nj hR (most:=100) (by decide) (by decide) hRd rfl rfl rfl (fun h=>by rw[P8]at h;exact absurd h (by decide)) fun j z hj hi he hz R4 c' B' hw hF hM4 hB4 p1 p2 p3=>?_
 rw[P8]at hi
 have hj0:j=0:=by have:(0:Int)=(j:Int):=hi;omega
 subst hj0
 have hz4:z=4:=by rw[hs4]at hz;omega
 subst hz4
 rw[G5]
 simp only[cz,jF,p1]at hB4
 simp only[↓aj,ak,simprocAttr,aa,aX,hB4]
 refine hk _ fun q row hq=>?_
 have hl:=bn hq
 have wx:=bn (Vd _ _ hq)
 have g1:=hel _ _ (aA (Vd _ _ hq) [some ⟨L8,bs bH⟩]) ⟨by omega,by omega,by omega,by omega,fun ex n e=>by rw[e5]at e;cases e⟩
 have g2:=hK3 _ _ g1
 simp only[List.mem_cons,List.not_mem_nil,or_false,forall_eq_or_imp,forall_eq]at hMx
 have hg:=bn g2
 have G1:=bn hpu
 refine hF _ _ (aA g2 _) ?_
 simp only[Ly.all,List.mem_cons,List.not_mem_nil,or_false,not_or]
 omega
theorem qa.elsN{rows:Rows}{L:yI}{s:Sg}(h:qa rows L s){q:Nat}{t:Sh}{l:List D}(hq:live rows q=some ⟨t,l⟩)(ht:t≠iG∧t≠ .ar 32 L8∧t≠AA∧t≠C9∧t≠jZ):B0 rows L s q:=
 ⟨(fC h.a hq ht.1.symm).symm,(fC h.n hq ht.2.1.symm).symm,(fC h.m hq ht.2.2.1.symm).symm,(fC h.t hq ht.2.2.2.1.symm).symm,ia h.l hq ht.2.2.2.2⟩
structure RlC (C:be):Prop where
 k:WkC C
 wk0:C.fn 7=none
 wk1:∃C1,C.fU 7=some (aR C1 0 nt nk)∧WkC C1
 nx0:C.fn 13=none
 nx1:C.fU 13=none
 nx2:C.Vk 13=some De
 j0:C.fn 12=none
 j1:∃C1,C.fU 12=some (aR C1 3 fM fL)∧DoC C1
 ri:C.fn 16=some mZ
theorem kLookR{rows:Rows}{d dp:D}{x bH:List (BitVec 8)}{ex:Bool}(hr:bT rows (b8 yJ) d (some (x,ex)))(hx:x.length=10240)(hp:bc rows dp bH)(sG:bH.length≤1000)(least:Int)(i:Nat)(hi:i≤1)(k:D→Rows→Prop):
  aJ M8 rows k [d,dp,.raw (it least),.raw (it (i:Int))]=k (Vf x bH least i rows.length) (rows++vwR x bH least i):=by
 refine(vO hr (.bs hp) (.int _) (.int _) (by simp[mc,hx,sG];omega) ?_ k).trans ?_
 ·simp only[Uk,yM,cO]
  split<;>simp[bZ,fI,aS,Sh.pure]
 ·simp only[Uk,Vf,RC,Y5,vwR,Int.toNat_natCast,nG]
  by_cases c:gT x bH least i=0<;>simp[c,yM,cO,shift,bh,ae,Sh.pure]
def choK(x:List (BitVec 8))(c:pU):Cho:=pL (dH c) (dJ (some (x,false))).1 (gT x (jE c) (iS c) 0) (gT x (jE c) (iS c) 1)
noncomputable def aao:Fn:=wS (b8 yJ) (b8 qZ) (fun K c=>decide (mc K=10240)&&decide (c.ws.length=64)) fun K c=>(KR (choK (nG K) c),[])
structure AlC (C:be):Prop where
 rd:C.fn 58=some yN
 ke:C.fn 69=some QV
 ct:C.fn 26=some XI
 li:C.fn 71=some Iy
 lo:C.fn 68=some M8
 se:C.fn 70=some Us
def allW(x bH:List (BitVec 8))(least:Int)(i:Nat):Int×Int:=(if 0<i then gT x bH least 0 else 0,if 1<i then gT x bH least 1 else 0)
set_option maxHeartbeats 1000000 in
theorem alls_ok(C:be)(hC:aI C P)(H:AlC C):aO C.aZ P 21 (Fn.run aao):=by
 refine aH (ZN C hC) fun ds rows r h=>?_
 obtain⟨d,e,K,c,rfl,rfl,hd,he,hp,rfl⟩:=dq h
 cases aF hd
 cases aF he
 simp only[Bool.and_eq_true,decide_eq_true_eq]at hp
 obtain⟨hx,hw⟩:=hp
 rcases K with _|⟨x,ex⟩
 ·cases hx
 replace hx:x.length=10240:=hx
 refine⟨rfl,ag rfl ?_⟩
 clear h hd he
 unfold Rt RT
 have kR:=fun rows k=>kReadJ (Kh rows (some (x,ex))) (show mc (some (x,ex))≤1048576 by show x.length≤1048576;omega) k
 have e1:dJ (some (x,ex))=dJ (some (x,false)):=by rw[vW _ _ (by omega),vW _ _ (by omega)]
 rw[e1]at kR
 have hcd:=fun rows=>bT.qZ (rows:=rows) c
 have hfd:∀rows,bT rows (b8 yJ) (yJ (some (x,ex))) (some (x,ex)):=fun rows=>⟨⟨yJ (some (x,ex)),rfl,bV wI _⟩,fun _=>bV wI _⟩
 have Nz:=Zp c hw
 have kK:=fun rows k=>kKeyC (hcd rows) hw k
 have kC:=fun rows k=>kCtr (hcd rows) hw k
 have kL:=fun rows k=>XK (hcd rows) hw k
 have kO:=fun(rs:Rows) (i:Nat) (hi:i≤1) k=>kLookR (hfd (rs++[some ⟨L8,bs (jE c)⟩])) hx (bc.own (ex:=false) (b6 rs [some ⟨L8,bs (jE c)⟩]) 56 Nz.symm) (by omega) (iS c:Int) i hi k
 have hrj:=PO (some (x,false))
 have kS:=fun rows k=>kSel rows k (dH c) _ hrj (gT x (jE c) (iS c) 0) (gT x (jE c) (iS c) 1)
 have hz0:D.agg SJ [.raw (u32 0#32),.raw (it 0),.raw (it 0),.raw (it 0)]=jD ⟨0#32,0,0,0⟩:=rfl
 have cf:∀c,(KR c).fits SCo=true:=fun _=>rfl
 have vg:∀x p l i q,(Vf x p l i q).get [0]=some (.raw (it (gT x p l i))):=fun _ _ _ _ _=>rfl
 have lz:choK (nG (some (x,ex))) c=pL (dH c) (dJ (some (x,false))).1 (gT x (jE c) (iS c) 0) (gT x (jE c) (iS c) 1):=rfl
 rw[lz]
 generalize dJ (some (x,false))=J at*
 obtain⟨J,jp⟩:=J
 simp only at hrj kS
 generalize yJ (some (x,ex))=fd at*
 generalize qZ c=cd at*
 simp only[↓aj,ak,simprocAttr,aa,aX,hz0,cw,H.rd,kR]
 refine bB 2 (fun i env rs=>has env [(14,.raw (it (i:Int))),(7,.ptr (.ar 2 LI) 2 [0]),(5,.ptr SJ 1 [0]),(4,.ptr SCo 0 [0]),(0,fd),(1,cd)]∧(∃z,live rs 0=some ⟨SCo,[z]⟩)∧live rs 1=some ⟨SJ,[jD J]⟩∧live rs 2=some ⟨.ar 2 LI,[.agg (.ar 2 LI) [.raw (it (allW x (jE c) (iS c) i).1),.raw (it (allW x (jE c) (iS c) i).2)]]⟩) ?_ ?_ ⟨?_,⟨_,rfl⟩,rfl,rfl⟩
 ·rintro i hi env rs ⟨hh,⟨z,r0⟩,r1,r2⟩ R hR
  simp only[has]at hh
  have e0:((i:Int)<2)=True:=eq_true (by omega)
  have e1:=cE i (by omega)
  have kO0:∀k,aJ M8 (rs++[some ⟨L8,bs (jE c)⟩]) k [fd,.sl L8 rs.length [] 0 56 false,.raw (it (iS c:Int)),.raw (it 0)]=_:=kO rs 0 (by omega)
  have kO1:∀k,aJ M8 (rs++[some ⟨L8,bs (jE c)⟩]) k [fd,.sl L8 rs.length [] 0 56 false,.raw (it (iS c:Int)),.raw (it 1)]=_:=kO rs 1 (by omega)
  have hq:=wL r2
  have rA:=fun l=>aA r2 l
  have fin:∀X l env',has env' [(14,.raw (it ((i+1:Nat):Int))),(7,.ptr (.ar 2 LI) 2 [0]),(5,.ptr SJ 1 [0]),(4,.ptr SCo 0 [0]),(0,fd),(1,cd)]→X=(⟨.ar 2 LI,[.agg (.ar 2 LI) [.raw (it (allW x (jE c) (iS c) (i+1)).1),.raw (it (allW x (jE c) (iS c) (i+1)).2)]]⟩:Row)→R env' (rs.set 2 (some X)++l):=fun X l env' h e=>hR _ _ ⟨h,⟨z,Ry r0 (by decide) _ _⟩,Ry r1 (by decide) _ _,by rw[hq.2.2.1,e]⟩
  rcases(by omega:i=0∨i=1)with rfl|rfl
  ·simp only[↓aj,ak,simprocAttr,aa,aX,hh,e0,e1,H.ke,kK,H.ct,kC,H.lo,kO0,kO1,Vf,yM,rA,hq,Int.natCast_zero]
   refine fin _ _ _ ?_ rfl
   simp only[has,↓aj,ak,simprocAttr,aa,hh,Int.natCast_zero]
  ·simp only[↓aj,ak,simprocAttr,aa,aX,hh,e0,e1,H.ke,kK,H.ct,kC,H.lo,kO0,kO1,Vf,yM,rA,hq]
   refine fin _ _ _ ?_ rfl
   simp only[has,↓aj,ak,simprocAttr,aa,hh]
 ·rintro env rs ⟨hh,⟨z,r0⟩,r1,r2⟩ R
  simp only[has]at hh
  have Ce:=fun x=>aG (y:=x) r0
  have r2:live rs 2=some ⟨.ar 2 LI,[.agg (.ar 2 LI) [.raw (it (gT x (jE c) (iS c) 0)),.raw (it (gT x (jE c) (iS c) 1))]]⟩:=r2
  simp only[↓aj,ak,simprocAttr,aa,aX,hh,H.li,kL,r1,r2,cw,H.se,kS,cf,r0,Ce]
  exact .val _ rfl
 ·simp only[has,↓aj,ak,simprocAttr,aa]
noncomputable def YS:Fn
 |[],[]=>some (.raw (it 72),[])
 | _,_=>none
theorem bound_ok(C C1:be)(hC:aI C P)(n0:C.fn 72=none)(r0:C.fU 72=some (aR C1 2 mg lS)):aO C.aZ P 22 (Fn.run YS):=by
 refine aH (aaa C hC) fun ds rows r h=>?_
 unfold YS at h
 split at h
 ·cases h
  refine⟨rfl,ag rfl ?_⟩
  unfold Up UL
  simp only[↓aj,ak,simprocAttr,aa,aX,n0,r0,lQ,lS,mg]
  exact .val _ rfl
 ·cases h
theorem kBound(rows:Rows)(k:D→Rows→Prop):aJ YS rows k []=k (.raw (it 72)) rows:=by
 refine(bi rfl (r:=(.raw (it 72),[])) rfl).trans ?_
 simp[shift,ae]
theorem kAllS{rows:Rows}{L:Ly}{S:wM}(hM:fB rows L S)(k:D→Rows→Prop):aJ aao rows k [.ptr SF L.f [0],.ptr Pf L.q [0]]=k (KR (sC S)) rows:=by
 obtain⟨e,hr⟩:=hM.fl.rd
 refine(jB hr hM.ch.rd (by simp[mc,hM.xl,hM.ch.len]) (by simp[bZ,fI,aS,Sh.pure,KR,jD]) k).trans ?_
 simp[KR,jD,shift,bh,ae,Sh.pure,choK,sC,nG]
noncomputable def btsK0:aB:=j5 (j5 (j5 (j5 (j5 (j5 hJ)))))
noncomputable def btsR:aB:=j5 btsK0
structure BoC (C:be):Prop where
 al:C.fn 21=some aao
 bo:C.fn 22=some YS
 rd:C.fn 23=some vT
 sa:C.fn 25=some aag
 ct:C.fn 26=some XI
 r0:C.fn 24=none
 r1:∃C1,C.fU 24=some (aR C1 1 lR jN)∧C1.fn 74=some BV∧C1.fn 75=some Rs∧C1.fn 17=some Tu
 bn0:C.fn 14=none
 bn1:∃C1,C.fU 14=some (aR C1 0 oX oW)
 rn0:C.fn 15=none
 rn1:∃C1 C2,C.fU 15=some (aR C1 3 iL cv)∧RnC C1 C2
set_option maxHeartbeats 2000000 in
theorem ZG(C:be)(H:BoC C){rows:Rows}{L:Ly}{x rm:List (BitVec 8)}{c:pU}{env:Env}(hM:fB rows L ⟨0,rm,x,c⟩)(hE:DS rows L zR sl8)(h17:look env 17=some (.ptr jb L.M [0])):aw C btsR (Jo [.tmp 14] fun d _=>d= .raw (.bool true)) env rows:=by
 unfold btsR btsK0
 obtain⟨C4,b1⟩:=H.bn1
 obtain⟨C5,C6,r1,hR⟩:=H.rn1
 obtain⟨C7,q1,q2,q3,q4⟩:=H.r1
 have IR:=hM
 obtain⟨⟨co,p,nY⟩,⟨pt,hsp⟩,Ax,lz,yR,CY⟩:=hM
 simp only[NE]at nY
 simp only[uH]at hsp
 have Za:=fun l=>aA nY l
 have hspA:=fun l=>aA hsp l
 have kA:=fun l k=>kAllS (rows:=rows++l) (S:=⟨0,rm,x,c⟩) (IR.keep fun q row hq _=>aA hq l) k
 generalize P8:sC ⟨0,rm,x,c⟩=cho at kA
 have cf:∀c,(KR c).fits SCo=true:=fun _=>rfl
 have hz0:D.agg SJ [.raw (u32 0#32),.raw (it 0),.raw (it 0),.raw (it 0)]=jD ⟨0#32,0,0,0⟩:=rfl
 have hzc:D.agg SCo [.raw (it 0),jD ⟨0#32,0,0,0⟩,.raw (.bool false),.raw (.bool false),.raw (it 0)]=KR ⟨0,⟨0#32,0,0,0⟩,false,false,0⟩:=rfl
 simp only[hJ,j5,-List.reduceReplicate,vV]
 have kA0:=kA []
 rw[List.append_nil]at kA0
 simp only[-List.reduceReplicate,↓aj,ak,simprocAttr,aa,aX,h17,nY,hsp,Za,hspA,H.al,kA,kA0,hz0,hzc,cf,H.bn0,b1]
 refine Nn C4 ?_
 simp only[↓aj,ak,simprocAttr,aa,aX,h17,H.rn0,r1]
 have hRd:GK (rows++[some ⟨SCo,[KR cho]⟩,some ⟨jM,[jF PW]⟩]) L ⟨0,rm,x,c⟩ (rows.length+1) PW zR sl8:=⟨IR.keep fun q row hq _=>aA hq _,hE.keep fun q row hq _=>aA hq _,cD rows _ 1⟩
 have hco:=b6 rows [some ⟨SCo,[KR cho]⟩,some ⟨jM,[jF PW]⟩]
 have cg0:(KR cho).get [0]=some (.raw (it cho.i)):=rfl
 have cg4:(KR cho).get [4]=some (.raw (it cho.e)):=rfl
 have hlt:=IR.fl.lt
 have lM:=bn nY
 have ls:=bn hsp
 have lq:=bn CY.ch
 have lw:=bn CY.dat
 have lsl:=bn hE.s
 have le:L.e<rows.length:=by obtain⟨k,n,h⟩:=hE.e;exact bn h
 have q00:(false==false)=true:=rfl
 have q10:(true==false)=false:=rfl
 have q01:(false==true)=false:=rfl
 have q11:(true==true)=true:=rfl
 refine Nj hR (most:=1000) (by decide) (by decide) hRd rfl rfl rfl (fun hi R6 k B' hk hF hB p1 p2 hM6=>?_) fun j z hj hi he hz R6 c' B' hw hF hM6 hB p1 p2 p3=>?_
 ·rw[P8]at hi p2
  have hc6:=hF _ _ hco (by simp)
  have hk72:((72:Int)<(k:Int))=False:=eq_false (by omega)
  obtain⟨⟨co',p',hma'⟩,⟨pt',aaj⟩,-⟩:=hM6
  simp only[NE]at hma'
  simp only[uH]at aaj
  simp only[cz,jF,p1,p2]at hB
  simp only[↓aj,ak,simprocAttr,aa,aX,hB,hc6,cg0,cg4,hi,H.bo,kBound,hk72,h17,hma',aaj,decide_true,decide_false,q00,q01,q10,q11,Bool.not_true,Bool.not_false]
 ·rw[P8]at hi
  obtain⟨z',k1,k2,k3,k4,k5,k6,k7,k8,k9,k10,k11⟩:=GL IR.xl hj he
  obtain rfl:z'=z:=by rw[k1]at hz;omega
  have hc6:=hF _ _ hco (by
   simp only[Ly.all,List.mem_cons,List.not_mem_nil,or_false,not_or]
   omega)
  have hn72:((72:Int)<((38+(z'+63)/64+(bif nxB ⟨0,rm,x,c⟩then 2 else 0):Nat):Int))=False:=eq_false (by cases nxB ⟨0,rm,x,c⟩<;>simp only[cond_true,cond_false]<;>omega)
  generalize ((38+(z'+63)/64+(bif nxB ⟨0,rm,x,c⟩then 2 else 0):Nat):Int)=nn at*
  have hM6:fB R6 L ⟨1,vZ rm (KT ⟨0,rm,x,c⟩) (nZ x j) z',KT ⟨0,rm,x,c⟩,c'⟩:=hM6
  have hx6:(KT ⟨0,rm,x,c⟩).length=10240:=by rw[RN];exact IR.xl
  have hs6:sub (KT ⟨0,rm,x,c⟩) (4096*j) 4096=sub x (4096*j) 4096:=RO ⟨0,rm,x,c⟩ IR.xl _ _ (by omega)
  have k6:nZ x j+z'≤4096*j+4096:=k6
  have hz6:sub (KT ⟨0,rm,x,c⟩) (nZ x j) z'=sub x (nZ x j) z':=RO ⟨0,rm,x,c⟩ IR.xl _ _ (by omega)
  generalize KT ⟨0,rm,x,c⟩=Y at*
  have hram:=UF (gk:=rm) (x:=Y) (p:=nZ x j) (z:=z') (by omega)
  rw[hz6]at hram
  have hM7:=hM6
  obtain⟨⟨co',p',hma'⟩,⟨pt',aaj⟩,hrl',hfl',hxl',hch'⟩:=hM6
  simp only at hfl' hrl' hch' aaj
  generalize vZ rm Y (nZ x j) z'=rm' at*
  have kRd:=fun l k=>MR (hfl'.push l) (by omega) (4096*j) 4096 (by omega) k
  have lx:(gq x j).1=B'.kf:=p3.symm
  have k11:(gq x j).2.2.2=0:=k11
  have k9:(gq x j).2.2.1=sub x (nZ x j) z':=k9
  have k8:(iS c:Int)≤(gq x j).1.v:=k8
  have hct:iS c'=iS c:=by unfold iS;rw[hw]
  rw[hs6]at kRd
  simp only[gq]at k11 k9 k8 lx
  have hql:(sub x (4096*j) 4096).length=4096:=by rw[←hs6];exact j9 (by omega)
  have sO:(sub x (nZ x j) z').length=z':=by rw[←hz6];exact j9 (by omega)
  generalize sub x (4096*j) 4096=q at*
  generalize sub x (nZ x j) z'=DQ at*
  have w1:wz (4096*(j:Int))=((4096*j:Nat):Int):=by rw[bf (by omega)];omega
  have ci:cho.i=(j:Int):=hi
  have hj0:((0:Int)≤(j:Int))=True:=eq_true (by omega)
  have hj1:((j:Int)<0)=False:=eq_false (by omega)
  simp only[NE]at hma'
  have Y9:=aaj
  simp only[uH]at aaj
  simp only[cz,jF,p1,p2]at hB
  have kRd0:∀k,aJ vT R6 k [.ptr SF L.f [0],.raw (it ((4096*j:Nat):Int)),.raw (it 4096)]=k (.cA [.sl L8 R6.length [] 0 4096 false,.raw (it 0)]) (R6++[some ⟨L8,bs q⟩]):=fun k=>by
   have:=kRd [] k
   rwa [List.append_nil]at this
  simp only[-List.reduceReplicate,↓aj,ak,simprocAttr,aa,aX,hB,hc6,cg0,cg4,ci,H.bo,kBound,hn72,h17,hma',aaj,decide_true,decide_false,q00,q01,q10,q11,Bool.not_true,Bool.not_false,hj0,hj1,w1,H.rd,kRd0,vV,H.r0,q1]
  refine rread_run C7 (b6 R6 _) hql.symm (by omega) q2 q3 q4 ?_
  rintro _ R7 ⟨L7,d1,d2,rfl,rfl,hO1,hO2⟩
  have hK:eJ R6 (R6++[some ⟨L8,bs q⟩]++L7):=(eJ.app _ _).trans (eJ.app _ _)
  generalize R6++[some ⟨L8,bs q⟩]++L7=R7 at*
  have hB7:=fun l=>aA (hK _ _ hB) l
  have hc7:=fun l=>aA (hK _ _ hc6) l
  have hma7:=fun l=>aA (hK _ _ hma') l
  have hsp7:=fun l=>aA (hK _ _ aaj) l
  have kC:∀l k,aJ XI (R7++l) k [.ptr Pf L.q [0]]=k (.raw (it (iS c:Int))) (R7++l):=fun l k=>by
   have:=kCtr ((hch'.keep fun p row hp _=>aA (hK _ _ hp) l).rd) hch'.len k
   rwa [hct]at this
  have hBs:∀R e,bc (R7++R) (.sl L8 L.s [0,1] 0 z' e) (rm'.take z'):=fun R e=>by
   have:=bc.at (off:=0) (len:=z') (e:=e) (aA (hK _ _ Y9) R) (n:=8192) (i:=0) (q:=[1]) (l:=rm') rfl (by omega)
   rwa [List.drop_zero]at this
  rw[k9]at hO2
  have Ow:(bs DQ).length=z':=by rw[aC,sO]
  obtain⟨r8,ex8,rfl,hl8⟩:∃r ex,d2= .sl L8 r [] 0 z' ex∧live R7 r=some ⟨L8,bs DQ⟩:=by
   rcases hO2 with⟨e,e'⟩|⟨r,ex,e,hl⟩
   ·exfalso
    first|(rw[e]at Ow;simp at Ow;omega)|(rw[e']at Ow;simp at Ow;omega)
   ·exact⟨r,ex,by rw[e,Ow],hl⟩
  have kSa:∀l e k,aJ aag (R7++l) k [.sl L8 L.s [0,1] 0 z' e,.sl L8 r8 [] 0 z' ex8]=k (.raw (.bool true)) (R7++l):=fun l e k=>by
   have:=kSame (R7++l) k _ _ _ _ (hBs l e) (bc.own (ex:=ex8) (aA hl8 l) z' sO.symm) (by rw[List.length_take];omega) (by omega)
   rw[hram]at this
   simpa using this
  have gv:∀m,(cO m).get [0]=some (.raw (it m.v)):=fun _=>rfl
  have mf:=fA
  have z0:((0:Int)≤(z':Int))=True:=eq_true (by omega)
  have z1:((z':Int)≤8192)=True:=eq_true (by omega)
  have hv:((iS c:Int)≤B'.kf.v)=True:=eq_true (by rw[←lx];exact k8)
  simp only[-List.reduceReplicate,↓aj,ak,simprocAttr,aa,aX,hB7,hc7,cg0,cg4,ci,h17,hma7,hsp7,decide_true,decide_false,k11,mf,gv,z0,z1,Nat.sub_zero,H.sa,kSa,H.ct,kC,hv]
noncomputable def aaf(n:Nat):aB:=match n with
 |0=>hJ
 |n+1=>j5 (aaf n)
theorem bts_split:hJ= .seq (tD (aaf 0)) (.seq (tD (aaf 1)) (.seq (tD (aaf 2)) (.seq (tD (aaf 3)) (.seq (tD (aaf 4)) (.seq (tD (aaf 5)) (.seq (tD (aaf 6)) btsR)))))):=rfl
structure BtsC (C:be):Prop where
 k:WkC C
 wk0:C.fn 7=none
 wk1:∃C1,C.fU 7=some (aR C1 0 nt nk)∧WkC C1
 cu:C.fn 17=some Tu
 t0:C.fn 18=none
 t1:C.fU 18=some (aR CF 3 cb ca)
 o0:C.fn 19=none
 o1:∃C1 C2 C3,C.fU 19=some (aR C1 1 xb xa)∧C1.fn 63=none∧C1.fU 63=some (aR C2 1 sA qJ)∧C2.fn 104=none∧C2.fU 104=some (aR C3 1 mL mK)
 m0:C.fn 20=none
 m1:∃C1,C.fU 20=some (aR C1 2 gE gC)∧NmC C1
 b:BoC C
theorem fB.enw{rows ab:Rows}{L:Ly}{S:wM}{R:List (List (BitVec 8))}{l:KS}(hM:fB rows L S)(hE:DS rows L R l)(f:∀q row,live rows q=some row→q≠L.m→live ab q=some row):DS ab L R l:=
 hE.keep fun q row hq hn=>f q row hq (by
  obtain⟨ke,ne,hee⟩:=hE.e
  have d1:=fH hee hM.fl.dat (by intro h;cases h)
  have d2:=fH hE.s hM.fl.dat (by intro h;cases h)
  rcases hn with rfl|rfl<;>assumption)
set_option maxHeartbeats 2000000 in
theorem v16it(x:BitVec 16):yg .i64 (.raw (u16 x))=some (it x.toNat):=by simp only[yg,u16,it,IntKind.wrap,IntKind.signed,IntKind.bits];have:=x.isLt;simp;try omega
theorem boots_run(C:be)(H:BtsC C)(aL:List (BitVec 8))(hseed:aL.length=32)(p q raw:List (BitVec 8))(hp:p.length≤9223372036854775807)(hq:q.length≤9223372036854775807)(hraw:raw.length≤9223372036854775807)(at_:BitVec 16)(W:List (BitVec 32))(hWl:W.length=64)(keep:Bool):
  aR C 7 jf hJ [.agg (.ar 32 L8) (bs aL),.cF L8 (bs p) false,.cF L8 (bs q) false,.cF L8 (bs raw) false,.raw (u16 at_),.agg (.ar 64 dk) (us W),.raw (.bool keep)] [] (fun d _=>d= .raw (.bool true)):=by
 refine ag rfl ?_
 rw[bts_split]
 obtain⟨W1,w1,hWk⟩:=H.wk1
 obtain⟨C1,n1,hL⟩:=H.k.nw1
 obtain⟨C2,i1,hI⟩:=H.k.im1
 obtain⟨C3,l1,hY⟩:=H.k.la1
 obtain⟨D1,D2,D3,oo,u1,u2,u3,u4⟩:=H.o1
 obtain⟨N1,nn,hN⟩:=H.m1
 simp only[-List.reduceReplicate,aaf,hJ,j5,tD,jf,P7]
 simp only[-List.reduceReplicate,↓aj,ak,simprocAttr,aa,aX,H.wk0,w1]
 refine UK W1 hWk fun R0 hK0=>?_
 have Ce:=hK0 0 ⟨.ar 32 L8,[.agg (.ar 32 L8) (bs aL)]⟩ rfl
 have hw0:=hK0 1 ⟨.ar 64 dk,[.agg (.ar 64 dk) (us W)]⟩ rfl
 simp only[-List.reduceReplicate,↓aj,ak,simprocAttr,aa,aX,Ce,RS,H.k.nw0,n1]
 refine Nk C1 hL (t:=3758096385#32) (o:=3#32) (id:=id1) (aL:=aL) (by decide) (by decide) (by decide) (by decide) hseed fun R1 A hS Vd e1 e2 e3 e4 e5=>?_
 have hW:=IU hS (by decide) (by decide) (by decide) (by decide) hseed
 change qa R1 A (yO aL)at hS
 change Whole ((yO aL).v A)at hW
 have kP:=fun k=>MM R1 k _ _ hS.rd hW.ok
 simp only[-List.reduceReplicate,↓aj,ak,simprocAttr,aa,aX,H.k.pu,kP,H.k.im0,i1]
 have Zt:=hS.push [some ⟨L8,bs (fc ((yO aL).v A))⟩]
 have sO:(fc ((yO aL).v A)).length=56:=sq hW.ok
 have hpu1:=b6 R1 [some ⟨L8,bs (fc ((yO aL).v A))⟩]
 have hw1:=aA (Vd _ _ hw0) [some ⟨L8,bs (fc ((yO aL).v A))⟩]
 have Z4:(yO aL).nx.toNat<hH ((yO aL).v A).t:=(by decide:(0#32).toNat<hH 3758096385#32)
 have hlen:=KG hW rfl rfl Z4 3 p (AZ 3) (cB (dY 3 p)) (by rw[AZ,List.length_set];rfl)
 refine B1 C2 hI (d:= .cF L8 (bs p) false) (p:=p) 3 (by decide) Zt hW Z4 (Nat.zero_le 1000) (fun more=>ec.to (.inr ⟨false,rfl⟩)) (by simp[dK,aC]) hp fun R2 dl r m Zu hm hr Ax hel qY=>?_
 have hW3:=PY hW Zu
 have hpu2:=hel _ _ hpu1 (Zt.els hpu1)
 have hw2:=hel _ _ hw1 (Zt.elsN hw1 (by decide))
 have Sw:((yO aL).next (AZ 3) (cB (dY 3 p))).nx.toNat<hH (((yO aL).next (AZ 3) (cB (dY 3 p))).v (A.next dl)).t:=(by decide:(0#32+1#32).toNat<hH 3758096385#32)
 have Qi:=KG hW3 rfl rfl Sw 5 q (AZ 5) (cB (dY 5 q)) (by rw[AZ,List.length_set];rfl)
 simp only[-List.reduceReplicate,↓aj,ak,simprocAttr,aa,aX,H.k.im0,i1]
 refine B1 C2 hI (d:= .cF L8 (bs q) false) (p:=q) 5 (by decide) Zu hW3 Sw (Nat.le_of_ble_eq_true rfl) (fun more=>ec.to (.inr ⟨false,rfl⟩)) (by simp[dK,aC]) hq fun R3 dl2 r2 m2 hS4 LF YN hrl2 hel2 hdl2=>?_
 have hpu3:=hel2 _ _ hpu2 (Zu.els hpu2)
 have hw3:=hel2 _ _ hw2 (Zu.elsN hw2 (by decide))
 have hr3:=hel2 _ _ hr (Zu.els hr)
 clear hel hel2 qY hdl2 hS Zt Zu hS4 hW3 hK0 Vd Ce
 simp only[↓aj,ak,simprocAttr,aa,aX,H.k.la0,l1]
 generalize hsig2:iD (((yO aL).next (AZ 3) (cB (dY 3 p))).v (A.next dl)) ((yO aL).next (AZ 3) (cB (dY 3 p))).nx (AZ 5) (cB (dY 5 q))=sig2 at*
 generalize hsig:iD ((yO aL).v A) (yO aL).nx (AZ 3) (cB (dY 3 p))=sig at*
 generalize hpub:fc ((yO aL).v A)=bH at*
 generalize ZJ:j3 (dY 3 p) sig (lD p)=Vh at*
 generalize himg2:j3 (dY 5 q) sig2 (lD q)=img2 at*
 refine Nr C3 hY (bH:=bH) (p0:=Vh) (p1:=img2) 0 0 (by decide) (by decide) (fun R hK=>bc.own (hK _ _ hpu3) _ sO.symm) sO (fun R hK=>bc.own (hK _ _ hr3) _ hm) (fun R hK=>bc.own (hK _ _ YN) _ LF) (by omega) (by omega) rfl rfl fun R4 L hK4 hMx hM hE=>?_
 have hw4:=hK4 _ _ hw3
 generalize hX:oC Vh img2=X at hM
 generalize CY:GQ bH 0 0=ch at hM
 generalize w9=rm at hM
 have hl3:=bn hw3
 simp only[List.mem_cons,List.not_mem_nil,or_false,forall_eq_or_imp,forall_eq]at hMx
 have kC:∀k,aJ Tu R4 k [.cF L8 (bs raw) false,.raw (it 60)]=k (.sl L8 (0+R4.length) [] 0 (raw.take 60).length false) (R4++[some ⟨L8,bs (raw.take 60)⟩]):=fun k=>Zz (ec.to (.inr ⟨false,rfl⟩)) 60 hraw (by decide) k
 have ja:(raw.take 60).length≤60:=List.length_take_le ..
 generalize raw.take 60=cut at*
 simp only[↓aj,ak,simprocAttr,aa,aX,H.cu,kC]
 have hX0:X.length=10240:=by rw[←hX];exact AT _ _
 clear hX ZJ himg2 hsig hsig2 hpub
 refine bB cut.length (fun i env rs=>has env [(54,.raw (it (i:Int))),(53,.raw (it (cut.length:Int))),(52,.sl L8 R4.length [] 0 cut.length false),(17,.ptr jb L.M [0]),(12,.ptr (.ar 64 dk) 1 [0]),(4,.raw (u16 at_)),(6,.raw (.bool keep))]∧(∃Y,fB rs L ⟨0,rm,Y,ch⟩)∧DS rs L zR sl8∧live rs R4.length=some ⟨L8,bs cut⟩∧live rs 1=some ⟨.ar 64 dk,[.agg (.ar 64 dk) (us W)]⟩) ?_ ?_ ⟨?_,⟨X,hM.keep fun q row hq _=>aA hq _⟩,hE.keep fun q row hq _=>aA hq _,b6 R4 _,aA hw4 _⟩
 ·rintro i hi env rs ⟨hh,⟨Y,hY⟩,hE2,hc,hw5⟩ R hR
  simp only[has]at hh
  have e0:((i:Int)<(cut.length:Int))=True:=eq_true (by omega)
  have e1:=cE i (by omega)
  have e2:((0:Int)≤(i:Int))=True:=eq_true (by omega)
  have g:=mJ (l:=cut) hi
  have hY0:=hY
  have UZ:=hM.fl.lt
  obtain⟨⟨co,p',nY⟩,⟨pt,hsp⟩,Ax,lz,yR,hchp⟩:=hY
  simp only[NE]at nY
  simp only[uH]at hsp
  simp only[↓aj,ak,simprocAttr,aa,aX,hh,e0,e1,e2,hc,g,nY,hsp,H.t0,H.t1,v16it]
  refine turnA lz (by omega) _ _ fun R5 U=>?_
  have hMn:=hY0.wr U (by rw[aal];exact yR)
  simp only[↓aj,ak,simprocAttr,aa,aX,hh,e1]
  exact hR _ _ ⟨by simp only[has,↓aj,ak,simprocAttr,aa,hh],⟨_,hMn⟩,hY0.enw hE2 U.frame,U.frame _ _ hc (by omega),U.frame _ _ hw5 (by omega)⟩
 ·rintro env rs ⟨hh,⟨Y,hY⟩,hE2,hc,hw5⟩ R
  simp only[has]at hh
  have en:((cut.length:Int)<(cut.length:Int))=False:=eq_false (by omega)
  cases keep with
  |true=>
   simp only[↓aj,ak,simprocAttr,aa,aX,hh,en]
   exact ZG C H.b hY hE2 (by simp only[↓aj,ak,simprocAttr,aa,hh])
  | false =>
   have hY0:=hY
   obtain⟨⟨co,p',nY⟩,⟨pt,hsp⟩,Ax,lz,yR,hchp⟩:=hY
   simp only[NE]at nY
   simp only[uH]at hsp
   simp only[↓aj,ak,simprocAttr,aa,aX,hh,en,H.o0,oo]
   refine of4_run D1 D2 D3 u1 u2 u3 u4 (p:=[0]) hWl hw5 (fun i hi=>?_) fun R6 q6 hK6 hq6 hC6=>?_
   ·have:=ku (l:=W) (i:=i) (by omega)
    simp only[cP,D.get,List.cons_append,List.nil_append,this]
    simp[D.get,this]
   have hma6:=hK6 _ _ nY
   have hsp6:=hK6 _ _ hsp
   simp only[↓aj,ak,simprocAttr,aa,aX,hh,hma6,hsp6,H.m0,nn]
   refine nm_run N1 hN (f:=L.f) (m:=L.m) (x:=Y) (hY0.keep fun q row hq _=>hK6 q row hq).fl yR hC6 fun R7 L2 hK7 f1 f2 f3 f4 f5 f6 hM7 hE7=>?_
   simp only[↓aj,ak,simprocAttr,aa,aX]
   exact ZG C H.b hM7 hE7 (by simp only[↓aj,ak,simprocAttr,aa])
 ·simp only[has,↓aj,ak,simprocAttr,aa]
end iC
end Go.Am
namespace Go.Am
set_option linter.unusedSimpArgs false
set_option linter.unusedVariables false
namespace iC
open Go.Am.F
set_option maxRecDepth 10000
def AV(ks:List IntKind)(z:List Int):List Value:=List.zipWith Value.int ks z
def Em{H:Type}(ks:List IntKind)(zs:List (List Int)):DataW H:= .agg (zs.map fun z=> .agg (List.zipWith (fun k x=> .lit (.int k x)) ks z))
def fZ(ks:List IntKind)(zs:List (List Int)):List Value:=zs.flatMap (AV ks)
def pO:List IntKind→Sh
 |[]=> .nil
 |k::ks=> .cons (.leaf (.int k)) (pO ks)
def DU(ks:List IntKind)(z:List Int):D:= .agg (pO ks) ((AV ks z).map .raw)
theorem rec_len{ks:List IntKind}{zs:List (List Int)}(h:∀z∈zs,z.length=ks.length):(fZ ks zs).length=zs.length*ks.length:=by
 induction zs with
 |nil=>simp[fZ]
 |cons z zs ih=>
  have:=ih fun x hx=>h x (.tail _ hx)
  simp only[fZ,List.flatMap_cons,List.length_append,AV,List.length_zipWith,h z (.head _),Nat.min_self,List.length_cons,Nat.succ_mul]at this⊢
  omega
theorem RU{ks:List IntKind}:∀{zs:List (List Int)},(∀z∈zs,z.length=ks.length)→∀(i r:Nat),r<ks.length→(fZ ks zs)[i*ks.length+r]?=(zs[i]?).bind fun z=>(AV ks z)[r]?
 |[],_,i,r,_=>by simp[fZ]
 |z::zs,h,0,r,hr=>by
  have hz:=h z (.head _)
  simp only[fZ,List.flatMap_cons,Nat.zero_mul,Nat.zero_add]
  rw[List.getElem?_append_left (by simp[AV,hz,hr])];rfl
 |z::zs,h,i+1,r,hr=>by
  have hz:=h z (.head _)
  have ih:=RU (ks:=ks) (fun x hx=>h x (.tail _ hx)) i r hr
  simp only[fZ,List.flatMap_cons]at ih⊢
  rw[List.getElem?_append_right (by simp[AV,hz,Nat.succ_mul];omega)]
  have:(i+1)*ks.length+r-(AV ks z).length=i*ks.length+r:=by simp[AV,hz,Nat.succ_mul];omega
  rw[this,ih];rfl
structure RecT (P:Program) (t e:TypeId) (n:Nat) (fs:Array Field) (ks:List IntKind):Prop where
 ht:P.underlying t=some (.array n e)
 he:P.underlying e=some (.struct fs)
 fl:fs.toList.length=ks.length
 ff:∀r,r<ks.length→(fs.toList.getD r default).offset=r∧P.cellsOf (fs.toList.getD r default).type=1∧P.underlying (fs.toList.getD r default).type=some (.int (ks.getD r .i64))
 ce:P.cellsOf e=ks.length
 ct:P.cellsOf t=n*ks.length
theorem UO{H:Type}{enc:TypeId×Value→H}{P:Program}{w:World}{base:Nat}{sp:Nat→Bool}{held:Bool}{fuel:Nat}{t e:TypeId}{n:Nat}{fs:Array Field}{ks:List IntKind}{cs:List Value}{zs:List (List Int)}{p:List MemPlace}(T:RecT P t e n fs ks)(hz:∀z∈zs,z.length=ks.length)
  (h:DataW.trod enc P w base sp held fuel t cs=some (Em ks zs,p)):cs=fZ ks zs:=by
 obtain⟨ht,he,lz,hff,hce,hct⟩:=T
 cases fuel with
 |zero=>simp[DataW.trod]at h
 | succ fuel =>
  simp only[DataW.trod,ht,hce,hct]at h
  split at h
  ·rename_i hl
   obtain⟨xs,hm,hx⟩:=Option.map_eq_some_iff.1 h
   have NM:xs.map (·.1)=zs.map fun z=>(DataW.agg (List.zipWith (fun k x=> .lit (.int k x)) ks z):DataW H):=by
    have:=congrArg Prod.fst hx
    simpa[Em]using this
   have yR:xs.length=n:=by simpa using Lib.mapM_length hm
   have hzl:zs.length=n:=by
    have:=congrArg List.length NM
    simp at this
    omega
   have Ax:=rec_len hz
   apply List.ext_getElem?
   intro j
   by_cases hj:j<n*ks.length
   ·have h0:0<ks.length:=Nat.pos_of_ne_zero fun h=>by rw[h]at hj;omega
    have hr:j %ks.length<ks.length:=Nat.mod_lt _ h0
    have hi:j/ks.length<n:=Nat.div_lt_of_lt_mul (by rw[Nat.mul_comm];exact hj)
    have hjj:j=j/ks.length*ks.length+j %ks.length:=by rw[Nat.mul_comm];exact(Nat.div_add_mod j ks.length).symm
    generalize j/ks.length=i at*
    generalize j %ks.length=r at*
    subst hjj
    obtain⟨b,hb,hf⟩:=Lib.mapM_at hm i i (by simp[hi])
    have hg:=congrArg (·[i]?) NM
    simp only[List.getElem?_map,hb,Option.map_some]at hg
    obtain⟨z,hzi⟩:∃z,zs[i]?=some z:=⟨zs[i]'(by omega),List.getElem?_eq_getElem (by omega)⟩
    rw[hzi,Option.map_some,Option.some.injEq]at hg
    rw[RU hz i r hr,hzi]
    have fh:cs[i*ks.length+r]?=((cs.drop (i*ks.length)).take ks.length)[r]?:=by
     rw[List.getElem?_take_of_lt hr,List.getElem?_drop]
    rw[fh]
    generalize (cs.drop (i*ks.length)).take ks.length=c at*
    cases fuel with
    |zero=>simp[DataW.trod]at hf
    | succ fuel =>
     simp only[DataW.trod,he,hce]at hf
     split at hf
     ·obtain⟨ys,hmy,hy⟩:=Option.map_eq_some_iff.1 hf
      obtain⟨f,oD⟩:∃f,fs.toList[r]?=some f:=⟨_,List.getElem?_eq_getElem (by omega)⟩
      obtain⟨g1,g2,g4⟩:=hff r hr
      obtain⟨k,g3⟩:∃k,ks[r]?=some k:=⟨_,List.getElem?_eq_getElem hr⟩
      rw[List.getD_eq_getElem?_getD,oD]at g1 g2 g4
      rw[List.getD_eq_getElem?_getD,g3]at g4
      simp only[Option.getD_some]at g1 g2 g4
      obtain⟨y,hyr,E1⟩:=Lib.mapM_at hmy r f oD
      rw[g1,g2]at E1
      obtain⟨x,q1,q2,_⟩:=DataW.trod_int g4 E1
      rw[←hy]at hg
      have Nv:=congrArg (fun d:DataW H=>match d with| .agg l=>l[r]?| _=>none) hg
      simp only[List.getElem?_map,hyr,Option.map_some,List.getElem?_zipWith,g3]at Nv
      have a0:c[r]?=some (.int k x):=by have:=congrArg (·[0]?) q1;simpa[List.getElem?_take,List.getElem?_drop]using this
      obtain⟨u,hu⟩:∃u,z[r]?=some u:=⟨_,List.getElem?_eq_getElem (by rw[hz z (List.mem_of_getElem? hzi)];exact hr)⟩
      rw[hu,q2]at Nv
      simp only[Option.some.injEq,DataW.lit.injEq,Lit.int.injEq,true_and]at Nv
      rw[a0,Nv]
      simp[AV,List.getElem?_zipWith,g3,hu]
     ·cases hf
   ·subst hzl
    rw[List.getElem?_eq_none (by omega),List.getElem?_eq_none (by omega)]
  ·cases h
theorem Ns{P:Program}{W:World}{name:String}{g:Nat}{t e:TypeId}{n:Nat}{fs:Array Field}{ks:List IntKind}{zs:List (List Int)}(T:RecT P t e n fs ks)(hz:∀z∈zs,z.length=ks.length)(hg:P.globalNamed name=some g)(hty:(P.globals[g]?).map (·.type)=some t):
  ∀{l:List (String×DataW Unit)} {ps:List MemPlace},DataW.LaidVars P W l ps→(name,Em ks zs)∈l→W.var? P name=some (fZ ks zs).toArray
 |[],ps,_,hm=>by cases hm
 | (n', d') :: r, ps, h, hm => by
  obtain⟨g',t',cs,fuel,p,q,NA,wO,hvar,hd,hr,_⟩:=h
  rcases List.mem_cons.1 hm with hm|hm
  ·cases hm
   obtain rfl:=Option.some.inj (hg.symm.trans NA)
   obtain rfl:=Option.some.inj (hty.symm.trans wO)
   rw[hvar,←UO T hz hd]
  ·exact Ns T hz hg hty hr hm
theorem RV{W:World}{T:Nat→Prop}:∀{ks:List IntKind} {z:List Int},aY (LR eT W T) ((AV ks z).map .raw) (AV ks z)
 |[],_=> .nil
 | _::_,[]=> .nil
 |k::ks,x::z=> .cons (.raw _ rfl) (RV (ks:=ks) (z:=z))
theorem Nt{W:World}{T:Nat→Prop}{ks:List IntKind}:∀zs:List (List Int),aY (LR eT W T) (au (zs.map (DU ks))) (fZ ks zs)
 |[]=> .nil
 | z :: zs => by
  have hf:∀l:List Value,au (l.map D.raw)=l.map D.raw:=fun l=>by
   induction l with
   |nil=>rfl
   |cons x l ih=>simp[au,D.flat,ih]
  have e:au ((z::zs).map (DU ks))=(AV ks z).map .raw++au (zs.map (DU ks)):=by simp[au,D.flat,DU,hf]
  rw[e]
  exact RV.append (Nt zs)
theorem Nu:∀ks:List IntKind,(pO ks).isAgg=true∧(pO ks).count=ks.length∧∀i,(pO ks).sub i=(ks[i]?).map fun k=>Sh.leaf (.int k)
 |[]=>⟨rfl,rfl,fun i=>by cases i<;>rfl⟩
 |k::ks=>by
  obtain⟨h1,h2,h3⟩:=Nu ks
  refine⟨h1,by simp only[pO,Sh.count,h2,List.length_cons],fun i=>?_⟩
  cases i with
  |zero=>rfl
  |succ i=>exact h3 i
theorem ZO{ks:List IntKind}{z:List Int}(h:z.length=ks.length):aK (pO ks) (DU ks z):=by
 obtain⟨h1,h2,h3⟩:=Nu ks
 refine .agg _ _ h1 (by simp[AV,h,h2]) fun i e d he hd=>?_
 rw[h3]at he
 obtain⟨k,hk,rfl⟩:=Option.map_eq_some_iff.1 he
 simp only[AV,List.getElem?_map,List.getElem?_zipWith,hk]at hd
 cases hz:z[i]? with
 |none=>rw[hz]at hd;cases hd
 |some x=>rw[hz]at hd;cases hd;exact .leaf _ _ (by simp[mE])
theorem IX{P:Program}{W:World}{name:String}{g:Nat}{t e:TypeId}{n:Nat}{fs:Array Field}{ks:List IntKind}{zs:List (List Int)}{l:List (String×DataW Unit)}(h:laidMet P l W)(hm:(name,Em ks zs)∈l)(T:RecT P t e n fs ks)(hz:∀z∈zs,z.length=ks.length)(hg:P.globalNamed name=some g)(hty:(P.globals[g]?).map (·.type)=some t)(h0:0<(fZ ks zs).length):
  LR eT W (old W) (.b5 (.agg (.ar zs.length (pO ks)) (zs.map (DU ks)))) (.pointer (some ⟨g,0,none⟩)):=by
 obtain⟨ps,hv,_⟩:=h
 have hT:=Ns T hz hg hty hv hm
 have hcell:=fun j=>World.var?_cell hg hT j
 refine LR.xW (cs:=fZ ks zs) (s:= .ar zs.length (pO ks)) (.agg _ _ rfl (by simp[Sh.count]) fun i e d h1 h2=>?_) ?_ (Nt zs) fun j x hx=>by rw[Nat.zero_add,hcell j];simpa using hx
 ·simp only[Sh.sub]at h1
  split at h1
  ·cases h1
   obtain⟨z,hm,rfl⟩:=List.mem_map.1 (bN h2)
   exact ZO (hz z hm)
  ·cases h1
 ·have Aq:=hcell 0
  show g<W.heap.size
  rw[World.cell?]at Aq
  split at Aq
  ·rename_i h1;exact(Array.getElem?_eq_some_iff.1 h1).1
  ·have:(fZ ks zs)[0]?=none:=by simpa using Aq.symm
   rw[List.getElem?_eq_none_iff]at this
   omega
end iC
end Go.Am

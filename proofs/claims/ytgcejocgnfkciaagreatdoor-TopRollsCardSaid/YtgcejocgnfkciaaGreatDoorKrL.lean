/- 'TopRolls' returns true for every input: a proof of the given card; its condition: the listed package variables hold what the program's text lays (tied by the card). -/
import Derived.Test.YtgcejocgnfkciaaGreatDoorKr27
import Derived.Test.YtgcejocgnfkciaaGreatDoorCards
import Derived.Test.YtgcejocgnfkciaaGreatDoorTie
import Derived.WalkKit
import Derived.ProofKit
import Derived.OpenShut
import Derived.Deep.DeepHandedRow
namespace Go.Am
set_option linter.unusedSimpArgs false
set_option linter.unusedVariables false
namespace iC
open Go.Am.F
set_option maxRecDepth 10000
theorem imgOk_T(v:Nat)(p sig:List (BitVec 8))(hv:v≤255)(hs:sig.length≤65535):pI (dY v p) sig (lD p)=true:=by
 simp only[pI,GO v p hv,Bool.true_and,Bool.and_eq_true,decide_eq_true_eq]
 exact⟨rfl,hs⟩
theorem GU{x bH sig p:List (BitVec 8)}{least:Int}{j v n:Nat}(hv:v≤255)(hs:sig.length≤65535)(hx:sub x (4096*j) 4096=j3 (dY v p) sig (lD p)++pV n)(KF:so bH (cB (dY v p)) sig=0):
  gT x bH least j=(if(v:Int)<least then 15 else 0)∧gq x j=(dY v p,sig,lD p,0):=by
 have yT:(dY v p).dg.length=32:=dh _
 have hr:=YG (dY v p) sig (lD p) yT (imgOk_T v p sig hv hs)
 have YN:cR (j3 (dY v p) sig (lD p)++pV n)=(dY v p,sig,lD p,0):=by rw[UI (by rw[hr]),hr]
 have Ow:=pH (dY v p) yT
 have ht:(j3 (dY v p) sig (lD p)++pV n).take 48=cB (dY v p):=by
  rw[j3,List.append_assoc]
  exact List.take_left' Ow
 unfold gT gq Gw
 rw[hx,YN,ht]
 refine⟨?_,rfl⟩
 have hd:dU (lD p)=(dY v p).dg:=rfl
 have hvv:(dY v p).v=(v:Int):=rfl
 simp only[KF,hd,hvv,ne_eq,not_true_eq_false,if_false]
theorem RR(q0 q1:List (BitVec 8))(h:q0.length≤4096):sub (oC q0 q1) (4096*0) 4096=q0++pV (4096-q0.length):=by
 have:=ZF q0 q1
 rwa [List.take_of_length_le h]at this
theorem lay_at1(q0 q1:List (BitVec 8))(h:q1.length≤4096):sub (oC q0 q1) (4096*1) 4096=q1++pV (4096-q1.length):=by
 have:=ZG q0 q1
 rwa [List.take_of_length_le h]at this
end iC
end Go.Am
namespace Go.Am
set_option linter.unusedSimpArgs false
set_option linter.unusedVariables false
attribute [local congr] cd bt cg bu bw bO bg bx bz bP a7 bQ bA b9
namespace iC
open Go.Am.F
set_option maxRecDepth 10000
def id1:List (BitVec 8):=z16L.set 0 1#8
theorem RS:(bs z16L).set 0 (.raw (u8 1#8))=bs id1:=rfl
def pN:List (BitVec 8):=ug.set 0 1#8
theorem UJ:(bs ug).set 0 (.raw (u8 1#8))=bs pN:=rfl
def yO(aL:List (BitVec 8)):Sg:=uk 3758096385#32 3#32 id1 aL (kx 3#32 id1 aL (hH 3758096385#32))
theorem KG{s:oJ}(hW:Whole s)(ho:s.o=3#32)(ht:s.t=3758096385#32){q:BitVec 32}(hq:q.toNat<hH s.t)(v:Nat)(p c m:List (BitVec 8))(hc:c.length=32):(iD s q c m).length=2220∧(j3 (dY v p) (iD s q c m) (lD p)).length≤2400:=by
 have h1:=Gi hW.ok (by rw[hW.lv];exact hq) c m hc
 rw[hW.pn hq,ho,ht]at h1
 have h2:(iD s q c m).length=2220:=h1
 have h3:=pH (dY v p) (dh _)
 have h4:=GN p
 refine⟨h2,?_⟩
 rw[j3,List.length_append,List.length_append,List.length_append,h2,h3,h4]
 show 48+(2+_)≤2400
 omega
theorem GV{s:oJ}(h:Whole s){q:BitVec 32}(hq:q.toNat<hH s.t)(c m:List (BitVec 8))(hc:c.length=32):so (fc s) m (iD s q c m)=0:=by
 rw[ver_own h h rfl rfl rfl hq c m hc,if_pos rfl]
theorem ZI{S:wM}{bH sig Vh:List (BitVec 8)}(hx:S.x=oC Vh [])(hc:S.c=GQ bH 0 1)(hp:bH.length=56)(hs:sig.length≤65535)(ZJ:j3 (dY 1 []) sig (lD [])=Vh)(hl:Vh.length≤4096)(KF:so bH (cB (dY 1 [])) sig=0):
  sC S=⟨0,eE,false,false,0⟩∧nxB S=false∧(gq S.x 0).1.s=4:=by
 have hf:dH S.c=2:=(congrArg dH hc).trans (IW bH 0 1 (by decide))
 have hc0:iS S.c=0:=(congrArg iS hc).trans (Np bH 0 1 (by decide))
 have hk:jE S.c=bH:=(congrArg jE hc).trans (Nq bH 0 1 hp)
 have Bn:=GU (x:=oC Vh []) (bH:=bH) (sig:=sig) (p:=[]) (least:=((0:Nat):Int)) (j:=0) (v:=1) (n:=4096-Vh.length) (by decide) hs (by rw[ZJ];exact RR Vh [] hl) KF
 rw[←hx]at Bn
 have e0:gT S.x bH ((0:Nat):Int) 0=0:=Bn.1
 have hr:dJ (some (S.x,false))=(eE,-1):=by rw[hx];exact AU _ _ _
 have P8:sC S=⟨0,eE,false,false,0⟩:=by
  unfold sC
  rw[hf,hc0,hk,hr,e0]
  generalize gT S.x bH ((0:Nat):Int) 1=y
  simp[pL,El,eE]
 refine⟨P8,by unfold nxB;rw[P8];rfl,?_⟩
 rw[Bn.2]
 rfl
structure WkC (C:be):Prop where
 nw0:C.fn 8=none
 nw1:∃C1,C.fU 8=some (aR C1 4 rG rF)∧LmC C1
 pu:C.fn 10=some AB
 im0:C.fn 11=none
 im1:∃C1,C.fU 11=some (aR C1 4 nv nu)∧ImC C1
 la0:C.fn 9=none
 la1:∃C1,C.fU 9=some (aR C1 4 rI rH)∧LayC C1
 bn0:C.fn 14=none
 bn1:∃C1,C.fU 14=some (aR C1 0 oX oW)
 rn0:C.fn 15=none
 rn1:∃C1 C2,C.fU 15=some (aR C1 3 iL cv)∧RnC C1 C2
theorem UK(C:be)(H:WkC C){rows:Rows}{K:D→Rows→Prop}(hk:∀ab,eJ rows ab→K (.raw (.bool true)) ab):aR C 0 nt nk [] rows K:=by
 refine ag rfl ?_
 unfold nk nt
 obtain⟨C1,n1,hL⟩:=H.nw1
 obtain⟨C2,i1,hI⟩:=H.im1
 obtain⟨C3,l1,hY⟩:=H.la1
 obtain⟨C4,b1⟩:=H.bn1
 obtain⟨C5,C6,r1,hR⟩:=H.rn1
 simp only[-List.reduceReplicate,P7,dW]
 simp only[-List.reduceReplicate,↓aj,ak,simprocAttr,aa,aX,RS,UJ,H.nw0,n1]
 refine Nk C1 hL (t:=3758096385#32) (o:=3#32) (id:=id1) (aL:=pN) (by decide) (by decide) (by decide) (by decide) (by decide) fun R1 A hS Vd e1 e2 e3 e4 e5=>?_
 have hW:=IU hS (by decide) (by decide) (by decide) (by decide) (by decide)
 change qa R1 A (yO pN)at hS
 change Whole ((yO pN).v A)at hW
 have kP:=fun k=>MM R1 k _ _ hS.rd hW.ok
 simp only[-List.reduceReplicate,↓aj,ak,simprocAttr,aa,aX,H.pu,kP,H.im0,i1]
 have Zt:=hS.push [some ⟨L8,bs (fc ((yO pN).v A))⟩]
 refine B1 C2 hI (d:= .raw (.slice none 0 0)) (p:=[]) 1 (by decide) Zt hW (by decide) (by decide) (fun more=>ec.to (.inl ⟨rfl,rfl⟩)) rfl (by decide) fun R2 dl r n Zu hn hr Ax hel qY=>?_
 simp only[-List.reduceReplicate,↓aj,ak,simprocAttr,aa,aX,H.la0,l1]
 have sO:(fc ((yO pN).v A)).length=56:=sq hW.ok
 have hpu:=hel _ _ (b6 R1 [some ⟨L8,bs (fc ((yO pN).v A))⟩]) (KB hS (Nat.le_refl _))
 have Z4:(yO pN).nx.toNat<hH ((yO pN).v A).t:=(by decide:(0#32).toNat<hH 3758096385#32)
 have hlen:=KG hW rfl rfl Z4 1 [] (AZ 1) (cB (dY 1 [])) (by decide)
 have KF:=GV hW Z4 (AZ 1) (cB (dY 1 [])) (by decide)
 change so (fc ((yO pN).v A)) (cB (dY 1 [])) (iD ((yO pN).v A) (yO pN).nx (AZ 1) (cB (dY 1 [])))=0 at KF
 generalize hsig:iD ((yO pN).v A) (yO pN).nx (AZ 1) (cB (dY 1 []))=sig at*
 generalize hpub:fc ((yO pN).v A)=bH at*
 generalize ZJ:j3 (dY 1 []) sig (lD [])=Vh at*
 refine Nr C3 hY (bH:=bH) (p0:=Vh) (p1:=[]) 0 1 (by decide) (by decide) (fun R hK=>bc.own (hK _ _ hpu) _ sO.symm) sO (fun R hK=>bc.own (hK _ _ hr) _ hn) (fun R hK=>ec.to (.inl ⟨rfl,rfl⟩)) (by omega) (by decide) rfl rfl fun R3 L hK3 hMx hM hE=>?_
 simp only[↓aj,ak,simprocAttr,aa,aX,H.bn0,b1]
 refine Nn C4 ?_
 simp only[↓aj,ak,simprocAttr,aa,aX,H.rn0,r1]
 generalize hx:oC Vh []=X at hM
 generalize hc:GQ bH 0 1=ch at hM
 generalize w9=rm at hM
 obtain⟨P8,G5,hs4⟩:=ZI (S:=⟨0,rm,X,ch⟩) hx.symm hc.symm sO (by omega) ZJ (by omega) KF
 have hRd:GK (R3++[some ⟨jM,[jF PW]⟩]) L ⟨0,rm,X,ch⟩ R3.length PW zR sl8:=⟨hM.keep fun q row hq _=>aA hq _,hE.keep fun q row hq _=>aA hq _,b6 R3 [some ⟨jM,[jF PW]⟩]⟩
 refine Nj hR (most:=100) (by decide) (by decide) hRd rfl rfl rfl (fun h=>by rw[P8]at h;exact absurd h (by decide)) fun j z hj hi he hz R4 c' B' hw hF hM4 hB4 p1 p2 p3=>?_
 rw[P8]at hi
 have hj0:j=0:=by have:(0:Int)=(j:Int):=hi;omega
 subst hj0
 have hz4:z=4:=by rw[hs4]at hz;omega
 subst hz4
 rw[G5]
 simp only[cz,jF,p1]at hB4
 simp only[↓aj,ak,simprocAttr,aa,aX,hB4]
 refine hk _ fun q row hq=>?_
 have hl:=bn hq
 have wx:=bn (Vd _ _ hq)
 have g1:=hel _ _ (aA (Vd _ _ hq) [some ⟨L8,bs bH⟩]) ⟨by omega,by omega,by omega,by omega,fun ex n e=>by rw[e5]at e;cases e⟩
 have g2:=hK3 _ _ g1
 simp only[List.mem_cons,List.not_mem_nil,or_false,forall_eq_or_imp,forall_eq]at hMx
 have hg:=bn g2
 have G1:=bn hpu
 refine hF _ _ (aA g2 _) ?_
 simp only[Ly.all,List.mem_cons,List.not_mem_nil,or_false,not_or]
 omega
theorem UL(C:be){d e:D}{rows:Rows}{K:D→Rows→Prop}(hk:K (.raw (it 0)) rows):aR C 3 fM fL [d,e,.raw (.slice none 0 0)] rows K:=by
 refine ag rfl ?_
 unfold fL fM
 simp only[↓aj,ak,simprocAttr,aa,aX]
 refine fX 1 ?_
 simp only[↓aj,ak,simprocAttr,aa,aX]
 exact hk
def jN(s:JS):JS:=if bK s then⟨1#32,s.a,s.t,s.n⟩else eE
theorem ZK(s:JS)(a b n:Nat):
  let e0:Int:=if(a:Int)<(n:Int)then 15 else 0
  let e1:Int:=if(b:Int)<(n:Int)then 15 else 0
  let c:=pL 2 (jN s) e0 e1
  (c.i=-1→c.e=3∧a<n∧b<n)∧(c.i=0→n≤a∧(bK s=false∨0≤s.t∨(s.a=0∧a<n∨s.a=1∧b<n)∨s.a=0))∧(c.i=1→n≤b∧(bK s=false∨0≤s.t∨(s.a=0∧a<n∨s.a=1∧b<n)∨s.a=1)):=by
 intro e0 e1 c
 have hr:bK (jN s)=true:=by
  unfold jN
  cases h:bK s
  ·rfl
  ·exact h
 have h0:(e0=0↔n≤a):=by
  show(if(a:Int)<(n:Int)then(15:Int)else 0)=0↔n≤a
  split<;>omega
 have h1:(e1=0↔n≤b):=by
  show(if(b:Int)<(n:Int)then(15:Int)else 0)=0↔n≤b
  split<;>omega
 have hk:∀i,El e0 e1 i=true↔i=0∧n≤a∨i=1∧n≤b:=fun i=>by
  simp only[El,Bool.or_eq_true,Bool.and_eq_true,decide_eq_true_eq,h0,h1]
 have hJ:bK s=true→(jN s).a=s.a∧(jN s).t=s.t:=fun h=>by unfold jN;rw[if_pos h];exact⟨rfl,rfl⟩
 have hrs:bK s=true→(s.a=0∨s.a=1)∧(s.t=0∨s.t=1∨s.t=-1):=fun h=>by
  simp only[bK,iE,Bool.and_eq_true,Bool.or_eq_true,decide_eq_true_eq]at h
  omega
 simp only[bK,iE,Bool.and_eq_true,Bool.or_eq_true,decide_eq_true_eq]at hr
 have hc:c=pL 2 (jN s) e0 e1:=rfl
 unfold pL at hc
 rw[if_neg (by decide),if_neg (by decide)]at hc
 rw[hc]
 generalize jN s=J at*
 clear_value e0 e1
 clear hc
 cases c1:El e0 e1 J.t&&decide (J.n<3)
 ·cases c2:El e0 e1 J.a
  ·cases c3:El e0 e1 (1-J.a)
   ·have n2:¬(J.a=0∧n≤a∨J.a=1∧n≤b):=fun h=>by rw[(hk _).2 h]at c2;cases c2
    have n3:¬(1-J.a=0∧n≤a∨1-J.a=1∧n≤b):=fun h=>by rw[(hk _).2 h]at c3;cases c3
    simp only[cond_false]
    refine⟨fun _=>⟨trivial,by omega,by omega⟩,fun h=>absurd h (by decide),fun h=>absurd h (by decide)⟩
   ·have n3:=(hk _).1 c3
    have n2:¬(J.a=0∧n≤a∨J.a=1∧n≤b):=fun h=>by rw[(hk _).2 h]at c2;cases c2
    simp only[cond_false,cond_true]
    refine⟨fun h=>by omega,fun h=>⟨by omega,?_⟩,fun h=>⟨by omega,?_⟩⟩
    ·cases hs:bK s
     ·exact .inl rfl
     ·have:=hJ hs;omega
    ·cases hs:bK s
     ·exact .inl rfl
     ·have:=hJ hs;omega
  ·have n2:=(hk _).1 c2
   simp only[cond_false,cond_true]
   refine⟨fun h=>by omega,fun h=>⟨by omega,?_⟩,fun h=>⟨by omega,?_⟩⟩
   ·cases hs:bK s
    ·exact .inl rfl
    ·have:=hJ hs;omega
   ·cases hs:bK s
    ·exact .inl rfl
    ·have:=hJ hs;omega
 ·have n1:=(hk _).1 (Bool.and_eq_true_iff.1 c1).1
  simp only[cond_true]
  refine⟨fun h=>by omega,fun h=>⟨by omega,?_⟩,fun h=>⟨by omega,?_⟩⟩
  ·cases hs:bK s
   ·exact .inl rfl
   ·have:=hJ hs;omega
  ·cases hs:bK s
   ·exact .inl rfl
   ·have:=hJ hs;omega
def ZL(x:List (BitVec 8))(s:JS)(q:Nat):List (BitVec 8):=bif j4 (some (x,false)) s then IL x (jL (some (x,false)) s q)else x
theorem UM(p0 p1:List (BitVec 8))(s:JS):j4 (some (oC p0 p1,false)) s=bK s:=by
 unfold j4
 rw[AU]
 rfl
theorem rlX_len(x:List (BitVec 8))(s:JS)(q:Nat):(ZL x s q).length=x.length:=by
 unfold ZL
 cases j4 (some (x,false)) s
 ·rfl
 ·exact me _ _
theorem RT{x:List (BitVec 8)}(hx:x.length=10240)(s:JS)(q a n:Nat)(h:a+n≤8192):sub (ZL x s q) a n=sub x a n:=by
 refine sub_eq (rlX_len x s q) fun t h1 h2=>?_
 unfold ZL
 cases j4 (some (x,false)) s
 ·rfl
 ·exact AM (by omega) t (.inl (by rcases vX (some (x,false))with e|e<;>rw[e]<;>omega))
theorem ZM(p0 p1:List (BitVec 8))(s:JS)(q:Nat):(dJ (some (ZL (oC p0 p1) s q,false))).1=jN s:=by
 have hl:=AT p0 p1
 have hb:=UM p0 p1 s
 unfold ZL jN
 cases h:bK s
 ·rw[hb,h,cond_false,AU];rfl
 ·rw[h]at hb
  rw[hb,cond_true,vW _ _ (by rw[me,hl];decide),YS (by rw[hl];decide) hb]
  unfold fg
  rw[AU];rfl
theorem next_do(C:be)(H:DoC C){R:Rows}{L:Ly}{S:wM}{dc:D}{s:JS}(hM:fB R L S){K:D→Rows→Prop}
  (hk:∀R',fB R' L {S with x:=ZL S.x s (R.length+2)}→Fr [L.m] R R'→K (.raw (it 0)) R'):
  aR C 3 fM fL [.ptr SF L.f [0],dc,Dc (some (S.x,false)) s R.length] (R++Db (some (S.x,false)) s R.length) K:=by
 obtain⟨C1,r1,hT⟩:=H.t1
 have hx:=hM.xl
 have hlt:=hM.fl.lt
 unfold Dc Db ZL at*
 cases hb:j4 (some (S.x,false)) s
 ·rw[hb]at hk
  simp only[cond_false]at hk⊢
  exact UL C (hk _ (hM.keep fun q row hq _=>aA hq _) (Fr.app _ _ _))
 ·rw[hb]at hk
  simp only[cond_true]at hk⊢
  have hro:=cD R ([some ⟨SJ,[jD (fg (some (S.x,false)) s)]⟩,some ⟨SJ,[jD (dJ (some (S.x,false))).1]⟩]++[some ⟨L8,bs (cU (fg (some (S.x,false)) s))⟩,some ⟨AL,(jL (some (S.x,false)) s (R.length+2)).map JO.D⟩]) 3
  have hq:=cD R ([some ⟨SJ,[jD (fg (some (S.x,false)) s)]⟩,some ⟨SJ,[jD (dJ (some (S.x,false))).1]⟩]++[some ⟨L8,bs (cU (fg (some (S.x,false)) s))⟩,some ⟨AL,(jL (some (S.x,false)) s (R.length+2)).map JO.D⟩]) 2
  refine PF C C1 (ops:=jL (some (S.x,false)) s (R.length+2)) (hM.fl.push _) (by omega) (hro.trans rfl) (by omega) rfl (Nat.le_of_ble_eq_true rfl) ?_ hT.af hT.t0 hT.t1 H.al H.t0 r1 fun R' U=>hk R' ?_ ?_
  ·intro j o ho
   obtain⟨g1,g2,g3⟩:=Rr (x:=S.x) (K:=some (S.x,false)) (s:=s) (q:=R.length+2) (by omega) j o ho
   refine⟨?_,g2,g3⟩
   match j with
   |0=>cases ho;exact .er
   |1=>
    cases ho
    have:=KQ.wr (m:=L.m) (R.length+2) (cU (fg (some (S.x,false)) s)) false (hq.trans rfl) (by rw[eY];omega) (by rw[eY];omega) (by omega)
    rwa [eY]at this
   |j+2=>cases ho
  ·exact(hM.keep fun q row hq _=>aA hq _).wr U (by rw[me];exact hx)
  ·intro q row hq hn
   exact U.frame q row (aA hq _) (by simpa using hn)
theorem P9(s:Sg)(L L':yI)(c m:List (BitVec 8)):fc ((s.next c m).v L')=fc (s.v L):=rfl
theorem qa.elsN{rows:Rows}{L:yI}{s:Sg}(h:qa rows L s){q:Nat}{t:Sh}{l:List D}(hq:live rows q=some ⟨t,l⟩)(ht:t≠iG∧t≠ .ar 32 L8∧t≠AA∧t≠C9∧t≠jZ):B0 rows L s q:=
 ⟨(fC h.a hq ht.1.symm).symm,(fC h.n hq ht.2.1.symm).symm,(fC h.m hq ht.2.2.1.symm).symm,(fC h.t hq ht.2.2.2.1.symm).symm,ia h.l hq ht.2.2.2.2⟩
theorem ZN{S:wM}{bH s0 s1 i0 i1 p0 p1:List (BitVec 8)}{v0 v1 n q:Nat}{s:JS}(hx:S.x=ZL (oC i0 i1) s q)(hc:S.c=GQ bH n 1)(hv0:v0≤255)(Z2:v1≤255)(hn:n<256)(hp:bH.length=56)(Ce:s0.length≤65535)(hs1:s1.length≤65535)(h0:j3 (dY v0 p0) s0 (lD p0)=i0)(h1:j3 (dY v1 p1) s1 (lD p1)=i1)(l0:i0.length≤4096)(l1:i1.length≤4096)
  (e0:so bH (cB (dY v0 p0)) s0=0)(e1:so bH (cB (dY v1 p1)) s1=0):
  sC S=pL 2 (jN s) (if(v0:Int)<(n:Int)then 15 else 0) (if(v1:Int)<(n:Int)then 15 else 0)∧(gq S.x 0).1=dY v0 p0∧(gq S.x 1).1=dY v1 p1:=by
 have hl:=AT i0 i1
 have hf:dH S.c=2:=(congrArg dH hc).trans (IW bH n 1 (by decide))
 have hc0:iS S.c=n:=(congrArg iS hc).trans (Np bH n 1 hn)
 have hk:jE S.c=bH:=(congrArg jE hc).trans (Nq bH n 1 hp)
 have a0:=GU (least:=(n:Int)) (x:=S.x) hv0 Ce (j:=0) (n:=4096-i0.length) (by rw[hx,RT hl _ _ _ _ (by decide),RR _ _ l0,h0]) e0
 have a1:=GU (least:=(n:Int)) (x:=S.x) Z2 hs1 (j:=1) (n:=4096-i1.length) (by rw[hx,RT hl _ _ _ _ (by decide),lay_at1 _ _ l1,h1]) e1
 refine⟨?_,by rw[a0.2],by rw[a1.2]⟩
 have b0:gT S.x bH (n:Int) 0=_:=a0.1
 have b1:gT S.x bH (n:Int) 1=_:=a1.1
 have hr:(dJ (some (S.x,false))).1=jN s:=by rw[hx];exact ZM _ _ _ _
 unfold sC
 rw[hf,hc0,hk,hr,b0,b1]
 rfl
structure RlC (C:be):Prop where
 k:WkC C
 wk0:C.fn 7=none
 wk1:∃C1,C.fU 7=some (aR C1 0 nt nk)∧WkC C1
 nx0:C.fn 13=none
 nx1:C.fU 13=none
 nx2:C.Vk 13=some De
 j0:C.fn 12=none
 j1:∃C1,C.fU 12=some (aR C1 3 fM fL)∧DoC C1
 ri:C.fn 16=some mZ
theorem qJ(rows:Rows)(k:D→Rows→Prop)(s:JS):aJ mZ rows k [jD s]=k (.raw (.bool (bK s))) rows:=J4 rows k s
set_option maxHeartbeats 2000000 in
theorem UN(C:be)(H:RlC C)(aL:List (BitVec 8))(hseed:aL.length=32)(a b n:BitVec 8)(s:JS):aR C 5 lS lR [.agg (.ar 32 L8) (bs aL),.raw (u8 a),.raw (u8 b),.raw (u8 n),jD s] [] (fun d _=>d= .raw (.bool true)):=by
 refine ag rfl ?_
 unfold lR lS
 obtain⟨W1,w1,hWk⟩:=H.wk1
 obtain⟨C1,n1,hL⟩:=H.k.nw1
 obtain⟨C2,i1,hI⟩:=H.k.im1
 obtain⟨C3,l1,hY⟩:=H.k.la1
 obtain⟨C4,b1⟩:=H.k.bn1
 obtain⟨C5,C6,r1,hR⟩:=H.k.rn1
 obtain⟨C7,j1,hD⟩:=H.j1
 have jf:=cw s
 simp only[-List.reduceReplicate,P7]
 simp only[-List.reduceReplicate,↓aj,ak,simprocAttr,aa,aX,jf,H.wk0,w1]
 refine UK W1 hWk fun R0 hK0=>?_
 have Ce:=hK0 0 ⟨.ar 32 L8,[.agg (.ar 32 L8) (bs aL)]⟩ rfl
 have hj0:=hK0 1 ⟨SJ,[jD s]⟩ rfl
 simp only[-List.reduceReplicate,↓aj,ak,simprocAttr,aa,aX,Ce,RS,H.k.nw0,n1]
 refine Nk C1 hL (t:=3758096385#32) (o:=3#32) (id:=id1) (aL:=aL) (by decide) (by decide) (by decide) (by decide) hseed fun R1 A hS Vd e1 e2 e3 e4 e5=>?_
 have hW:=IU hS (by decide) (by decide) (by decide) (by decide) hseed
 change qa R1 A (yO aL)at hS
 change Whole ((yO aL).v A)at hW
 have kP:=fun k=>MM R1 k _ _ hS.rd hW.ok
 simp only[-List.reduceReplicate,↓aj,ak,simprocAttr,aa,aX,H.k.pu,kP,H.k.im0,i1]
 have Zt:=hS.push [some ⟨L8,bs (fc ((yO aL).v A))⟩]
 have ha:=a.isLt
 have hb:=b.isLt
 have hn:=n.isLt
 have sO:(fc ((yO aL).v A)).length=56:=sq hW.ok
 have hpu1:=b6 R1 [some ⟨L8,bs (fc ((yO aL).v A))⟩]
 have hj1:=aA (Vd _ _ hj0) [some ⟨L8,bs (fc ((yO aL).v A))⟩]
 have Z4:(yO aL).nx.toNat<hH ((yO aL).v A).t:=(by decide:(0#32).toNat<hH 3758096385#32)
 have hlen:=KG hW rfl rfl Z4 a.toNat [] (AZ a.toNat) (cB (dY a.toNat [])) (by rw[AZ,List.length_set];rfl)
 have KF:=GV hW Z4 (AZ a.toNat) (cB (dY a.toNat [])) (by rw[AZ,List.length_set];rfl)
 refine B1 C2 hI (d:= .raw (.slice none 0 0)) (p:=[]) a.toNat (by omega) Zt hW Z4 (Nat.zero_le 1000) (fun more=>ec.to (.inl ⟨rfl,rfl⟩)) rfl (by decide) fun R2 dl r m Zu hm hr Ax hel qY=>?_
 have hW3:=PY hW Zu
 have hpu2:=hel _ _ hpu1 (Zt.els hpu1)
 have Wb:=hel _ _ hj1 (Zt.elsN hj1 (by decide))
 have Sw:((yO aL).next (AZ a.toNat) (cB (dY a.toNat []))).nx.toNat<hH (((yO aL).next (AZ a.toNat) (cB (dY a.toNat []))).v (A.next dl)).t:=(by decide:(0#32+1#32).toNat<hH 3758096385#32)
 have Qi:=KG hW3 rfl rfl Sw b.toNat [] (AZ b.toNat) (cB (dY b.toNat [])) (by rw[AZ,List.length_set];rfl)
 have hver2:=GV hW3 Sw (AZ b.toNat) (cB (dY b.toNat [])) (by rw[AZ,List.length_set];rfl)
 rw[P9 _ A]at hver2
 simp only[-List.reduceReplicate,↓aj,ak,simprocAttr,aa,aX,H.k.im0,i1]
 refine B1 C2 hI (d:= .raw (.slice none 0 0)) (p:=[]) b.toNat (by omega) Zu hW3 Sw (Nat.le_of_ble_eq_true rfl) (fun more=>ec.to (.inl ⟨rfl,rfl⟩)) rfl (by decide) fun R3 dl2 r2 m2 hS4 LF YN hrl2 hel2 hdl2=>?_
 have hpu3:=hel2 _ _ hpu2 (Zu.els hpu2)
 have hj3:=hel2 _ _ Wb (Zu.elsN Wb (by decide))
 have hr3:=hel2 _ _ hr (Zu.els hr)
 clear hel hel2 qY hdl2 hS Zt Zu hS4 hW hW3 hK0 Vd Ce
 simp only[↓aj,ak,simprocAttr,aa,aX,H.k.la0,l1]
 change so (fc ((yO aL).v A)) (cB (dY a.toNat [])) (iD ((yO aL).v A) (yO aL).nx (AZ a.toNat) (cB (dY a.toNat [])))=0 at KF
 generalize hsig2:iD (((yO aL).next (AZ a.toNat) (cB (dY a.toNat []))).v (A.next dl)) ((yO aL).next (AZ a.toNat) (cB (dY a.toNat []))).nx (AZ b.toNat) (cB (dY b.toNat []))=sig2 at*
 generalize hsig:iD ((yO aL).v A) (yO aL).nx (AZ a.toNat) (cB (dY a.toNat []))=sig at*
 generalize hpub:fc ((yO aL).v A)=bH at*
 generalize ZJ:j3 (dY a.toNat []) sig (lD [])=Vh at*
 generalize himg2:j3 (dY b.toNat []) sig2 (lD [])=img2 at*
 refine Nr C3 hY (bH:=bH) (p0:=Vh) (p1:=img2) n.toNat 1 (by omega) (by decide) (fun R hK=>bc.own (hK _ _ hpu3) _ sO.symm) sO (fun R hK=>bc.own (hK _ _ hr3) _ hm) (fun R hK=>bc.own (hK _ _ YN) _ LF) (by omega) (by omega) rfl rfl fun R4 L hK4 hMx hM hE=>?_
 have hj4:=hK4 _ _ hj3
 generalize hX:oC Vh img2=X at hM
 generalize CY:GQ bH n.toNat 1=ch at hM
 generalize w9=rm at hM
 have hX2:X.length=10240:=by rw[←hX];exact AT _ _
 have IR:=hM
 obtain⟨⟨co,p,nY⟩,⟨pt,hsp⟩,Ax,lz,yR,hchp⟩:=hM
 simp only[NE]at nY
 simp only[uH]at hsp
 have hN:=Kw (x:=X) (s:=s) lz (by omega) (by omega)
 simp only[↓aj,ak,simprocAttr,aa,aX,nY,hsp,hj4,jf,H.nx0,H.nx1,H.nx2,hN,H.j0,j1]
 refine next_do C7 hD (S:=⟨0,rm,X,ch⟩) IR fun R5 hM5 hF5=>?_
 have hl3:=bn hj3
 simp only[List.mem_cons,List.not_mem_nil,or_false,forall_eq_or_imp,forall_eq]at hMx
 have hj5:=hF5 _ _ hj4 (by simp;omega)
 have hE5:DS R5 L zR sl8:=hE.keep fun q row hq hn=>hF5 q row hq (by
  obtain⟨ke,ne,hee⟩:=hE.e
  have d1:=fH hee IR.fl.dat (by intro h;cases h)
  have d2:=fH hE.s IR.fl.dat (by intro h;cases h)
  rcases hn with rfl|rfl<;>simpa using ‹_›)
 obtain⟨P8,hI0,hI1⟩:=ZN (S:=⟨0,rm,ZL X s (R4.length+2),ch⟩) (s:=s) (q:=R4.length+2) (by rw[hX]) CY.symm (by omega) (by omega) hn sO (by omega) (by omega) ZJ himg2 (by omega) (by omega) KF hver2
 generalize ZL X s (R4.length+2)=Y at*
 have hRd:GK (R5++[some ⟨jM,[jF PW]⟩]) L ⟨0,rm,Y,ch⟩ R5.length PW zR sl8:=⟨hM5.keep fun q row hq _=>aA hq _,hE5.keep fun q row hq _=>aA hq _,b6 R5 [some ⟨jM,[jF PW]⟩]⟩
 obtain⟨l1,l2,l3⟩:=ZK s a.toNat b.toNat n.toNat
 rw[←P8]at l1 l2 l3
 have hl5:=bn hj5
 have hrs:bK s=true→s.a=0∨s.a=1:=fun h=>by
  simp only[bK,iE,Bool.and_eq_true,Bool.or_eq_true,decide_eq_true_eq]at h
  omega
 simp only[↓aj,ak,simprocAttr,aa,aX,H.k.bn0,b1]
 refine Nn C4 ?_
 simp only[↓aj,ak,simprocAttr,aa,aX,H.k.rn0,r1]
 refine Nj hR (most:=200) (by decide) (by decide) hRd rfl rfl rfl (fun hi R6 k B' hk hF hB p1 p2 hM6=>?_) fun j z hj hi he hz R6 c' B' hw hF hM6 hB p1 p2 p3=>?_
 ·obtain⟨q1,q2,q3⟩:=l1 hi
  have p2:=p2.trans q1
  have ca:(a<n)=True:=eq_true (BitVec.lt_def.2 q2)
  have cb:(b<n)=True:=eq_true (BitVec.lt_def.2 q3)
  simp only[cz,jF,p1,p2]at hB
  simp only[↓aj,ak,simprocAttr,aa,aX,hB,ca,cb,decide_true]
 have hj6:=hF _ _ (aA hj5 _) (by
  simp only[Ly.all,List.mem_cons,List.not_mem_nil,or_false,not_or]
  omega)
 have hjA:=fun l=>aA hj6 l
 have mg:∀m,(cO m).get [0]=some (.raw (it m.v)):=fun _=>rfl
 have mv:∀v p,(dY v p).v=(v:Int):=fun _ _=>rfl
 rcases(by omega:j=0∨j=1)with rfl|rfl
 ·obtain⟨g1,g2⟩:=l2 hi
  have c1:((n.toNat:Int)≤(a.toNat:Int))=True:=eq_true (by omega)
  have p3:B'.kf=dY a.toNat []:=p3.trans hI0
  simp only[cz,jF,p1,p2,p3]at hB
  have hBA:=fun l=>aA hB l
  cases hs:bK s
  ·simp only[↓aj,ak,simprocAttr,aa,aX,hB,hBA,mg,mv,c1,decide_true,hj6,hjA,jf,H.ri,qJ,hs]
  ·by_cases ht:0≤s.t
   ·have ct:(0≤s.t)=True:=eq_true ht
    simp only[↓aj,ak,simprocAttr,aa,aX,hB,hBA,mg,mv,c1,decide_true,hj6,hjA,jf,H.ri,qJ,hs,As,ct]
   ·have ct:(0≤s.t)=False:=eq_false ht
    have hnf:bK s≠false:=by rw[hs];decide
    rcases hrs hs with ea|ea
    ·have cc:(a<n)=False:=eq_false fun h=>by have:=BitVec.lt_def.1 h;omega
     simp only[↓aj,ak,simprocAttr,aa,aX,hB,hBA,mg,mv,c1,decide_true,hj6,hjA,jf,H.ri,qJ,hs,uh,As,ct,ea,cc,decide_false]
    ·have cc:(b<n)=True:=eq_true (BitVec.lt_def.2 (by have:=g2.resolve_left hnf;omega))
     simp only[↓aj,ak,simprocAttr,aa,aX,hB,hBA,mg,mv,c1,decide_true,hj6,hjA,jf,H.ri,qJ,hs,uh,As,ct,ea,cc,decide_false]
 ·obtain⟨g1,g2⟩:=l3 hi
  have c1:((n.toNat:Int)≤(b.toNat:Int))=True:=eq_true (by omega)
  have p3:B'.kf=dY b.toNat []:=p3.trans hI1
  simp only[cz,jF,p1,p2,p3]at hB
  have hBA:=fun l=>aA hB l
  cases hs:bK s
  ·simp only[↓aj,ak,simprocAttr,aa,aX,hB,hBA,mg,mv,c1,decide_true,hj6,hjA,jf,H.ri,qJ,hs]
  ·by_cases ht:0≤s.t
   ·have ct:(0≤s.t)=True:=eq_true ht
    simp only[↓aj,ak,simprocAttr,aa,aX,hB,hBA,mg,mv,c1,decide_true,hj6,hjA,jf,H.ri,qJ,hs,As,ct]
   ·have ct:(0≤s.t)=False:=eq_false ht
    have hnf:bK s≠false:=by rw[hs];decide
    rcases hrs hs with ea|ea
    ·have cc:(a<n)=True:=eq_true (BitVec.lt_def.2 (by have:=g2.resolve_left hnf;omega))
     simp only[↓aj,ak,simprocAttr,aa,aX,hB,hBA,mg,mv,c1,decide_true,hj6,hjA,jf,H.ri,qJ,hs,uh,As,ct,ea,cc,decide_false]
    ·have cc:(b<n)=False:=eq_false fun h=>by have:=BitVec.lt_def.1 h;omega
     simp only[↓aj,ak,simprocAttr,aa,aX,hB,hBA,mg,mv,c1,decide_true,hj6,hjA,jf,H.ri,qJ,hs,uh,As,ct,ea,cc,decide_false]
end iC
end Go.Am
namespace Go.Am
set_option linter.unusedSimpArgs false
set_option linter.unusedVariables false
namespace iC
open Go.Am.F
set_option maxRecDepth 10000
def AV(ks:List IntKind)(z:List Int):List Value:=List.zipWith Value.int ks z
def Em{H:Type}(ks:List IntKind)(zs:List (List Int)):DataW H:= .agg (zs.map fun z=> .agg (List.zipWith (fun k x=> .lit (.int k x)) ks z))
def fZ(ks:List IntKind)(zs:List (List Int)):List Value:=zs.flatMap (AV ks)
def pO:List IntKind→Sh
 |[]=> .nil
 |k::ks=> .cons (.leaf (.int k)) (pO ks)
def DU(ks:List IntKind)(z:List Int):D:= .agg (pO ks) ((AV ks z).map .raw)
theorem rec_len{ks:List IntKind}{zs:List (List Int)}(h:∀z∈zs,z.length=ks.length):(fZ ks zs).length=zs.length*ks.length:=by
 induction zs with
 |nil=>simp[fZ]
 |cons z zs ih=>
  have:=ih fun x hx=>h x (.tail _ hx)
  simp only[fZ,List.flatMap_cons,List.length_append,AV,List.length_zipWith,h z (.head _),Nat.min_self,List.length_cons,Nat.succ_mul]at this⊢
  omega
theorem RU{ks:List IntKind}:∀{zs:List (List Int)},(∀z∈zs,z.length=ks.length)→∀(i r:Nat),r<ks.length→(fZ ks zs)[i*ks.length+r]?=(zs[i]?).bind fun z=>(AV ks z)[r]?
 |[],_,i,r,_=>by simp[fZ]
 |z::zs,h,0,r,hr=>by
  have hz:=h z (.head _)
  simp only[fZ,List.flatMap_cons,Nat.zero_mul,Nat.zero_add]
  rw[List.getElem?_append_left (by simp[AV,hz,hr])];rfl
 |z::zs,h,i+1,r,hr=>by
  have hz:=h z (.head _)
  have ih:=RU (ks:=ks) (fun x hx=>h x (.tail _ hx)) i r hr
  simp only[fZ,List.flatMap_cons]at ih⊢
  rw[List.getElem?_append_right (by simp[AV,hz,Nat.succ_mul];omega)]
  have:(i+1)*ks.length+r-(AV ks z).length=i*ks.length+r:=by simp[AV,hz,Nat.succ_mul];omega
  rw[this,ih];rfl
structure RecT (P:Program) (t e:TypeId) (n:Nat) (fs:Array Field) (ks:List IntKind):Prop where
 ht:P.underlying t=some (.array n e)
 he:P.underlying e=some (.struct fs)
 fl:fs.toList.length=ks.length
 ff:∀r,r<ks.length→(fs.toList.getD r default).offset=r∧P.cellsOf (fs.toList.getD r default).type=1∧P.underlying (fs.toList.getD r default).type=some (.int (ks.getD r .i64))
 ce:P.cellsOf e=ks.length
 ct:P.cellsOf t=n*ks.length
theorem UO{H:Type}{enc:TypeId×Value→H}{P:Program}{w:World}{base:Nat}{sp:Nat→Bool}{held:Bool}{fuel:Nat}{t e:TypeId}{n:Nat}{fs:Array Field}{ks:List IntKind}{cs:List Value}{zs:List (List Int)}{p:List MemPlace}(T:RecT P t e n fs ks)(hz:∀z∈zs,z.length=ks.length)
  (h:DataW.trod enc P w base sp held fuel t cs=some (Em ks zs,p)):cs=fZ ks zs:=by
 obtain⟨ht,he,lz,hff,hce,hct⟩:=T
 cases fuel with
 |zero=>simp[DataW.trod]at h
 | succ fuel =>
  simp only[DataW.trod,ht,hce,hct]at h
  split at h
  ·rename_i hl
   obtain⟨xs,hm,hx⟩:=Option.map_eq_some_iff.1 h
   have NM:xs.map (·.1)=zs.map fun z=>(DataW.agg (List.zipWith (fun k x=> .lit (.int k x)) ks z):DataW H):=by
    have:=congrArg Prod.fst hx
    simpa[Em]using this
   have yR:xs.length=n:=by simpa using Lib.mapM_length hm
   have hzl:zs.length=n:=by
    have:=congrArg List.length NM
    simp at this
    omega
   have Ax:=rec_len hz
   apply List.ext_getElem?
   intro j
   by_cases hj:j<n*ks.length
   ·have h0:0<ks.length:=Nat.pos_of_ne_zero fun h=>by rw[h]at hj;omega
    have hr:j %ks.length<ks.length:=Nat.mod_lt _ h0
    have hi:j/ks.length<n:=Nat.div_lt_of_lt_mul (by rw[Nat.mul_comm];exact hj)
    have hjj:j=j/ks.length*ks.length+j %ks.length:=by rw[Nat.mul_comm];exact(Nat.div_add_mod j ks.length).symm
    generalize j/ks.length=i at*
    generalize j %ks.length=r at*
    subst hjj
    obtain⟨b,hb,hf⟩:=Lib.mapM_at hm i i (by simp[hi])
    have hg:=congrArg (·[i]?) NM
    simp only[List.getElem?_map,hb,Option.map_some]at hg
    obtain⟨z,hzi⟩:∃z,zs[i]?=some z:=⟨zs[i]'(by omega),List.getElem?_eq_getElem (by omega)⟩
    rw[hzi,Option.map_some,Option.some.injEq]at hg
    rw[RU hz i r hr,hzi]
    have fh:cs[i*ks.length+r]?=((cs.drop (i*ks.length)).take ks.length)[r]?:=by
     rw[List.getElem?_take_of_lt hr,List.getElem?_drop]
    rw[fh]
    generalize (cs.drop (i*ks.length)).take ks.length=c at*
    cases fuel with
    |zero=>simp[DataW.trod]at hf
    | succ fuel =>
     simp only[DataW.trod,he,hce]at hf
     split at hf
     ·obtain⟨ys,hmy,hy⟩:=Option.map_eq_some_iff.1 hf
      obtain⟨f,oD⟩:∃f,fs.toList[r]?=some f:=⟨_,List.getElem?_eq_getElem (by omega)⟩
      obtain⟨g1,g2,g4⟩:=hff r hr
      obtain⟨k,g3⟩:∃k,ks[r]?=some k:=⟨_,List.getElem?_eq_getElem hr⟩
      rw[List.getD_eq_getElem?_getD,oD]at g1 g2 g4
      rw[List.getD_eq_getElem?_getD,g3]at g4
      simp only[Option.getD_some]at g1 g2 g4
      obtain⟨y,hyr,E1⟩:=Lib.mapM_at hmy r f oD
      rw[g1,g2]at E1
      obtain⟨x,q1,q2,_⟩:=DataW.trod_int g4 E1
      rw[←hy]at hg
      have Nv:=congrArg (fun d:DataW H=>match d with| .agg l=>l[r]?| _=>none) hg
      simp only[List.getElem?_map,hyr,Option.map_some,List.getElem?_zipWith,g3]at Nv
      have a0:c[r]?=some (.int k x):=by have:=congrArg (·[0]?) q1;simpa[List.getElem?_take,List.getElem?_drop]using this
      obtain⟨u,hu⟩:∃u,z[r]?=some u:=⟨_,List.getElem?_eq_getElem (by rw[hz z (List.mem_of_getElem? hzi)];exact hr)⟩
      rw[hu,q2]at Nv
      simp only[Option.some.injEq,DataW.lit.injEq,Lit.int.injEq,true_and]at Nv
      rw[a0,Nv]
      simp[AV,List.getElem?_zipWith,g3,hu]
     ·cases hf
   ·subst hzl
    rw[List.getElem?_eq_none (by omega),List.getElem?_eq_none (by omega)]
  ·cases h
theorem Ns{P:Program}{W:World}{name:String}{g:Nat}{t e:TypeId}{n:Nat}{fs:Array Field}{ks:List IntKind}{zs:List (List Int)}(T:RecT P t e n fs ks)(hz:∀z∈zs,z.length=ks.length)(hg:P.globalNamed name=some g)(hty:(P.globals[g]?).map (·.type)=some t):
  ∀{l:List (String×DataW Unit)} {ps:List MemPlace},DataW.LaidVars P W l ps→(name,Em ks zs)∈l→W.var? P name=some (fZ ks zs).toArray
 |[],ps,_,hm=>by cases hm
 | (n', d') :: r, ps, h, hm => by
  obtain⟨g',t',cs,fuel,p,q,NA,wO,hvar,hd,hr,_⟩:=h
  rcases List.mem_cons.1 hm with hm|hm
  ·cases hm
   obtain rfl:=Option.some.inj (hg.symm.trans NA)
   obtain rfl:=Option.some.inj (hty.symm.trans wO)
   rw[hvar,←UO T hz hd]
  ·exact Ns T hz hg hty hr hm
theorem RV{W:World}{T:Nat→Prop}:∀{ks:List IntKind} {z:List Int},aY (LR eT W T) ((AV ks z).map .raw) (AV ks z)
 |[],_=> .nil
 | _::_,[]=> .nil
 |k::ks,x::z=> .cons (.raw _ rfl) (RV (ks:=ks) (z:=z))
theorem Nt{W:World}{T:Nat→Prop}{ks:List IntKind}:∀zs:List (List Int),aY (LR eT W T) (au (zs.map (DU ks))) (fZ ks zs)
 |[]=> .nil
 | z :: zs => by
  have hf:∀l:List Value,au (l.map D.raw)=l.map D.raw:=fun l=>by
   induction l with
   |nil=>rfl
   |cons x l ih=>simp[au,D.flat,ih]
  have e:au ((z::zs).map (DU ks))=(AV ks z).map .raw++au (zs.map (DU ks)):=by simp[au,D.flat,DU,hf]
  rw[e]
  exact RV.append (Nt zs)
theorem Nu:∀ks:List IntKind,(pO ks).isAgg=true∧(pO ks).count=ks.length∧∀i,(pO ks).sub i=(ks[i]?).map fun k=>Sh.leaf (.int k)
 |[]=>⟨rfl,rfl,fun i=>by cases i<;>rfl⟩
 |k::ks=>by
  obtain⟨h1,h2,h3⟩:=Nu ks
  refine⟨h1,by simp only[pO,Sh.count,h2,List.length_cons],fun i=>?_⟩
  cases i with
  |zero=>rfl
  |succ i=>exact h3 i
theorem ZO{ks:List IntKind}{z:List Int}(h:z.length=ks.length):aK (pO ks) (DU ks z):=by
 obtain⟨h1,h2,h3⟩:=Nu ks
 refine .agg _ _ h1 (by simp[AV,h,h2]) fun i e d he hd=>?_
 rw[h3]at he
 obtain⟨k,hk,rfl⟩:=Option.map_eq_some_iff.1 he
 simp only[AV,List.getElem?_map,List.getElem?_zipWith,hk]at hd
 cases hz:z[i]? with
 |none=>rw[hz]at hd;cases hd
 |some x=>rw[hz]at hd;cases hd;exact .leaf _ _ (by simp[mE])
theorem IX{P:Program}{W:World}{name:String}{g:Nat}{t e:TypeId}{n:Nat}{fs:Array Field}{ks:List IntKind}{zs:List (List Int)}{l:List (String×DataW Unit)}(h:laidMet P l W)(hm:(name,Em ks zs)∈l)(T:RecT P t e n fs ks)(hz:∀z∈zs,z.length=ks.length)(hg:P.globalNamed name=some g)(hty:(P.globals[g]?).map (·.type)=some t)(h0:0<(fZ ks zs).length):
  LR eT W (old W) (.b5 (.agg (.ar zs.length (pO ks)) (zs.map (DU ks)))) (.pointer (some ⟨g,0,none⟩)):=by
 obtain⟨ps,hv,_⟩:=h
 have hT:=Ns T hz hg hty hv hm
 have hcell:=fun j=>World.var?_cell hg hT j
 refine LR.xW (cs:=fZ ks zs) (s:= .ar zs.length (pO ks)) (.agg _ _ rfl (by simp[Sh.count]) fun i e d h1 h2=>?_) ?_ (Nt zs) fun j x hx=>by rw[Nat.zero_add,hcell j];simpa using hx
 ·simp only[Sh.sub]at h1
  split at h1
  ·cases h1
   obtain⟨z,hm,rfl⟩:=List.mem_map.1 (bN h2)
   exact ZO (hz z hm)
  ·cases h1
 ·have Aq:=hcell 0
  show g<W.heap.size
  rw[World.cell?]at Aq
  split at Aq
  ·rename_i h1;exact(Array.getElem?_eq_some_iff.1 h1).1
  ·have:(fZ ks zs)[0]?=none:=by simpa using Aq.symm
   rw[List.getElem?_eq_none_iff]at this
   omega
end iC
end Go.Am
namespace Go.Am
namespace iC
open Go.Am.F
open Ms
set_option linter.unusedVariables false
set_option linter.unusedSimpArgs false
set_option maxRecDepth 100000
def tE:List (List Int):=[[1,265,7],[2,133,6],[4,67,4],[8,34,0]]
def tF:List (List Int):=[[0,0],[536870912,4096],[536875008,4096],[268435456,10240],[1073741824,64],[1610612736,256]]
def GW:List Int:=JT.map fun x=>(x.toNat:Int)
def AW:List Int:=qA.map fun x=>(x.toNat:Int)
def tzZ:List Int:=tzL.map fun x=>(x.toNat:Int)
def G0:Nat→Option D:=fun g=>if g=0 then some BJ else if g=2 then some (Tv JT)else if g=5 then some (Tw qA)else if g=1 then some tzD else if g=4 then some Gq else none
noncomputable def T0:List (Nat×Fn):=[(16,mZ),(134,Ek),(130,Au),(66,GH),(198,Uj),(208,M5),(209,Rk),(207,Ko),(206,Rj),(218,Rh),(176,RF),(195,Kt),(129,Gz),(174,AO),(193,Ks),(215,Rg),(219,Rf),(221,Re),(222,Rd),(217,Eh),(214,Km),(213,Eg),(170,vU),(58,yN),(119,Ej),(60,qD),(59,mZ),(120,Au),(118,BX),(57,IK),(116,BS),(103,oB),(163,qS),(188,qS),(105,qG),(168,yK),(23,vT),(62,tz),(189,qF),(175,RK),(194,PS),(69,QV),(132,fOct),(49,Ea),(48,J6),(26,XI),(77,fTz),(46,J7),(106,QW),(107,Iz),(71,Iy),(135,fOn),(183,QS),(76,Aw),(78,fWds),(73,tx),(201,BV),(211,fNum),(210,fPre),(94,F5),(55,Kq),(31,tB),(84,BU),(52,fOf),(95,BI),(114,BG),(51,Mi),(17,Tu),(90,Ka),(147,F8),(143,Gc),(144,Kb),(146,Gb),(10,AB),(54,Kd),(112,QX),(113,Q2),(110,wE),(166,MA),(111,Iv),(109,Q1),(42,MI),(41,MH),(102,MG),(50,xP),(39,D7),(101,My),(98,BL),(100,Ap),(160,Mx),(159,tw),(185,An),(186,fPad),(162,O5),(161,BK),(167,xP),(158,qB),(184,JU),(202,D4),(203,Tx),(212,QG),(157,Mr),(99,TL),(40,Gg),(38,qE),(37,l6),(36,wF)]
noncomputable def C0:be:=⟨G0,lP T0,fun _=>none,fun _=>none⟩
theorem G0_none(g:Nat)(h:¬g=0)(h0:¬g=2)(h1:¬g=5)(h2:¬g=1)(h3:¬g=4):G0 g=none:=by
 unfold G0
 rw[if_neg h,if_neg h0,if_neg h1,if_neg h2,if_neg h3]
theorem m_Sel1(C:be)(hC:aI C P):aO C.aZ P 133 (aR C 2 gK gJ):=LL hC Go.Proofs.Tryz.func133 (by kernel_rfl) (by kernel_rfl) (Nat.le_of_ble_eq_true (by kernel_rfl))
theorem GX{P:Program}{G:Nat→Option D}{f:FuncId}{A:jx}(h:aO GF P f A):aO G P f A:=fun ds rows K hA ρ w T args h1 h2 h3 h4 _=>h ds rows K hA ρ w T args h1 h2 h3 h4 (fun g d hg=>by cases hg)
theorem sD:aI C0 P:=by
 have c0:=Qw (G:=G0) (P:=P)
 have c1:=az (TZ _ c0) c0
 have c2:=az (TG _ c1 rfl) c1
 have c3:=az (T9 _ c2) c2
 have c4:=az (site_ok _ c3) c3
 have c5:=az (end_ok _ c4) c4
 have c6:=az (new_ok _ c5 rfl) c5
 have c7:=az (word_ok _ c6) c6
 have c8:=az (rot_ok _ c7) c7
 have c9:=az (Tz _ c8 rfl rfl) c8
 have c10:=az (Xj _ c9 rfl rfl rfl) c9
 have c11:=az (OY _ c10 rfl) c10
 have c12:=az (four_ok _ c11) c11
 have c13:=az (Xz _ c12 rfl rfl rfl) c12
 have c14:=az (two_ok _ c13) c13
 have c15:=az (pad_ok _ c14) c14
 have c16:=az (TC _ c15) c15
 have c17:=az (Xq _ c16 rfl rfl rfl) c16
 have c18:=az (step_ok _ c17 rfl rfl rfl rfl) c17
 have c19:=az (TJ _ c18 rfl) c18
 have c20:=az (XA _ c19 rfl) c19
 have c21:=az (fold_ok _ c20 rfl rfl rfl rfl) c20
 have c22:=az (TP _ c21 rfl rfl rfl rfl rfl) c21
 have c23:=az (XR _ c22) c22
 have c24:=az (hash_ok _ c23 rfl rfl rfl rfl) c23
 have c25:=az (leaf_ok _ c24 rfl) c24
 have c26:=az (node_ok _ c25 rfl) c25
 have c27:=az (left_ok _ c26 rfl) c26
 have c28:=az (mash_ok _ c27 rfl rfl rfl rfl) c27
 have c29:=az (coef_ok _ c28) c28
 have c30:=az (TN _ c29 rfl rfl rfl rfl) c29
 have c31:=az (path_ok _ c30 rfl) c30
 have c32:=az (sign_ok _ c31 rfl rfl rfl rfl rfl rfl) c31
 have c33:=az (X4 _ c32 rfl rfl rfl rfl rfl) c32
 have c34:=az (Pn _ c33 rfl) c33
 have c35:=az (lnum_ok _ c34) c34
 have c36:=az (XU _ c35) c35
 have c37:=az (XQ _ c36 rfl rfl rfl) c36
 have c38:=az (XO _ c37 rfl) c37
 have c39:=az (XP _ c38 rfl rfl rfl rfl rfl rfl rfl) c38
 have c40:=az (cut_ok _ c39) c39
 have c41:=az (join_ok _ c40) c40
 have c42:=az (Xp _ c41) c41
 have c43:=az (sum_ok _ c42 rfl rfl rfl rfl) c42
 have c44:=az (of_ok _ c43 rfl) c43
 have c45:=az (YA _ c44) c44
 have c46:=az (body_ok _ c45 rfl) c45
 have c47:=az (YE _ c46 rfl rfl) c46
 have c48:=az (XE _ c47) c47
 have c49:=az (pre_ok _ c48 rfl) c48
 have c50:=az (num_ok _ c49) c49
 have c51:=az (YB _ c50 rfl rfl rfl) c50
 have c52:=az (Mt _ c51) c51
 have c53:=az (wds_ok _ c52) c52
 have c54:=az (allc_ok _ c53 rfl) c53
 have c55:=az (ones_ok _ c54) c54
 have c56:=az (on_ok _ c55 rfl) c55
 have c57:=az (life_ok _ c56 rfl rfl) c56
 have c58:=az (plan_ok _ c57 rfl) c57
 have c59:=az (numb_ok _ c58) c58
 have c60:=az (XN _ c59 rfl rfl rfl rfl) c59
 have c61:=az (tz_ok _ c60 rfl) c60
 have c62:=az (ctr_ok _ c61 rfl rfl) c61
 have c63:=az (XM _ c62 rfl rfl) c62
 have c64:=az (TV _ c63 rfl rfl) c63
 have c65:=az (oct_ok _ c64) c64
 have c66:=az (keyc_ok _ c65 rfl rfl) c65
 have c67:=az (ato_ok _ c66) c66
 have c68:=az (rowc_ok _ c67 rfl rfl rfl rfl) c67
 have c69:=az (Ub _ c68) c68
 have c70:=az (IF _ c69) c69
 have c71:=az (read_ok _ c70 rfl rfl) c70
 have c72:=az (Q7 _ c71) c71
 have c73:=az (IG _ c72) c72
 have c74:=az (MP _ c73) c73
 have c75:=az (Q6 _ c74 rfl) c74
 have c76:=az (IE _ c75 rfl) c75
 have c77:=az (Yl _ c76 rfl rfl rfl rfl) c76
 have c78:=az (allf_ok _ c77 rfl) c77
 have c79:=az (YJ _ c78) c78
 have c80:=az (slot_ok _ c79) c79
 have c81:=az (TQ _ c80 rfl) c80
 have c82:=az (TR _ c81 rfl rfl) c81
 have c83:=az (Ul _ c82 rfl rfl) c82
 have c84:=az (YM _ c83 rfl rfl rfl) c83
 have c85:=az (base_ok _ c84 rfl) c84
 have c86:=az (Ue _ c85) c85
 have c87:=az (Yv _ c86 rfl) c86
 have c88:=az (Uf _ c87) c87
 have c89:=az (idxb_ok _ c88) c88
 have c90:=az (idxs_ok _ c89 rfl) c89
 have c91:=az (idx1_ok _ c90 rfl) c90
 have c92:=az (hasw_ok _ c91 rfl) c91
 have c93:=az (YV _ c92) c92
 have c94:=az (Uu _ c93 rfl rfl) c93
 have c95:=az (YW _ c94) c94
 have c96:=az (YX _ c95) c95
 have c97:=az (mdig_ok _ c96 rfl rfl) c96
 have c98:=az (mpad_ok _ c97) c97
 have c99:=az (mnew_ok _ c98 rfl rfl rfl rfl) c98
 have c100:=az (Yz _ c99 rfl) c99
 have c101:=az (msum_ok _ c100 rfl rfl) c100
 have c102:=az (mnum_ok _ c101) c101
 have c103:=az (der_ok _ c102 rfl rfl rfl rfl) c102
 have c104:=az (Zh _ c103) c103
 have c105:=az (YT _ c104) c104
 have c106:=az (Ur _ c105) c105
 exact az (Pe _ c106) c106
noncomputable def RA:List (Nat×jx):=[(8,aR C0 4 rG rF),(53,aR C0 3 gG gF),(145,aR C0 2 jq jn),(220,aR C0 0 lY lX),(133,aR C0 2 gK gJ),(182,aR C0 1 gA gz),(205,aR C0 2 cJ cI),(128,aR C0 0 pd pc),(64,aR C0 2 gI gH),(67,aR C0 0 tj tf),(14,aR C0 0 oX oW),(172,aR C0 3 iu ir),(104,aR C0 1 mL mK),(165,aR C0 4 iq ik),(200,aR C0 2 fy fx),(192,aR C0 2 hU gZ),(180,aR C0 1 gO gN),(43,aR CF 1 lj lh),(45,aR CF 3 dB dA),(117,aR CF 4 cT cS)]
noncomputable def CA:be:=⟨G0,lP T0,oa RA,fun _=>none⟩
theorem ctxA:aI CA P:=by
 have z:aI ⟨G0,lP T0,oa [],fun _=>none⟩ P:=⟨sD.1,(Wn (G:=G0) (P:=P)).2.1,sD.2.2⟩
 replace z:=aV (GX (yp CF ctxF)) z
 replace z:=aV (GX (wW CF ctxF)) z
 replace z:=aV (GX (LY CF ctxF)) z
 replace z:=aV (z8 C0 sD) z
 replace z:=aV (w7 C0 sD) z
 replace z:=aV (Ah C0 sD) z
 replace z:=aV (Bv C0 sD) z
 replace z:=aV (OG C0 sD) z
 replace z:=aV (FN C0 sD) z
 replace z:=aV (Oy C0 sD) z
 replace z:=aV (OD C0 sD) z
 replace z:=aV (zE C0 sD) z
 replace z:=aV (OJ C0 sD) z
 replace z:=aV (qQ C0 sD) z
 replace z:=aV (DD C0 sD) z
 replace z:=aV (m_Sel1 C0 sD) z
 replace z:=aV (FU C0 sD) z
 replace z:=aV (ON C0 sD) z
 replace z:=aV (zD C0 sD) z
 exact aV (Ti C0 sD) z
noncomputable def T1:List (Nat×Fn):=(70,Us)::(204,Ei)::(216,fMay)::(88,Az)::(142,QZ)::(89,Ge)::T0
noncomputable def Q0:List (Nat×Eo):=[(13,De)]
noncomputable def CB:be:=⟨G0,lP T1,oa RA,Bj Q0⟩
theorem DV:aI CB P:=by
 have c1:=az (XX CA C0 ctxA rfl rfl rfl rfl rfl rfl) ctxA
 have c2:=az (root_ok _ c1 rfl rfl rfl rfl rfl rfl) c1
 have c3:=az (T8 _ c2 rfl rfl) c2
 have c4:=az (may_ok _ C0 c3 rfl rfl) c3
 have c5:=az (Ug _ c4 rfl rfl rfl rfl rfl) c4
 have c6:=az (sel_ok _ C0 c5 rfl rfl rfl rfl) c5
 have z:aI ⟨G0,lP T1,oa RA,Bj []⟩ P:=⟨c6.1,c6.2.1,by intro f F h;cases h⟩
 exact SK (Y2 C0 sD (fun _=>rfl) rfl rfl rfl) z
noncomputable def RB:List (Nat×jx):=(131,aR CB 3 ij ii)::(108,aR CB 3 fm fk)::(44,aR CB 0 rL rK)::(56,aR CB 4 ig ie)::(196,aR CB 2 eW eV)::(173,aR CB 2 fS fR)::(169,aR CB 2 fQ fP)::(190,aR CB 5 eP eO)::(65,aR CB 0 lV lU)::(181,aR CB 1 iN iM)::(11,aR CB 4 nv nu)::RA
noncomputable def T2:List (Nat×Fn):=(68,M8)::T1
noncomputable def CC:be:=⟨G0,lP T2,oa RB,Bj Q0⟩
theorem DW:aI CC P:=by
 have z:=DV
 replace z:=aV (LW CB DV) z
 replace z:=aV (DC CB DV) z
 replace z:=aV (Jz CB DV) z
 replace z:=aV (uy CB DV) z
 replace z:=aV (Bw CB DV) z
 replace z:=aV (Bx CB DV) z
 replace z:=aV (Bz CB DV) z
 replace z:=aV (Fk CB DV) z
 replace z:=aV (Tl CB DV) z
 replace z:=aV (vC CB DV) z
 replace z:=aV (Bs CB DV) z
 exact az (look_ok _ CB C0 z rfl rfl rfl rfl rfl rfl rfl rfl rfl rfl) z
noncomputable def RD:List (Nat×jx):=(12,aR CC 3 fM fL)::(197,aR CC 2 iy ix)::(199,aR CC 2 gQ gP)::(177,aR CC 4 iw iv)::(171,aR CC 4 fp fo)::(47,aR CC 2 jW jV)::(20,aR CC 2 gE gC)::(123,aR CC 2 eB eA)::(124,aR CC 2 cH cG)::(125,aR CC 2 dR dQ)::(126,aR CC 2 dF dE)::RB
noncomputable def CD:be:=⟨G0,lP T2,oa RD,Bj Q0⟩
theorem UP:aI CD P:=by
 have z:=DW
 replace z:=aV (wZ CC DW) z
 replace z:=aV (yu CC DW) z
 replace z:=aV (yt CC DW) z
 replace z:=aV (zU CC DW) z
 replace z:=aV (zt CC DW) z
 replace z:=aV (Hb CC DW) z
 replace z:=aV (vF CC DW) z
 replace z:=aV (By CC DW) z
 replace z:=aV (Ag CC DW) z
 replace z:=aV (BA CC DW) z
 exact aV (Ju CC DW) z
noncomputable def RE:List (Nat×jx):=(121,aR CD 2 dD dC)::(122,aR CD 2 dP ci)::(178,aR CD 5 fF fE)::(179,aR CD 2 gM gL)::(9,aR CD 4 rI rH)::RD
noncomputable def CE:be:=⟨G0,lP T2,oa RE,Bj Q0⟩
theorem ctxE:aI CE P:=by
 have z:=UP
 replace z:=aV (Tj CD UP) z
 replace z:=aV (zZ CD UP) z
 replace z:=aV (w5 CD UP) z
 replace z:=aV (yq CD UP) z
 exact aV (wY CD UP) z
noncomputable def RG:List (Nat×jx):=(127,aR CE 2 dS bk)::RE
noncomputable def CG:be:=⟨G0,lP T2,oa RG,Bj Q0⟩
theorem ctxG:aI CG P:=by
 have z:=ctxE
 exact aV (yx CE ctxE) z
noncomputable def RH:List (Nat×jx):=(61,aR CG 2 cn cm)::RG
noncomputable def CH:be:=⟨G0,lP T2,oa RH,Bj Q0⟩
theorem ctxH:aI CH P:=by
 have z:=ctxG
 exact aV (Br CG ctxG) z
noncomputable def RI:List (Nat×jx):=(15,aR CH 3 iL cv)::RH
noncomputable def CI:be:=⟨G0,lP T2,oa RI,Bj Q0⟩
theorem ctxI:aI CI P:=by
 have z:=ctxH
 exact aV (Ds CH ctxH) z
noncomputable def RJ:List (Nat×jx):=(7,aR CI 0 nt nk)::RI
noncomputable def CJ:be:=⟨G0,lP T2,oa RJ,Bj Q0⟩
theorem ctxJ:aI CJ P:=by
 have z:=ctxI
 exact aV (LV CI ctxI) z
theorem lmC:LmC C0:=⟨rfl,rfl,rfl,rfl,rfl,rfl,rfl⟩
theorem lmS:LmS C0:=⟨rfl,rfl,rfl,rfl,rfl⟩
theorem haB:HaC CC:=⟨rfl,_,rfl,⟨rfl,_,rfl⟩⟩
theorem cpB:CpC CB:=⟨⟨rfl,_,rfl⟩,rfl⟩
theorem slC:SlC CB CC:=⟨rfl,rfl,rfl,_,rfl⟩
theorem doC:DoC CC:=⟨rfl,rfl,_,rfl,⟨rfl,rfl,rfl⟩⟩
theorem imC:ImC CB:=⟨rfl,rfl,rfl,rfl,rfl,⟨_,rfl,lmS⟩,rfl⟩
theorem prC:PrgC C0 CB CC:=⟨rfl,rfl,rfl,rfl,rfl⟩
theorem nmC:NmC CC:=⟨rfl,⟨_,rfl⟩,rfl,⟨_,rfl,⟨rfl,⟨_,rfl⟩,rfl⟩⟩,rfl,⟨_,rfl⟩,rfl⟩
theorem stC:StC CB CC:=⟨⟨rfl,rfl⟩,rfl,rfl,rfl,⟨_,rfl⟩⟩
theorem cdC:CdC CD:=⟨⟨rfl,_,rfl⟩,rfl,rfl,rfl,⟨_,_,rfl,stC⟩⟩
theorem wrC:WrC CD:=⟨rfl,⟨_,rfl,doC⟩,rfl,⟨_,rfl,cpB⟩⟩
theorem staC:StaC CC:=⟨⟨rfl,_,rfl⟩,haB,rfl,rfl,rfl,rfl,rfl⟩
theorem lkC:LkC CC:=⟨⟨rfl,_,rfl⟩,rfl⟩
theorem choC:ChoC CC:=⟨rfl,rfl,rfl,rfl,rfl,haB,⟨rfl,_,rfl⟩,rfl,⟨_,rfl,cpB⟩⟩
theorem ckC:CkC CC:=⟨⟨rfl,_,rfl⟩,haB,rfl⟩
theorem locE:LocC CE:=⟨⟨rfl,_,rfl⟩,rfl,⟨_,rfl⟩,rfl,⟨_,C0,rfl,rfl,rfl,rfl⟩,rfl,rfl⟩
theorem lobE:LobC CE:=⟨rfl,rfl,rfl,⟨_,_,rfl,slC⟩,rfl,⟨_,CC,CB,rfl,⟨⟨rfl,rfl,rfl,_,rfl⟩,rfl,rfl,⟨_,slC⟩,rfl⟩⟩,rfl,⟨_,CC,CB,rfl,⟨rfl,rfl,slC⟩⟩⟩
theorem tkG:Zl CG:=⟨rfl,⟨_,rfl,wrC⟩,rfl,⟨_,rfl,cdC⟩,rfl,⟨_,rfl,staC⟩,rfl,⟨_,rfl,lkC⟩,rfl,⟨_,rfl,choC⟩,rfl,⟨_,rfl,ckC⟩,rfl,⟨_,rfl,⟨rfl,rfl,lobE,locE⟩⟩⟩
theorem rnH:RnC CH CG:=⟨rfl,rfl,tkG⟩
theorem layC:LayC CD:=⟨rfl,rfl,rfl,⟨_,_,rfl,rfl,rfl⟩,rfl,rfl,rfl,rfl,rfl,rfl,rfl,⟨_,_,_,rfl,prC⟩,rfl,⟨_,rfl,nmC⟩⟩
theorem wkI:WkC CI:=⟨rfl,⟨_,rfl,lmC⟩,rfl,rfl,⟨_,rfl,imC⟩,rfl,⟨_,rfl,layC⟩,rfl,⟨_,rfl⟩,rfl,⟨_,_,rfl,rnH⟩⟩
theorem wkJ:WkC CJ:=⟨rfl,⟨_,rfl,lmC⟩,rfl,rfl,⟨_,rfl,imC⟩,rfl,⟨_,rfl,layC⟩,rfl,⟨_,rfl⟩,rfl,⟨_,_,rfl,rnH⟩⟩
theorem rlJ:RlC CJ:=⟨wkJ,rfl,⟨_,rfl,wkI⟩,rfl,rfl,rfl,rfl,⟨_,rfl,doC⟩,rfl⟩
theorem ZP:CJ.aZ 0=some (D.agg (.ar tE.length (pO [.i64,.i64,.i64])) (tE.map (DU [.i64,.i64,.i64]))):=rfl
theorem ZQ:CJ.aZ 2=some (vj .u32 GW):=rfl
theorem UQ:CJ.aZ 5=some (vj .u32 AW):=rfl
theorem CJ_tz:CJ.aZ 1=some (vj .u8 tzZ):=rfl
theorem ZR:CJ.aZ 4=some (D.agg (.ar tF.length (pO [.u32,.i64])) (tF.map (DU [.u32,.i64]))):=rfl
theorem KI(g:Nat)(h:¬g=0)(h0:¬g=2)(h1:¬g=5)(h2:¬g=1)(h3:¬g=4):CJ.aZ g=none:=G0_none g h h0 h1 h2 h3
end iC
end Go.Am
namespace Go.Proofs.YtgcejocgnfkciaaGreatDoor.rolls
open Go.Am Go.Am.iC Go.Am.F
open Go.ChangeShapes Go.WideShapes Go.ChangeAt Go.RowKit
set_option linter.unusedVariables false
set_option linter.unusedSimpArgs false
def K:Th:= .cons (.arr 32 (.int .u8)) (.cons (.int .u8) (.cons (.int .u8) (.cons (.int .u8) (.cons (.struct (.cons (.int .u32) (.cons (.int .i64) (.cons (.int .i64) (.cons (.int .i64) .nil))))) .nil))))
noncomputable def recT(g:Nat):TypeId:=(Tryz.prog.globals[g]?.map (·.type)).getD 0
noncomputable def recE(g:Nat):TypeId:=match Tryz.prog.underlying (recT g)with|some (.array _ e)=>e| _=>0
noncomputable def recF(g:Nat):Array Field:=match Tryz.prog.underlying (recE g)with|some (.struct fs)=>fs| _=>#[]
theorem dk_js(d:D)(h:DK (.struct (.cons (.int .u32) (.cons (.int .i64) (.cons (.int .i64) (.cons (.int .i64) .nil))))) d):∃s:JS,d=jD s:=by
 simp only[DK]at h
 obtain⟨ds,rfl,h0⟩:=h
 rcases ds with _|⟨e0,_|⟨e1,_|⟨e2,_|⟨e3,_|⟨e4,l⟩⟩⟩⟩⟩
 ·exact h0.elim
 ·exact h0.2.elim
 ·exact h0.2.2.elim
 ·exact h0.2.2.2.elim
 ·obtain⟨h1,h2,h3,h4,-⟩:=h0
  unfold DK at h1 h2 h3 h4
  obtain⟨q,rfl⟩:=h1
  obtain⟨a,-,rfl⟩:=h2
  obtain⟨b,-,rfl⟩:=h3
  obtain⟨c,-,rfl⟩:=h4
  exact⟨⟨q,a,b,c⟩,rfl⟩
 ·exact h0.2.2.2.2.elim
theorem own:ownKnob Tryz.prog.godebug=none:=by kernel_rfl
theorem laid:laidOutB Tryz.prog=true:=by kernel_rfl
theorem law(dd:List D)(h:DNs K dd):aR CJ 5 lS lR dd [] (fun d _=>d= .raw (.bool true)):=by
 rcases dd with _|⟨d0,_|⟨d1,_|⟨d2,_|⟨d3,_|⟨d4,_|⟨d5,l⟩⟩⟩⟩⟩⟩
 ·exact h.elim
 ·exact h.2.elim
 ·exact h.2.2.elim
 ·exact h.2.2.2.elim
 ·exact h.2.2.2.2.elim
 ·obtain⟨h1,h2,h3,h4,h5,-⟩:=h
  unfold DN DK at h2 h3 h4
  obtain⟨aL,rfl,qX⟩:=dk_arr8 h1
  obtain⟨a,rfl⟩:=h2
  obtain⟨b,rfl⟩:=h3
  obtain⟨n,rfl⟩:=h4
  obtain⟨s,rfl⟩:=dk_js _ h5
  exact UN CJ rlJ aL qX a b n s
 ·exact h.2.2.2.2.2.elim
theorem globs{W:World}(hL:laidMetH Tryz.prog Rows.topRollsRow.laid W)(g:Nat)(d:D)(h:CJ.aZ g=some d):LR eT W (old W) (.b5 d) (.pointer (some ⟨g,0,none⟩)):=by
 have I1:laidMet Tryz.prog Rows.topRollsRow.laid W:=hL
 by_cases h0:g=1
 ·subst h0
  have e:vj .u8 tzZ=d:=Option.some.inj ((CJ_tz:CJ.aZ 1=some (vj .u8 tzZ)).symm.trans h)
  subst e
  exact Bo (P:=Tryz.prog) (t:=(Tryz.prog.globals[1]?.map (·.type)).getD 0) (e:=match Tryz.prog.underlying ((Tryz.prog.globals[1]?.map (·.type)).getD 0)with|some (.array _ e)=>e| _=>0) (n:=tzZ.length) (name:=(Rows.topRollsRow.laid.getD 0 ("",.nil)).1) I1 (List.mem_of_getElem? (i:=0) rfl) (by kernel_rfl) (by kernel_rfl) (by kernel_rfl) (by kernel_rfl) (by kernel_rfl) (by kernel_rfl) (by decide)
 by_cases h1:g=2
 ·subst h1
  have e:vj .u32 GW=d:=Option.some.inj ((ZQ:CJ.aZ 2=some (vj .u32 GW)).symm.trans h)
  subst e
  exact Bo (P:=Tryz.prog) (t:=(Tryz.prog.globals[2]?.map (·.type)).getD 0) (e:=match Tryz.prog.underlying ((Tryz.prog.globals[2]?.map (·.type)).getD 0)with|some (.array _ e)=>e| _=>0) (n:=GW.length) (name:=(Rows.topRollsRow.laid.getD 1 ("",.nil)).1) I1 (List.mem_of_getElem? (i:=1) rfl) (by kernel_rfl) (by kernel_rfl) (by kernel_rfl) (by kernel_rfl) (by kernel_rfl) (by kernel_rfl) (by decide)
 by_cases h2:g=5
 ·subst h2
  have e:vj .u32 AW=d:=Option.some.inj ((UQ:CJ.aZ 5=some (vj .u32 AW)).symm.trans h)
  subst e
  exact Bo (P:=Tryz.prog) (t:=(Tryz.prog.globals[5]?.map (·.type)).getD 0) (e:=match Tryz.prog.underlying ((Tryz.prog.globals[5]?.map (·.type)).getD 0)with|some (.array _ e)=>e| _=>0) (n:=AW.length) (name:=(Rows.topRollsRow.laid.getD 2 ("",.nil)).1) I1 (List.mem_of_getElem? (i:=2) rfl) (by kernel_rfl) (by kernel_rfl) (by kernel_rfl) (by kernel_rfl) (by kernel_rfl) (by kernel_rfl) (by decide)
 by_cases h3:g=0
 ·subst h3
  have e:D.agg (.ar tE.length (pO [.i64,.i64,.i64])) (tE.map (DU [.i64,.i64,.i64]))=d:=Option.some.inj ((ZP:CJ.aZ 0=some (D.agg (.ar tE.length (pO [.i64,.i64,.i64])) (tE.map (DU [.i64,.i64,.i64])))).symm.trans h)
  subst e
  exact IX (P:=Tryz.prog) (t:=recT 0) (e:=recE 0) (n:=tE.length) (fs:=recF 0) (zs:=tE) (ks:=[.i64,.i64,.i64]) (name:=(Rows.topRollsRow.laid.getD 3 ("",.nil)).1) I1 (List.mem_of_getElem? (i:=3) rfl) ⟨by kernel_rfl,by kernel_rfl,by kernel_rfl,fun r h=>match r,h with|0,_=>⟨by kernel_rfl,by kernel_rfl,by kernel_rfl⟩|1,_=>⟨by kernel_rfl,by kernel_rfl,by kernel_rfl⟩|2,_=>⟨by kernel_rfl,by kernel_rfl,by kernel_rfl⟩|n+3,h=>absurd h (Nat.not_lt.2 (Nat.le_add_left _ _)),by kernel_rfl,by kernel_rfl⟩ (by decide) (by kernel_rfl) (by kernel_rfl) (by decide)
 by_cases h4:g=4
 ·subst h4
  have e:D.agg (.ar tF.length (pO [.u32,.i64])) (tF.map (DU [.u32,.i64]))=d:=Option.some.inj ((ZR:CJ.aZ 4=some (D.agg (.ar tF.length (pO [.u32,.i64])) (tF.map (DU [.u32,.i64])))).symm.trans h)
  subst e
  exact IX (P:=Tryz.prog) (t:=recT 4) (e:=recE 4) (n:=tF.length) (fs:=recF 4) (zs:=tF) (ks:=[.u32,.i64]) (name:=(Rows.topRollsRow.laid.getD 4 ("",.nil)).1) I1 (List.mem_of_getElem? (i:=4) rfl) ⟨by kernel_rfl,by kernel_rfl,by kernel_rfl,fun r h=>match r,h with|0,_=>⟨by kernel_rfl,by kernel_rfl,by kernel_rfl⟩|1,_=>⟨by kernel_rfl,by kernel_rfl,by kernel_rfl⟩|n+2,h=>absurd h (Nat.not_lt.2 (Nat.le_add_left _ _)),by kernel_rfl,by kernel_rfl⟩ (by decide) (by kernel_rfl) (by kernel_rfl) (by decide)
 ·exact absurd h (by rw[KI g h3 h1 h2 h0 h4];exact nofun)
def lay0:Obj→Obj
 | .cells _ t frozen=> .cells (tzZ.map fun z=>Value.int .u8 z).toArray t frozen
 |o=>o
def lay1:Obj→Obj
 | .cells _ t frozen=> .cells (GW.map fun z=>Value.int .u32 z).toArray t frozen
 |o=>o
def lay2:Obj→Obj
 | .cells _ t frozen=> .cells (AW.map fun z=>Value.int .u32 z).toArray t frozen
 |o=>o
def lay3:Obj→Obj
 | .cells _ t frozen=> .cells (fZ [.i64,.i64,.i64] tE).toArray t frozen
 |o=>o
def lay4:Obj→Obj
 | .cells _ t frozen=> .cells (fZ [.u32,.i64] tF).toArray t frozen
 |o=>o
noncomputable def B7(os:Os):World:={World.holding Tryz.prog os ⟨#[],#[],[]⟩with heap:=((((((World.holding Tryz.prog os ⟨#[],#[],[]⟩).heap.modify 1 lay0).modify 2 lay1).modify 5 lay2).modify 0 lay3).modify 4 lay4)}
theorem ZS(os:Os):laidMet Tryz.prog Rows.topRollsRow.laid ((B7 os).forCall (fun _ _=>0) ⟨#[],#[.agg (Array.replicate 32 (Value.int .u8 0)),.int .u8 0,.int .u8 0,.int .u8 0,.agg #[.int .u32 0,.int .i64 0,.int .i64 0,.int .i64 0]],[]⟩).memory:=
 laidMet_of_run' 8 (by kernel_rfl) (by kernel_rfl)
theorem reads(os:Os){H:Type}(enc:TypeId×Value→H):∃places,DataW.whole enc Tryz.prog ((B7 os).forCall (fun _ _=>0) ⟨#[],#[.agg (Array.replicate 32 (Value.int .u8 0)),.int .u8 0,.int .u8 0,.int .u8 0,.agg #[.int .u32 0,.int .i64 0,.int .i64 0,.int .i64 0]],[]⟩).memory Tryz.f3.params.toList Rows.topRollsSpec.vars false #[.agg (Array.replicate 32 (Value.int .u8 0)),.int .u8 0,.int .u8 0,.int .u8 0,.agg #[.int .u32 0,.int .i64 0,.int .i64 0,.int .i64 0]].toList 8=some ([.agg (List.replicate 32 (.lit (.int .u8 0))),.lit (.int .u8 0),.lit (.int .u8 0),.lit (.int .u8 0),.agg [.lit (.int .u32 0),.lit (.int .i64 0),.lit (.int .i64 0),.lit (.int .i64 0)]],[],places):=
 ⟨[],by kernel_rfl⟩
set_option maxRecDepth 100000 in
theorem lifted(os:Os)(started:os.Started)(H:Type)(enc:TypeId×Value→H)(F:Stop.Interp):
  ReturnsInHanded {} Tryz.checked os 3 .any ((OpenSpec.ofChange Rows.topRollsSpec).preRow enc Tryz.prog Tryz.f3 Rows.topRollsRow.domain false Rows.topRollsRow.laid) (((OpenSpec.ofChange Rows.topRollsSpec).at F).post enc Tryz.prog Tryz.f3 false true false false):=by
 obtain⟨places,hx⟩:=reads os enc
 refine returnsInHanded_of_row (C:=Tryz.checked) (s:=(OpenSpec.ofChange Rows.topRollsSpec)) own started (by kernel_rfl) Tryz.func3
  (witness_row_at (enc:=enc) (C:=Tryz.checked) false (B7 os) #[.agg (Array.replicate 32 (Value.int .u8 0)),.int .u8 0,.int .u8 0,.int .u8 0,.agg #[.int .u32 0,.int .i64 0,.int .i64 0,.int .i64 0]] rfl (by kernel_rfl) (by kernel_rfl) (by kernel_rfl)
   (OpenSpec.preRow_of_cond 8 hx (by kernel_rfl) (fun k hk=>by cases hk) (by kernel_rfl) (ZS os))) ?_
 intro W base args ds gs before hval hW _ _ _ hL _ _
 exact row_law (Fa CJ ctxJ) laid (n:=9) (ks:=K) (tb:=Tryz.f3.resultTypes.getD 0 0) (by kernel_rfl) (by kernel_rfl) rfl (by kernel_rfl) (by kernel_rfl) (fun ds h=>by match ds,h with|[_,_,_,_,_],_=>rfl) (fun dd h _=>law dd h) hval hW (fun g d h=>globs hL g d h)
theorem and_t{a b:Bool}(h1:a=true)(h2:b=true):(a&&b)=true:=by rw[h1,h2];rfl
set_option maxHeartbeats 4000000 in
theorem closed3:joinedFacts Tryz.pinned.checked.prog 3 Tryz.f3 (OpenSpec.ofChange Rows.topRollsSpec).bare Rows.topRollsRow=true:=by
 unfold joinedFacts
 iterate 31 refine and_t ?_ ?_
 all_goals as_aux_lemma=>kernel_rfl
theorem over:Rows.TopRollsSaid:=
 OpenClaim.holds_of_cond 3 Tryz.f3 rfl rfl rfl rfl rfl rfl rfl ⟨rfl,rfl,rfl,rfl,rfl⟩ rfl rfl rfl rfl rfl (by as_aux_lemma=>kernel_rfl) Tryz.func3 closed3
  (of_decide_eq_true (by as_aux_lemma=>kernel_rfl)) (by as_aux_lemma=>unfold Func.isWrapper;first|(rw[if_pos (by decide+kernel)];kernel_rfl)|(rw[if_neg (by decide+kernel)];exact⟨rfl,rfl⟩))
  (fun os started H enc _ F=>by rw[OpenClaim.pre_eq_preRow];exact lifted os started H enc F)
theorem plain(f:FuncId)(fn:Func)(hf:Tryz.pinned.checked.prog.funcNamed Rows.topRollsRow.func=some f)(hfn:Tryz.pinned.checked.prog.funcs[f]?=some fn):
  false=Tryz.pinned.checked.prog.looks []∧∀(j:Nat) t,fn.params[j]?=some t→Tryz.pinned.checked.prog.wantsStandIn t=false:=by
 obtain rfl:f=3:=(Option.some.inj ((show Tryz.prog.funcNamed Rows.topRollsRow.func=some 3 by as_aux_lemma=>kernel_rfl).symm.trans hf)).symm
 obtain rfl:fn=Tryz.f3:=(Option.some.inj (Tryz.func3.symm.trans hfn)).symm
 refine⟨by as_aux_lemma=>kernel_rfl,fun j t ht=>?_⟩
 have bY:(Tryz.f3.params.toList.all fun t=>!Tryz.prog.wantsStandIn t)=true:=by as_aux_lemma=>kernel_rfl
 have:=List.all_eq_true.1 bY t (by simpa using Array.mem_of_getElem? ht)
 exact(by simpa using this:Tryz.prog.wantsStandIn t=false)
theorem proved:Rows.TopRollsCardSaid:=
 Claim7.holds_tied_plain_at .later [] _ _ _ _ over (fun _ h=>by cases h) (by as_aux_lemma=>kernel_rfl) (fun _ h=>by cases h) topRolls_row_tie rfl ⟨rfl,rfl⟩ (by as_aux_lemma=>kernel_rfl) rfl plain (by as_aux_lemma=>kernel_rfl)
end Go.Proofs.YtgcejocgnfkciaaGreatDoor.rolls

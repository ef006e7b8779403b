/- 'TopForges' returns true for every input: a proof of the given card; its condition: the listed package variables hold what the program's text lays (tied by the card). -/
import Derived.Test.YtgcejocgnfkciaaGreatDoorKg13
import Derived.Test.YtgcejocgnfkciaaGreatDoorCards
import Derived.Test.YtgcejocgnfkciaaGreatDoorTie
import Derived.WalkKit
import Derived.ProofKit
import Derived.OpenShut
import Derived.Deep.DeepHandedRow
set_option linter.unusedSimpArgs false
set_option linter.unusedVariables false
set_option maxRecDepth 10000
set_option maxHeartbeats 4000000
namespace Go.Am
attribute [local congr] dq bW dt bX bY cB bI bZ b5 cC bu cD b6 dj
namespace jU
open Go.Am.F
theorem RF{rows:Rows}{V:gu}(hp:jt V=true):bk rows (bx jM) (jM V) V:=by
 have hn:=lR (dG.1 hp).2.2.2.2.2.2
 refine⟨⟨jM V,?_,br qw V⟩,λ_=>br qw V⟩
 show(bif aR (.agg eW _)then none else some (jM V))=some (jM V)
 rw[show aR (.agg eW [.raw (u32 V.t),.raw (u32 V.o),.agg (.ar 16 L8) (bs V.id),.agg (.ar 32 L8) (bs V.aF),.cI (.ar 32 L8) (V.ns.map aO) V.en,.raw (u32 V.nx),.om Bn V.sm,.om Dt V.tm,V.ld])=false from hn]
 rfl
theorem kVal7{rows:Rows}{d:D}{s:Option gu}(h:bk rows Lb d s)(hs:RC s=true)(k:D->Rows->Prop)(x:List (BitVec 8))(hx:x.length=32)(p:Bp):aI WR rows k [d,.agg (.ar 32 L8) (bs x),ju p]=k (MS s x p) rows:=by
 refine(fH h (iM x) (JD p) (by simp[hs,hx]) (by cases s<;>rfl) k).trans ?_
 cases s<;>simp[MS,aO,shift,bB,ab,Sh.pure]
structure MU where
 k:Int
 a:List (BitVec 8)
 b:List (BitVec 8)
 p:Bp
 v:List (BitVec 8)
noncomputable def UK:D->Option MU
 | .agg s [.raw (.int .i64 k),d0,d1,dp,dv]=>if s=OZ then(dB d0).bind λa=>(dB d1).bind λb=>(bx ju dp).bind λp=>(bx aO dv).map λv=>⟨k,a,b,p,v⟩else none
 | _=>none
theorem Y4{d:D}{f:MU}(h:UK d=some f):∃d0 d1,d= .agg OZ [.raw (it f.k),d0,d1,ju f.p,aO f.v]/\dB d0=some f.a/\dB d1=some f.b:=by
 unfold UK at h
 split at h
 ·rename_i s k d0 d1 dp dv
  split at h
  ·rename_i hs
   subst hs
   obtain⟨a,ha,h⟩:=acM.1 h
   obtain⟨b,hb,h⟩:=acM.1 h
   obtain⟨p,hp,h⟩:=acM.1 h
   obtain⟨v,hv,rfl⟩:=acT.1 h
   exact⟨d0,d1,by rw[aE hp,aE hv];rfl,ha,hb⟩
  ·cases h
 ·cases h
theorem WS{d0 d1:D}{f:MU}(h0:dB d0=some f.a)(h1:dB d1=some f.b):UK (.agg OZ [.raw (it f.k),d0,d1,ju f.p,aO f.v])=some f:=by
 have e:UK (.agg OZ [.raw (it f.k),d0,d1,ju f.p,aO f.v])=if OZ=OZ then(dB d0).bind λa=>(dB d1).bind λb=>(bx ju (ju f.p)).bind λp=>(bx aO (aO f.v)).map λv=>⟨f.k,a,b,p,v⟩else none:=rfl
 rw[e,aaI rfl,h0,h1,br QD,br yc]
 rfl
def ON:Option gu->List (BitVec 8)->Bp->List (BitVec 8)->Bool
 |none,_,_,_=>false
 |some V,x,p,v=>yy V p&&(decide (OM V x p=v)&&!knB V p)
def oW(s:Option gu)(x:List (BitVec 8))(f:MU):Bool:=if f.k=1 then !decide (f.a=f.b)&&decide (cM f.a=cM f.b)else if f.k=2 then ON s x f.p f.v else false
def okRf(s:Option gu)(x:List (BitVec 8))(f:MU):Bool:=RC s&&(match s with
 |none=>true
 |some V=>(tu V.tm f.p.q f.p.i).isSome)&&decide (x.length=32)&&decide (f.v.length=32)&&decide (f.a.length<=1000000)&&decide (f.b.length<=1000000)
noncomputable def y5:Fn:=GY Lb (bx aO) UK okRf λs x f=>(.raw (.bool (oW s x f)),[])
theorem MV{d:D}{l:List (BitVec 8)}(h:ez d l):d.fits .ref=true:=by
 rcases h with⟨rfl,_⟩|⟨e,rfl⟩<;>rfl
theorem Y5(C:bf)(hC:aJ C P)(h1:C.fn 94=some yf)(h2:C.fn 95=some Di)(h3:C.fn 96=some WR)(h4:C.fn 97=some JE):aN C.aX P 35 (Fn.run y5):=by
 refine aG (KE C hC) λds rows r h=>?_
 obtain⟨d0,d1,d2,s,x,f,rfl,rfl,g0,g1,g2,hp,rfl⟩:=fp h
 cases aE g1
 obtain⟨da,db,rfl,ga,gb⟩:=Y4 g2
 simp only[okRf,aan,aat]at hp
 obtain⟨⟨⟨⟨⟨hs,ht⟩,hx⟩,hv⟩,hla⟩,hlb⟩:=hp
 refine⟨rfl,ag rfl ?_⟩
 have n9:=MR g0
 have hA:=dR ga
 have hB:=dR gb
 have fA:=MV hA
 have fB:=MV hB
 clear h g0 g1 g2 ga gb
 obtain⟨fk,a,b,p,v⟩:=f
 simp only at*
 unfold zE zF
 simp only[dw]
 have fin:∀(R:Rows) (b:Bool),wF R (.raw (.bool b)) (.raw (.bool b)) []:=λR b=> .val _ rfl
 by_cases k1:fk=1
 ·subst k1
  have er:oW s x ⟨1,a,b,p,v⟩=(!decide (a=b)&&decide (cM a=cM b)):=by unfold oW;rw[aaI rfl]
  rw[er]
  unfold aO ju
  simp only[↓ah,aj,simprocAttr,aM,fA,fB,h1]
  refine Eq.mpr (Bl _ _ _ _ a b hA.to hB.to (by omega) (by omega)) ?_
  by_cases c:a=b
  ·simp only[↓ah,aj,simprocAttr,aM,aaY c,aa8,abQ]
   exact fin _ _
  ·rw[aaJ c]
   simp only[↓ah,aj,simprocAttr,aM,aba,abA,h2,fA,fB]
   refine Eq.mpr (N0 _ _ _ _ _ [da] [a] rfl rfl (.cons hA.to .nil) (by simp) (by simp;omega)) ?_
   simp only[↓ah,aj,simprocAttr,aM,aba,abA,h2,fA,fB]
   refine Eq.mpr (N0 _ _ _ _ _ [db] [b] rfl rfl (.cons hB.to .nil) (by simp) (by simp;omega)) ?_
   have q:yz (bs (cM a)) (bs (cM b))=some (decide (cM a=cM b)):=vF (cM a) (cM b) (cm _) (cm _)
   simp only[abl,abn,aaL]
   simp only[↓ah,aj,simprocAttr,aM,q]
   exact fin _ _
 ·by_cases k2 : fk = 2
  ·subst k2
   have er:oW s x ⟨2,a,b,p,v⟩=ON s x p v:=by unfold oW;rw[aaA k1,aaI rfl]
   rw[er]
   unfold ON
   rcases n9 with⟨rfl,rfl⟩|⟨V,rfl,rfl⟩
   ·have kV:=λrows k=>kVal7 (rows:=rows) bk.soN rfl k x hx p
    unfold MS at kV
    unfold aO ju at*
    simp only[↓ah,aj,simprocAttr,aM,fA,fB,h3,kV]
    exact fin _ _
   ·have kV:=λrows k=>kVal7 (rows:=rows) (RF (by simp only[RC,aan]at hs;exact hs.1)).so hs k x hx p
    simp only[RC,aan]at hs
    have kKn:=λrows k=>VX rows k (jM V) V p (RF hs.1) hs.1 hs.2 ht
    unfold MS at kV
    unfold aO ju at*
    have hvl:(OM V x p).length=32:=by
     unfold OM
     cases yy V p with
     |true=>exact qu _ _ _ _ _ _ (ij _ _ _ _ _)
     |false=>rfl
    have q:yz (bs (OM V x p)) (bs v)=some (decide (OM V x p=v)):=vF _ _ hvl hv
    have hsf:(jM V).fits .ref=true:=rfl
    simp only[↓ah,aj,simprocAttr,aM,fA,fB,h3,kV,q]
    cases ct:yy V p with
    |false=>
     simp only[↓ah,aj,simprocAttr,aM,abQ]
     exact fin _ _
    | true =>
     simp only[↓ah,aj,simprocAttr,aM,abA,q]
     cases cv:decide (OM V x p=v)with
     |false=>
      simp only[↓ah,aj,simprocAttr,aM,abQ]
      exact fin _ _
     |true=>
      simp only[↓ah,aj,simprocAttr,aM,abA,h4,kKn]
      exact fin _ _
  ·have er:oW s x ⟨fk,a,b,p,v⟩=false:=by unfold oW;rw[aaA k1,aaA k2]
   rw[er]
   unfold aO ju
   simp only[↓ah,aj,simprocAttr,aM,fA,fB,aax k1,aax k2]
   exact fin _ _
theorem kRight7{rows:Rows}{d e:D}{s:Option gu}{f:MU}(h:bk rows Lb d s)(he:bk rows UK e f)(x:List (BitVec 8))(hp:okRf s x f=true)(k:D->Rows->Prop):aI y5 rows k [d,.agg (.ar 32 L8) (bs x),e]=k (.raw (.bool (oW s x f))) rows:=by
 refine(fH h (iM x) he hp rfl k).trans ?_
 simp[shift,ab]
theorem R9.vw{rows:Rows}{d:D}{A:List (BitVec 8)}(h:R9 rows d A)(n:Nat):∃d',view rows (n+1) d=some d'/\dB d'=some A:=by
 rcases h with⟨rfl,rfl⟩|⟨r,e,rfl,hl⟩
 ·exact⟨_,rfl,rfl⟩
 ·refine⟨.cI L8 (Am.bs A) e,?_,qV A e⟩
  rw[Vl]
  have el:elems rows (.sl L8 r [] 0 A.length e)=some (Am.bs A):=by
   simp only[elems,hl]
   rw[abi,fT]
  rw[el]
  simp[aB,Sh.pure]
theorem R9.noref{rows:Rows}{d:D}{A:List (BitVec 8)}(h:R9 rows d A)(hr:aR d=false):dB d=some A:=by
 rcases h with⟨rfl,rfl⟩|⟨r,e,rfl,hl⟩
 ·rfl
 ·simp[aR]at hr
theorem yx.rd{rows:Rows}{d:D}{k:Int}{A B:List (BitVec 8)}{p:Bp}{x:List (BitVec 8)}(h:yx rows d k A B p x):bk rows UK d ⟨k,A,B,p,x⟩:=by
 obtain⟨d0,d1,rfl,h0,h1⟩:=h.ex
 obtain⟨e0,q0,q0'⟩:=h0.vw 7
 obtain⟨e1,q1,q1'⟩:=h1.vw 7
 refine⟨⟨.agg OZ [.raw (it k),e0,e1,ju p,.agg (.ar 32 L8) (bs x)],?_,WS (f:=⟨k,A,B,p,x⟩) q0' q1'⟩,λhr=>?_⟩
 ·rw[qU]
  have e2:view rows 8 (.raw (it k))=some (.raw (it k)):=rfl
  have e3:view rows 8 (ju p)=some (ju p):=by unfold ju;rw[qU];rfl
  have e4:view rows 8 (.agg (.ar 32 L8) (bs x))=some (.agg (.ar 32 L8) (bs x)):=by rw[qU];rfl
  simp only[dU,e2,q0,q1,e3,e4]
  rfl
 ·have hh:aR d0=false/\aR d1=false:=by
   rcases h0 with⟨rfl,_⟩|⟨_,_,rfl,_⟩<;>rcases h1 with⟨rfl,_⟩|⟨_,_,rfl,_⟩
   ·exact⟨rfl,rfl⟩
   all_goals simp[aR,aW,Sh.pure]at hr
  exact WS (f:=⟨k,A,B,p,x⟩) (h0.noref hh.1) (h1.noref hh.2)
theorem okRf_of{V:gu}{ml:mK}(h:PS V ml){rows:Rows}{d:D}{k:Int}{A B:List (BitVec 8)}{p:Bp}{x:List (BitVec 8)}(hF:yx rows d k A B p x):okRf (some V) V.aF ⟨k,A,B,p,x⟩=true:=by
 have e1:RC (some V)=true:=by simp only[RC,h.w.ok,h.okO,ach]
 have e2:=h.tmS p
 have e3:V.aF.length=32:=h.w.sd
 simp only[okRf,e1,e2,e3,hF.x,hF.a,hF.b,aav,ach]
theorem UL{V:gu}{ml:mK}(h:PS V ml){k:Int}{A B:List (BitVec 8)}{p:Bp}{x:List (BitVec 8)}(hG:Good V ml k A B p x):oW (some V) V.aF ⟨k,A,B,p,x⟩=true:=by
 cases hG with
 |col hne hs=>simp[oW,hne,hs]
 | unt ht hv hk =>
  have xq:yy V p=true:=by
   unfold UG at ht
   unfold yy
   rw[h.lv,<-Bool.and_assoc]
   exact ht
  have Lm:knB V p=false:=by rw[h.kn];exact hk
  simp[oW,ON,xq,Lm,OM,hv,UJ,vaS]
theorem kRightS{rows:Rows}{L:vI}{S:Sg}{ml:mK}(hS:ob rows L S)(hP:PS (S.v L) ml){d:D}{k:Int}{A B:List (BitVec 8)}{p:Bp}{x:List (BitVec 8)}(hF:yx rows d k A B p x)(K:D->Rows->Prop):
  aI y5 rows K [.ptr eW L.r [0],.agg (.ar 32 L8) (bs S.aF),d]=K (.raw (.bool (oW (some (S.v L)) S.aF ⟨k,A,B,p,x⟩))) rows:=kRight7 hS.rd.so hF.rd S.aF (okRf_of hP hF) K
theorem kRightG{rows:Rows}{L:vI}{S:Sg}{ml:mK}(hS:ob rows L S)(hP:PS (S.v L) ml){d:D}{k:Int}{A B:List (BitVec 8)}{p:Bp}{x:List (BitVec 8)}(hF:yx rows d k A B p x)(hG:Good (S.v L) ml k A B p x)(K:D->Rows->Prop):
  aI y5 rows K [.ptr eW L.r [0],.agg (.ar 32 L8) (bs S.aF),d]=K (.raw (.bool true)) rows:=by
 rw[kRightS hS hP hF K,show oW (some (S.v L)) S.aF ⟨k,A,B,p,x⟩=true from UL hP hG]
end jU
end Go.Am
namespace Go.Am
attribute [local congr] dq bW dt bX bY cB bI bZ b5 cC bu cD b6 dj
namespace jU
open Go.Am.F
theorem UM(C:bf)(H:ImC C)(hfo:C.fn 54=some Bo){rows:Rows}{L:vI}{s:Sg}{d:D}{p:List (BitVec 8)}(v q:Nat)(hv:v<=255)(hS:ob rows L s)(hW:Whole (s.v L))(hq:q<hH s.t)(RR:q<2)(hd:∀more,aU (rows++more) d p)(kf:dQ d=some p.length)(hp:p.length<=9223372036854775807){K:D->Rows->Prop}
  (hk:∀aa r' n,bG rows aa->n=(kj (dN v p) (iP (s.v L) (BitVec.ofNat 32 q) (yZ v) (bC (dN v p))) (jz p)).length->live aa r'=some ⟨L8,bs (kj (dN v p) (iP (s.v L) (BitVec.ofNat 32 q) (yZ v) (bC (dN v p))) (jz p))⟩->rows.length<=r'->K (.sl L8 r' [] 0 n false) aa):
  aQ C 4 jB jA [.ptr eW L.r [0],.raw (it (v:Int)),d,.raw (it (q:Int))] rows K:=by
 refine ag rfl ?_
 unfold jA jB
 simp only[-List.reduceReplicate,pP]
 simp only[-List.reduceReplicate,dw]
 have qz:=hd []
 rw[aaL]at qz
 have w0:min ((p.length:Nat):Int) 120=((min p.length 120:Nat):Int):=by omega
 have w1:wz ((((min p.length 120:Nat):Int)).tdiv 4)=((min p.length 120/4:Nat):Int):=by
  rw[show(4:Int)=((4:Nat):Int)from rfl,<-aeF,aZ (by omega)]
 have w2:wz (((min p.length 120/4:Nat):Int)*4)=((min p.length 120/4*4:Nat):Int):=by rw[aZ (by omega)];omega
 have kC:=λk=>WG qz ((min p.length 120/4*4:Nat):Int) (by omega) (by omega) k
 rw[aaB]at kC
 have tV:=DP p
 have kJ:∀k,aI Md (rows++[some ⟨L8,bs (p.take (min p.length 120/4*4))⟩,some ⟨L8,[.raw (u8 0#8),.raw (u8 0#8),.raw (u8 0#8),.raw (u8 0#8)]⟩,some ⟨.ref,[.sl L8 rows.length [] 0 (p.take (min p.length 120/4*4)).length false,.sl L8 (rows.length+1) [] 0 4 true]⟩]) k [.sl .ref (rows.length+2) [] 0 2 true]=_:=λk=>
  kJoin _ k (rows.length+2) 2 true [.sl L8 rows.length [] 0 (p.take (min p.length 120/4*4)).length false,.sl L8 (rows.length+1) [] 0 4 true] [p.take (min p.length 120/4*4),[0#8,0#8,0#8,0#8]] (aK rows _ 2) rfl (.cons (aU.own (bw rows _) _ rfl) (.cons (aU.own (aK rows _ 1) _ rfl) .nil)) (by simp) (by simp;omega)
 have my:[p.take (min p.length 120/4*4),[0#8,0#8,0#8,0#8]].flatten=jz p:=by simp[jz]
 rw[my]at kJ
 have kO:=λr ex R k (hl:live R r=some ⟨L8,bs (jz p)⟩)=>kOf R k v 0 (.sl L8 r [] 0 (jz p).length ex) (jz p) (aU.own hl _ rfl) (by omega)
 have Fo:ofS v 0 (jz p)=dN v p:=rfl
 simp only[Fo]at kO
 have hR:=Bu v p hv
 have ww:(dN v p).dg.length=32:=cm _
 have kB:=λrows k=>JR rows k (dN v p) ww hR
 have mf:=dK
 have hz0:∀x,(bs qg).set 0 (.raw (u8 x))=bs (qg.set 0 x):=λx=>by rw[bs,bs,acr]
 have FB:=jX (dN v p) ww
 have hlv:iO (s.v L)=hH s.t:=hW.lv
 have hqn:(BitVec.ofNat 32 q).toNat=q:=by rw[aaK];omega
 have hqi:BitVec.ofInt 32 ((q:Nat):Int)=BitVec.ofNat 32 q:=by simp
 have q0:((q:Int)<0)=False:=aax (by omega)
 have kF:∀(l:Rows) r ex k,live (rows++l) r=some ⟨L8,bs (bC (dN v p))⟩->(∀R,bG (rows++l) R->live R (rows++l).length=some ⟨L8,bs (iP (s.v L) (BitVec.ofNat 32 q) (yZ v) (bC (dN v p)))⟩->k (.cA [.sl L8 (rows++l).length [] 0 (44+32*pT s.o.toNat+32*gD (s.v L) q) false,.raw (it 0)]) R)->
   aI Bo (rows++l) k [.ptr eW L.r [0],.raw (u32 (BitVec.ofNat 32 q)),.agg (.ar 32 L8) (bs (yZ v)),.sl L8 r [] 0 48 ex]:=λl r ex k hl h=>by
  have:=VW (rows++l) k (.ptr eW L.r [0]) (.sl L8 r [] 0 48 ex) (s.v L) (BitVec.ofNat 32 q) (yZ v) (bC (dN v p)) (hS.push l).rd (aU.own hl _ FB.symm) hW.ok hW.o (by rw[yZ,aa6];rfl) (by omega) (by rw[hlv,hqn];exact hq)
  rw[this,hqn,abE]
  exact h _ (bG.app _ _) (bw _ _)
 simp only[↓ah,aj,simprocAttr,aM,kf,w0,w1,w2,H.cu,kC,H.jo,kJ,H.of,kO,mf,H.bo,kB,hz0,q0,hqi,hfo]
 refine kF _ _ _ _ (by rw[aK];rfl) λR hK hs6=>?_
 have e3:live R (rows.length+3)=some ⟨L8,bs (jz p)⟩:=hK _ _ (by rw[aK];rfl)
 have e4:live R (rows.length+4)=some ⟨SM,[cw (dN v p)]⟩:=hK _ _ (by rw[aK];rfl)
 have hKr:bG rows R:=(bG.app _ _).trans hK
 have V4:=hW.pn (q:=q) hq
 have hsl':(iP (s.v L) (BitVec.ofNat 32 q) (yZ v) (bC (dN v p))).length=44+(32*pT s.o.toNat+32*hT s.t.toNat):=by
  rw[Dv hW.ok (by rw[hlv,hqn];exact hq) (yZ v) (bC (dN v p)) (by rw[yZ,aa6];rfl),hqn,V4,ab2]
  rfl
 have ht9:hT s.t.toNat<=10:=hW.t10
 have hp9:=pT_le s.o.toNat
 have kI:=λk=>kImage R k (dN v p) _ _ (iP (s.v L) (BitVec.ofNat 32 q) (yZ v) (bC (dN v p))) (jz p) ww (aU.own (ex:=false) hs6 _ rfl) (aU.own (ex:=false) e3 _ rfl) (by omega) (by omega) (by
  simp only[qi,hR,abA,aan,aat]
  exact⟨rfl,by omega⟩)
 rw[hsl']at kI
 have hpn':44+32*pT s.o.toNat+32*gD (s.v L) q=44+(32*pT s.o.toNat+32*hT s.t.toNat):=by rw[V4,ab2];rfl
 rw[hpn']
 rw[aao]at kI⊢
 simp only[aaP,aaT]at kI⊢
 simp only[↓ah,aj,simprocAttr,aM,e4,H.im,kI]
 exact hk _ R.length _ (hKr.trans (bG.app _ _)) rfl (bw R _) (by have:=bb e4;omega)
end jU
end Go.Am
namespace Go.Am
namespace jU
open Go.Am.F
theorem OO{l:List (BitVec 8)}(h:4<=l.length):fx (cR l).toNat=l.take 4:=by
 rcases l with _|⟨a,_|⟨b,_|⟨c,_|⟨d,l⟩⟩⟩⟩
 ·exact absurd h (by decide)
 ·exact absurd h (by show¬4<=1;decide)
 ·exact absurd h (by show¬4<=2;decide)
 ·exact absurd h (by show¬4<=3;decide)
 have e:cR (a::b::c::d::l)=cR [a,b,c,d]:=rfl
 rw[e,yb]
 have ha:=a.isLt
 have hb:=b.isLt
 have hc:=c.isLt
 have hd:=d.isLt
 show[_,_,_,_]=[a,b,c,d]
 congr 1
 ·apply aaG;rw[aaK];omega
 congr 1
 ·apply aaG;rw[aaK];omega
 congr 1
 ·apply aaG;rw[aaK];omega
 congr 1
 ·apply aaG;rw[aaK];omega
theorem Y6{p:List (BitVec 8)}(h:(cg p).2=0):bC (cg p).1=p:=by
 unfold cg at h⊢
 cases h1:decide (p.length=48)&&decide (p.take 4=pD)
 ·rw[h1]at h;simp at h
 ·rw[h1]at h
  simp only[aaU]at h⊢
  cases h2:bT (lY p)
  ·rw[h2]at h;simp at h
  ·simp only[aaU]
   simp only[aan,aat]at h1
   obtain⟨hl,hc⟩:=h1
   simp only[bC,lY,aaB]
   rw[OO (by rw[aar];omega),OO (by rw[aar];omega),OO (by rw[aar];omega),<-hc]
   have a0:=aa5 4 p
   have a1:=aa5 4 (p.drop 4)
   have a2:=aa5 4 (p.drop 8)
   have a3:=aa5 4 (p.drop 12)
   rw[abv]at a1 a2 a3
   rw[aaC,aaC,aaC]
   have e1:(p.drop 12).take 4++p.drop 16=p.drop 12:=a3
   have e2:(p.drop 8).take 4++p.drop 12=p.drop 8:=a2
   have e3:(p.drop 4).take 4++p.drop 8=p.drop 4:=a1
   rw[e1,e2,e3,a0]
theorem Y7{q:List (BitVec 8)}(h:(cE q).2.2.2=0):bC (cE q).1=q.take 48:=by
 revert h
 unfold cE
 cases d1:decide (q.length<50)
 ·cases d2:decide ((cg (q.take 48)).2≠0)
  ·cases d3:decide ((q.length:Int)<50+dz q+(cg (q.take 48)).1.s)
   ·intro _
    simp only[aaM]
    exact Y6 (Decidable.not_not.1 (aei d2))
   ·intro h;simp at h
  ·intro h
   simp only[aaM,aaU]at h
   exact absurd h (ac1 d2)
 ·intro h;simp at h
theorem Y8{S:zq}{bD i0 i1 s1 p1:List (BitVec 8)}{v1:Nat}(hx:S.x=sF i0 i1)(hc:S.c=Ke bD 0 1)(hv1:v1<=255)(hp:bD.length=56)(RU:s1.length<=65535)(h1:kj (dN v1 p1) s1 (jz p1)=i1)(l1:i1.length<=4096)
  (e1:nU bD (bC (dN v1 p1)) s1=0):(uW S).i≠-1/\jK S.c=bD:=by
 have hf:ey S.c=2:=(abB ey hc).trans (MP bD 0 1 (by decide))
 have hc0:js S.c=0:=(abB js hc).trans (Rj bD 0 1 (by decide))
 have hk:jK S.c=bD:=(abB jK hc).trans (Rk bD 0 1 hp)
 have a1:=Ro (least:=((0:Nat):Int)) (x:=S.x) hv1 RU (j:=1) (n:=4096-i1.length) (by rw[hx,lay_at1 _ _ l1,h1]) e1
 have b1:gT S.x bD ((0:Nat):Int) 1=0:=by rw[a1.1,aaA (by omega)]
 have hr:fU (some (S.x,false))=(fu,-1):=by rw[hx];exact Rn _ _ _
 refine⟨?_,hk⟩
 unfold uW
 rw[hf,hc0,hk,hr,b1]
 generalize gT S.x bD ((0:Nat):Int) 0=y
 by_cases c:y=0
 ·subst c;simp[sE,K7,fu]
 ·simp[sE,K7,fu,c]
theorem ob.off{rows aa:Rows}{L:vI}{s:Sg}{r:Nat}{l:List D}(h:ob rows L s)(hr:live rows r=some ⟨L8,l⟩)(f:∀q row,live rows q=some row->q≠r->live aa q=some row):ob aa L s:=by
 have h0:=h.els hr
 obtain⟨d1,d2,d3,d4,d5⟩:=h0
 refine⟨f _ _ h.a (abT d1),f _ _ h.n (abT d2),f _ _ h.m (abT d3),f _ _ h.t (abT d4),?_⟩
 rcases h.l with h|⟨q,ex,e,hl⟩
 ·exact .inl h
 ·exact .inr ⟨q,ex,e,f _ _ hl λhn=>by subst hn;exact d5 _ _ e⟩
theorem ps_new{rs:Rows}{aF:List (BitVec 8)}{L:vI}(hS:ob rs L (Kh aF))(n9:aF.length=32)(hd:L.dl= .raw (.slice none 0 0)):PS ((Kh aF).v L) []:=by
 have hw:=E6 hS (by decide) (by decide) (by decide) rfl n9
 refine⟨hw,(by decide:hT (3758096385#32).toNat=1),.inr rfl,rfl,acp _,λx hx=>by simp at hx,.inl ⟨?_,rfl⟩,λm=>rfl,λq i=>?_⟩
 ·show TX L (Kh aF)=_
  rw[TX,hd]
 ·show tu [] q i=_
  rw[aaA (by simp)]
  rfl
end jU
end Go.Am
namespace Go.Am
attribute [local congr] dq bW dt bX bY cB bI bZ b5 cC bu cD b6 dj
namespace jU
open Go.Am.F
noncomputable def fgP(n:Nat):aC:=match n with
 |0=>gk
 |n+1=>lG (fgP n)
noncomputable def fgR:aC:=fgP 7
structure FgC (C:bf):Prop where
 k:WkC C
 wk0:C.fn 7=none
 wk1:∃C1,C.fy 7=some (aQ C1 0 mY mX)/\WkC C1
 im:∃C1,C.fy 11=some (aQ C1 4 jB jA)/\ImC C1/\C1.fn 54=some Bo
 bo:C.fn 31=some tR
 su:C.fn 32=some Ql
 sid:C.fn 33=some yU
 rd:C.fn 23=some tx
 r0:C.fn 24=none
 r1:∃C1,C.fy 24=some (aQ C1 1 lP lO)/\C1.fn 74=some rY/\C1.fn 75=some vB/\C1.fn 17=some GJ
 ex0:C.fn 34=none
 N9:∃CE CF CC CO CH CL,C.fy 34=some (aQ CE 4 jP jO)/\ExC CE CF CC CO CH CL
 rig:C.fn 35=some y5
theorem v16it(x:BitVec 16):GW .i64 (.raw (u16 x))=some (it x.toNat):=by simp only[GW,u16,it,IntKind.wrap,IntKind.signed,IntKind.bits];have:=x.isLt;simp;try omega
theorem Gg(C:bf)(H:FgC C){rows:Rows}{env:Env}{L0:vI}{S:Sg}{ml:mK}{r1 r2 m1 m2:Nat}{z i1 s1 p aF:List (BitVec 8)}(at_:BitVec 16)(Ff:BitVec 8)(hS:ob rows L0 S)(hP:PS (S.v L0) ml)(n9:S.aF=aF)(h0:live rows 0=some ⟨.ar 32 L8,[.agg (.ar 32 L8) (bs aF)]⟩)
  (Zu:live rows r1=some ⟨L8,bs i1⟩)(pE:m1=i1.length)(Hi:live rows r2=some ⟨L8,bs z⟩)(KA:m2=z.length)(hne:r1≠r2)(hz0:0<z.length)(hz:z.length<=2400)(hi:i1.length<=2400)(RU:s1.length<=65535)(himg:kj (dN 1 p) s1 (jz p)=i1)(Fa:nU (cy (S.v L0)) (bC (dN 1 p)) s1=0)
  (e15:look env 15=some (.ptr eW L0.r [0]))(e17:look env 17=some (.sl L8 r1 [] 0 m1 false))(e19:look env 19=some (.sl L8 r2 [] 0 m2 false))(e5:look env 5=some (.raw (u16 at_)))(e6:look env 6=some (.raw (u8 Ff)))(e7:look env 7=some (.ptr (.ar 32 L8) 0 [0])):
  aw C fgR (KC [.tmp 14] λd _=>d= .raw (.bool true)) env rows:=by
 subst pE KA n9
 obtain⟨C3,l1,hY⟩:=H.k.la1
 obtain⟨C4,b1⟩:=H.k.bn1
 obtain⟨C5,C6,rr,hR⟩:=H.k.rn1
 obtain⟨C7,q1,q2,q3,q4⟩:=H.r1
 obtain⟨CE,CF',CC,CO,CH,CL,x1,hEx⟩:=H.N9
 have hok:=hP.w.ok
 have tV:=jn hok
 have hix:at_.toNat %z.length<z.length:=ac5 _ hz0
 have rm:((at_.toNat:Int)).tmod ((z.length:Nat):Int)=((at_.toNat %z.length:Nat):Int):=(Int.ofNat_tmod _ _).symm
 have m0:((0:Int)<(z.length:Int))=True:=aas (by omega)
 have mne:((z.length:Int)=0)=False:=aax (by omega)
 have i0:((0:Int)<=((at_.toNat %z.length:Nat):Int))=True:=aas (by omega)
 have i2:(((at_.toNat %z.length:Nat):Int)<(z.length:Int))=True:=aas (by omega)
 have g:=j4 hix
 generalize at_.toNat %z.length=ix at*
 have tE:∀x:BitVec 8,(bs z).set ix (.raw (u8 x))=bs (z.set ix x):=λx=>by rw[bs,bs,acr]
 have hzl:∀x,(z.set ix x).length=z.length:=λx=>aa6 ..
 have hS1:∀y,ob (rows.set r2 (some ⟨L8,y⟩)) L0 S:=λy=>hS.off Hi λq row hq hn=>by rw[az (abT hn)];exact hq
 have kP:=λy k=>JB (rows.set r2 (some ⟨L8,y⟩)) k _ _ (hS1 y).rd hok
 simp only[fgR,fgP,gk,lG,-List.reduceReplicate,pP,dw]
 simp only[-List.reduceReplicate,↓ah,aj,simprocAttr,aM,e15,e17,e19,e5,e6,e7,rm,m0,mne,i0,i2,Hi,g,tE,H.k.pu,kP,H.k.la0,l1,v16it]
 have hS2:=hS1 (bs (z.set ix (z.getD ix 0#8^^^Ff)))
 have g0:live (rows.set r2 (some ⟨L8,bs (z.set ix (z.getD ix 0#8^^^Ff))⟩)) 0=some ⟨.ar 32 L8,[.agg (.ar 32 L8) (bs S.aF)]⟩:=by
  rw[az λe=>by rw[e,h0]at Hi;injection Hi with Hi;injection Hi with Hi _;exact absurd Hi (by decide)];exact h0
 have g1:live (rows.set r2 (some ⟨L8,bs (z.set ix (z.getD ix 0#8^^^Ff))⟩)) r1=some ⟨L8,bs i1⟩:=by rw[az (abT hne)];exact Zu
 have g2:live (rows.set r2 (some ⟨L8,bs (z.set ix (z.getD ix 0#8^^^Ff))⟩)) r2=_:=aD Hi
 have hzl':=hzl (z.getD ix 0#8^^^Ff)
 have hRl:(rows.set r2 (some ⟨L8,bs (z.set ix (z.getD ix 0#8^^^Ff))⟩)).length=rows.length:=aa6 ..
 have hyl:(z.set ix (z.getD ix 0#8^^^Ff)).length<=2400:=by rw[hzl];exact hz
 rw[<-hRl,<-hzl']
 clear tE hS1 kP hzl g hRl hzl' Hi Zu h0 hS
 generalize z.set ix (z.getD ix 0#8^^^Ff)=y at*
 generalize rows.set r2 (some ⟨L8,bs y⟩)=R at*
 have hlR0:=bb g0
 have hlR1:=bb g1
 have hpu:=bw R [some ⟨L8,bs (cy (S.v L0))⟩]
 have WD:=hS2.push [some ⟨L8,bs (cy (S.v L0))⟩]
 have g0':=ae g0 [some ⟨L8,bs (cy (S.v L0))⟩]
 have g1':=ae g1 [some ⟨L8,bs (cy (S.v L0))⟩]
 have g2':=ae g2 [some ⟨L8,bs (cy (S.v L0))⟩]
 generalize hpub:cy (S.v L0)=bD at*
 refine Rl C3 hY (bD:=bD) (p0:=y) (p1:=i1) 0 1 (by decide) (by decide) (λQ hK=>aU.own (hK _ _ hpu) _ tV.symm) tV (λQ hK=>aU.own (hK _ _ g2') _ rfl) (λQ hK=>aU.own (hK _ _ g1') _ rfl) (by omega) (by omega) rfl rfl λR4 L hK4 hMx hM hE=>?_
 generalize hX:sF y i1=X at hM
 generalize Ay:Ke bD 0 1=ch at hM
 generalize zt=Y9 at hM
 obtain⟨UE,hkey⟩:=Y8 (S:=⟨0,Y9,X,ch⟩) hX.symm Ay.symm (by decide) tV RU himg (by omega) Fa
 have hS4:=WD.keep hK4
 have s0:=hK4 _ _ g0'
 generalize R++[some ⟨L8,bs bD⟩]=Q at*
 simp only[aaW,acm,adU,ad2,forall_eq]at hMx
 simp only[↓ah,aj,simprocAttr,aM,H.k.bn0,b1]
 refine Rh C4 ?_
 simp only[↓ah,aj,simprocAttr,aM,H.k.rn0,rr]
 have hRd:Ka (R4++[some ⟨l7,[mc WB]⟩]) L ⟨0,Y9,X,ch⟩ R4.length WB zR sl8:=⟨hM.keep λq row hq _=>ae hq _,hE.keep λq row hq _=>ae hq _,bw R4 _⟩
 refine Rd hR (most:=100) (by decide) (by decide) hRd rfl rfl rfl (λhi=>absurd hi UE) λj n hj hi he Kw R6 c' B' hw hF hM6 hB e1 e2 e3=>?_
 have hold:∀q row,live Q q=some row->live R6 q=some row:=λq row hq=>by
  have:=bb hq
  have h4:=bb (hK4 _ _ hq)
  refine hF _ _ (ae (hK4 _ _ hq) _) ?_
  simp only[Ly.all,aaW,acm,adU,not_or]
  omega
 obtain⟨z',k1,k2,k3,k4,k5,k6,k7,k8,k9,k10,k11⟩:=DM hM.xl hj he
 obtain rfl:z'=n:=by rw[k1]at Kw;omega
 have hkey:jK ch=bD:=hkey
 have hM6:gF R6 L ⟨1,vN Y9 (Hk ⟨0,Y9,X,ch⟩) (l9 X j) z',Hk ⟨0,Y9,X,ch⟩,c'⟩:=hM6
 have hx6:(Hk ⟨0,Y9,X,ch⟩).length=10240:=by rw[OD];exact hM.xl
 have hs6:sub (Hk ⟨0,Y9,X,ch⟩) (4096*j) 4096=sub X (4096*j) 4096:=Hl ⟨0,Y9,X,ch⟩ hM.xl _ _ (by omega)
 have k6:l9 X j+z'<=4096*j+4096:=k6
 have hz6:sub (Hk ⟨0,Y9,X,ch⟩) (l9 X j) z'=sub X (l9 X j) z':=Hl ⟨0,Y9,X,ch⟩ hM.xl _ _ (by omega)
 have k7:cM (sub X (l9 X j) z')=(fD X j).1.dg:=k7
 have k10:nU (jK ch) ((sub X (4096*j) 4096).take 48) (fD X j).2.1=0:=k10
 have k11:(fD X j).2.2.2=0:=k11
 have k4:bT (fD X j).1=true:=k4
 have k5:(fD X j).1.dg.length=32:=k5
 have k1:(fD X j).1.s=(z':Int):=k1
 have e3:B'.iR=(fD X j).1:=e3
 have hbr:bC (fD X j).1=(sub X (4096*j) 4096).take 48:=Y7 k11
 rw[hkey,<-hbr]at k10
 generalize Hk ⟨0,Y9,X,ch⟩=Y at*
 have hram:=MN (gZ:=Y9) (x:=Y) (p:=l9 X j) (z:=z') (by omega)
 rw[hz6]at hram
 obtain⟨⟨co',p',hma'⟩,⟨pt',Za⟩,hrl',hfl',hxl',hch'⟩:=hM6
 simp only at hfl' hrl' hch' Za
 generalize vN Y9 Y (l9 X j) z'=rm2 at*
 have ZB:(sub X (4096*j) 4096).length=4096:=by rw[<-hs6];exact lS (by omega)
 have kRd:=λl k=>JJ (hfl'.push l) (by omega) (4096*j) 4096 (by omega) k
 rw[hs6]at kRd
 simp only[fD]at k1 k4 k5 k7 k10 k11 e3
 obtain⟨rl1,rl2⟩:=QY (sub X (4096*j) 4096)
 generalize sub X (4096*j) 4096=q at*
 generalize sub X (l9 X j) z'=Gc at*
 rw[<-e3]at k1 k4 k5 k7 k10
 generalize hsg:(cE q).2.1=sg at*
 obtain⟨ph,sl,iR,tr,er,lf,jy,least,pu,v0,v1,ops,at2,pay2⟩:=B'
 simp only at e1 e2 e3 k1 k4 k5 k7 k10
 subst e1 e2
 simp only[RX]at hma'
 have Uo:=Za
 simp only[wQ]at Za
 simp only[cP,mc]at hB
 have kB:=λrows k=>JR rows k iR k5 k4
 have FB:=jX iR k5
 have mf:=dK iR
 have gm1:(cw iR).get [1]=some (.raw (it (z':Int))):=by rw[<-k1];rfl
 have gm3:(cw iR).get [3]=some (.agg (.ar 32 L8) (bs iR.dg)):=rfl
 have hBs:∀R e,aU (R6++R) (.sl L8 L.s [0,1] 0 z' e) (rm2.take z'):=λR e=>by
  have:=aU.at (off:=0) (len:=z') (e:=e) (ae Uo R) (n:=8192) (i:=0) (q:=[1]) (l:=rm2) rfl (by omega)
  rwa [abi]at this
 have kSu:∀l e k,aI Ql (R6++l) k [.sl L8 L.s [0,1] 0 z' e]=k (.agg (.ar 32 L8) (bs iR.dg)) (R6++l):=λl e k=>by
  have:=kRSum (R6++l) k (.sl L8 L.s [0,1] 0 z' e) _ (hBs l e) (by rw[aau];omega)
  rwa [hram,k7]at this
 have heq:=eqA_self iR.dg
 have z0:((0:Int)<=(z':Int))=True:=aas (by omega)
 have z1:((z':Int)<=8192)=True:=aas (by omega)
 have hBA:=λl=>ae hB l
 have Ra:=λl=>ae hma' l
 have YQ:=λl=>ae Za l
 have hS6:ob R6 L0 S:=WD.keep hold
 have hs6':live R6 0=_:=hold _ _ g0'
 have hsA:=λl=>ae hs6' l
 have hsm:=hP.smS (bC iR)
 have kSd:∀k,aI yU (R6++[some ⟨L8,bs (bC iR)⟩]) k [.ptr eW L0.r [0],.sl L8 R6.length [] 0 48 false]=k (.raw (.bool (decide (bC iR∈ml.map (·.1))))) (R6++[some ⟨L8,bs (bC iR)⟩]):=λk=>by
  have:=QE (R6++[some ⟨L8,bs (bC iR)⟩]) k (.ptr eW L0.r [0]) (.sl L8 R6.length [] 0 48 false) (S.v L0) (bC iR) (hS6.push _).rd (aU.own (bw R6 _) _ FB.symm) hok hsm.1 (by omega)
  rwa [hsm.2]at this
 have w1:wz (4096*(j:Int))=((4096*j:Nat):Int):=by rw[aZ (by omega)];omega
 have kRd0:∀k,aI tx (R6++[some ⟨L8,bs (bC iR)⟩]) k [.ptr SF L.f [0],.raw (it ((4096*j:Nat):Int)),.raw (it 4096)]=k (.cA [.sl L8 (R6.length+1) [] 0 4096 false,.raw (it 0)]) (R6++[some ⟨L8,bs (bC iR)⟩,some ⟨L8,bs q⟩]):=λk=>by
  have:=kRd [some ⟨L8,bs (bC iR)⟩] k
  rw[aao,aaC]at this
  exact this
 by_cases c:bC iR∈ml.map (·.1)
 ·rw[aaY c]at kSd
  simp only[-List.reduceReplicate,↓ah,aj,simprocAttr,aM,e15,e17,e19,e7,hB,hBA,hma',Ra,Za,YQ,mf,H.bo,kB,gm1,gm3,z0,z1,acB,H.su,kSu,heq,H.sid,kSd]
 rw[aaJ c]at kSd
 simp only[-List.reduceReplicate,↓ah,aj,simprocAttr,aM,e15,e17,e19,e7,hB,hBA,hma',Ra,Za,YQ,mf,H.bo,kB,gm1,gm3,z0,z1,acB,H.su,kSu,heq,H.sid,kSd,w1,H.rd,kRd0,H.r0,q1]
 refine YA C7 (aK R6 _ 1) ZB.symm (by omega) q2 q3 q4 ?_
 rintro _ R7 ⟨L7,d1,d2,rfl,rfl,OW,Kr⟩
 rw[hsg]at OW
 have hK:bG (R6++[some ⟨L8,bs (bC iR)⟩,some ⟨L8,bs q⟩]) (R6++[some ⟨L8,bs (bC iR)⟩,some ⟨L8,bs q⟩]++L7):=bG.app _ _
 have b7:=hK _ _ (bw R6 [some ⟨L8,bs (bC iR)⟩,some ⟨L8,bs q⟩]:_=some ⟨L8,bs (bC iR)⟩)
 have s7:=hK _ _ (hsA _)
 have hS7:=(hS6.push _).keep hK
 generalize R6++[some ⟨L8,bs (bC iR)⟩,some ⟨L8,bs q⟩]++L7=R7 at*
 rw[<-hpub]at k10
 have kf:0<sg.length:=by
  have:=(ver_0 hP k10).2.2.2.2.1
  rcases sg with _|⟨a,l⟩
  ·exfalso
   have h2:(lF []).length=0:=by simp[lF]
   omega
  ·simp
 obtain⟨r8,ex8,rfl,hl8⟩:∃r ex,d1= .sl L8 r [] 0 sg.length ex/\live R7 r=some ⟨L8,bs sg⟩:=by
  rcases OW with⟨e,e'⟩|⟨r,ex,e,hl⟩
  ·exfalso
   have:=abB List.length e
   rw[aB,aaT]at this
   omega
  ·exact⟨r,ex,by rw[e,aB],hl⟩
 have hzm:D.agg SM [.raw (it 0),.raw (it 0),.raw (it 0),.agg (.ar 32 L8) (bs qg)]=cw dP:=rfl
 have mff:=dK
 have sA:=λl=>ae s7 l
 simp only[-List.reduceReplicate,↓ah,aj,simprocAttr,aM,e15,e17,e19,e7,hzm,mff,s7,sA,H.ex0,x1]
 refine Ry CE CF' CC CO CH CL hEx (hS7.push _) hP (msg:=bC iR) (sg:=sg) (.inr ⟨R6.length,_,by rw[FB],ae b7 _⟩) (.inr ⟨_,_,rfl,ae hl8 _⟩) (by omega) (by omega) (λh=>absurd k10 h) (λ_ h=>absurd h c) λ_ hin R8 d k A B pl x ML hFd hG _=>?_
 have hS8:=(hS7.push _).keep ML
 have u0:=ML 0 _ (sA _)
 have U0:=λL'=>ae u0 L'
 have hkr:=λL' k'=>kRightG (rows:=R8++L') (hS8.push L') hP (hFd.keep (bG.app _ L')) hG k'
 obtain⟨d0,dd1,rfl,f0,f1⟩:=hFd.ex
 have f0:=f0.fits
 have f1:=f1.fits
 unfold ju at hkr
 unfold ju
 simp only[↓ah,aj,simprocAttr,aM,e15,e7,f0,f1,u0,U0,k11,H.rig,hkr]
theorem fg_split:gk= .seq (oV (fgP 0)) (.seq (oV (fgP 1)) (.seq (oV (fgP 2)) (.seq (oV (fgP 3)) (.seq (oV (fgP 4)) (.seq (oV (fgP 5)) (.seq (oV (fgP 6)) fgR)))))):=rfl
theorem UN(C:bf)(H:FgC C)(aF:List (BitVec 8))(Rz:aF.length=32)(p q:List (BitVec 8))(hp:p.length<=9223372036854775807)(hq:q.length<=9223372036854775807)(leaf:BitVec 8)(forge:Bool)(at_:BitVec 16)(Ff:BitVec 8):
  aQ C 7 mz gk [.agg (.ar 32 L8) (bs aF),.cI L8 (bs p) false,.cI L8 (bs q) false,.raw (u8 leaf),.raw (.bool forge),.raw (u16 at_),.raw (u8 Ff)] [] (λd _=>d= .raw (.bool true)):=by
 refine ag rfl ?_
 rw[fg_split]
 obtain⟨W1,w1,hWk⟩:=H.wk1
 obtain⟨C1,n1,hL⟩:=H.k.nw1
 obtain⟨C2,i1,hI,hfo⟩:=H.im
 simp only[-List.reduceReplicate,fgP,gk,lG,oV,mz,UD]
 simp only[-List.reduceReplicate,↓ah,aj,simprocAttr,aM,H.wk0,w1]
 refine YZ W1 hWk λR0 hK0=>?_
 have Gk:=hK0 0 ⟨.ar 32 L8,[.agg (.ar 32 L8) (bs aF)]⟩ rfl
 simp only[-List.reduceReplicate,↓ah,aj,simprocAttr,aM,Gk,WI,H.k.nw0,n1]
 refine Re C1 hL (t:=3758096385#32) (o:=3#32) (id:=id1) (aF:=aF) (by decide) (by decide) (by decide) (by decide) Rz λR1 A hS Ue e1 e2 e3 e4 e5=>?_
 have hW:=E6 hS (by decide) (by decide) (by decide) (by decide) Rz
 change ob R1 A (Kh aF)at hS
 change Whole ((Kh aF).v A)at hW
 have hP:=ps_new hS Rz e5
 have RU:=Ue _ _ Gk
 have Fy:=bb Gk
 have sO:=bb RU
 have pU:∀v,(yZ v).length=32:=λv=>by rw[yZ,aa6];rfl
 have FB:∀v p,(bC (dN v p)).length<=60:=λv p=>by rw[jX (dN v p) (cm _)];decide
 have hq0:(Kh aF).nx.toNat<hH ((Kh aF).v A).t:=(by decide:(0#32).toNat<hH 3758096385#32)
 have hlen:=Hm hW rfl rfl hq0 1 p (yZ 1) (bC (dN 1 p)) (pU 1)
 have Fa:=Rp hW hq0 (yZ 1) (bC (dN 1 p)) (pU 1)
 simp only[-List.reduceReplicate,↓ah,aj,simprocAttr,aM,H.k.im0,i1]
 refine E7 C2 hI (d:= .cI L8 (bs p) false) (p:=p) 1 (by decide) hS hW hq0 (acp 1000) (λmore=>ez.to (.inr ⟨false,rfl⟩)) (by simp[dQ,aB]) hp λR2 dl r m WD hm hr DZ hel hd1=>?_
 have hW3:=Kc hW WD
 have hP3:=hP.next (R:=R1) rfl (by decide) (pU 1) (FB 1 p) WD
 have sy:=hel _ _ RU ⟨by omega,by omega,by omega,by omega,λex n e=>by rw[e5]at e;cases e⟩
 have Vd:∀k:BitVec 32,k.toNat<2->k.toNat<hH (((Kh aF).next (yZ 1) (bC (dN 1 p))).v (A.next dl)).t:=λk h=>abR h (by decide:2<=hH 3758096385#32)
 simp only[↓ah,aj,simprocAttr,aM]
 cases forge with
 |false=>
  have HK:=Hm hW3 rfl rfl (Vd (0#32+1#32) (by decide)) 2 q (yZ 2) (bC (dN 2 q)) (pU 2)
  simp only[-List.reduceReplicate,↓ah,aj,simprocAttr,aM,H.k.im0,i1]
  refine E7 C2 hI (d:= .cI L8 (bs q) false) (p:=q) 2 (by decide) WD hW3 (Vd (0#32+1#32) (by decide)) (abx rfl) (λmore=>ez.to (.inr ⟨false,rfl⟩)) (by simp[dQ,aB]) hq λR3 dl2 r2 m2 hS4 KA Hi hrl2 hel2 tD=>?_
  have hP4:=hP3.next (R:=R2) rfl (by show 1<2;decide) (pU 2) (FB 2 q) hS4
  have Vh:=hel2 _ _ sy ⟨show 0≠A.r by omega,show 0≠A.nr by omega,show 0≠A.ms by omega,show 0≠A.mt by omega,λex n e=>by have:=hd1 0 ex n e;omega⟩
  have hr3:=hel2 _ _ hr (WD.els hr)
  have DW:=bb hr
  rw[<-Bv _ A (A.next dl),<-Bv _ (A.next dl) ((A.next dl).next dl2)]at Fa
  have RT:0<(kj (dN 2 q) (iP (((Kh aF).next (yZ 1) (bC (dN 1 p))).v (A.next dl)) (0#32+1#32) (yZ 2) (bC (dN 2 q))) (jz q)).length:=by rw[kj,aao,aao,aao,jX (dN 2 q) (cm _)];omega
  simp only[↓ah,aj,simprocAttr,aM]
  exact Gg C H at_ Ff hS4 hP4 rfl Vh hr3 hm Hi KA (by omega) RT HK.2 hlen.2 (by have:=hlen.1;omega) rfl Fa (by simp only[↓ah,aj,simprocAttr];rfl) (by simp only[↓ah,aj,simprocAttr]) (by simp only[↓ah,aj,simprocAttr]) (by simp only[↓ah,aj,simprocAttr]) (by simp only[↓ah,aj,simprocAttr]) (by simp only[↓ah,aj,simprocAttr])
 |true=>
  have M3:(leaf %2#8).toNat<2:=by rw[abJ];show leaf.toNat %2<2;omega
  generalize hkk:(leaf %2#8).toNat=kk at M3
  have hkn:(BitVec.ofNat 32 kk).toNat=kk:=by rw[aaK];omega
  have HK:=Hm hW3 rfl rfl (Vd (BitVec.ofNat 32 kk) (by omega)) 2 q (yZ 2) (bC (dN 2 q)) (pU 2)
  simp only[-List.reduceReplicate,↓ah,aj,simprocAttr,aM,hkk,H.k.im0,i1]
  refine UM C2 hI hfo (d:= .cI L8 (bs q) false) (p:=q) 2 kk (by decide) WD hW3 (by have:=Vd (BitVec.ofNat 32 kk) (by omega);rwa [hkn]at this) M3 (λmore=>ez.to (.inr ⟨false,rfl⟩)) (by simp[dQ,aB]) hq λR3 r2 m2 hK4 KA Hi hrl2=>?_
  have Vh:=hK4 _ _ sy
  have hr3:=hK4 _ _ hr
  have DW:=bb hr
  rw[<-Bv _ A (A.next dl)]at Fa
  have RT:0<(kj (dN 2 q) (iP (((Kh aF).next (yZ 1) (bC (dN 1 p))).v (A.next dl)) (BitVec.ofNat 32 kk) (yZ 2) (bC (dN 2 q))) (jz q)).length:=by rw[kj,aao,aao,aao,jX (dN 2 q) (cm _)];omega
  simp only[↓ah,aj,simprocAttr,aM]
  exact Gg C H at_ Ff (WD.keep hK4) hP3 rfl Vh hr3 hm Hi KA (by omega) RT HK.2 hlen.2 (by have:=hlen.1;omega) rfl Fa (by simp only[↓ah,aj,simprocAttr];rfl) (by simp only[↓ah,aj,simprocAttr]) (by simp only[↓ah,aj,simprocAttr]) (by simp only[↓ah,aj,simprocAttr]) (by simp only[↓ah,aj,simprocAttr]) (by simp only[↓ah,aj,simprocAttr])
end jU
end Go.Am
namespace Go.Am
namespace jU
open Go.Am.F
def DU(ks:List IntKind)(z:List Int):List Value:=List.zipWith Value.int ks z
def Ho{H:Type}(ks:List IntKind)(zs:List (List Int)):DataW H:= .agg (zs.map λz=> .agg (List.zipWith (λk x=> .lit (.int k x)) ks z))
def gW(ks:List IntKind)(zs:List (List Int)):List Value:=zs.flatMap (DU ks)
def si:List IntKind->Sh
 |[]=> .nil
 |k::ks=> .cons (.leaf (.int k)) (si ks)
def GS(ks:List IntKind)(z:List Int):D:= .agg (si ks) ((DU ks z).map .raw)
theorem rec_len{ks:List IntKind}{zs:List (List Int)}(h:∀z∈zs,z.length=ks.length):(gW ks zs).length=zs.length*ks.length:=by
 induction zs with
 |nil=>simp[gW]
 |cons z zs ih=>
  have:=ih λx hx=>h x (.tail _ hx)
  simp only[gW,aeq,aao,DU,List.length_zipWith,h z (.head _),Nat.min_self,aaP,acJ]at this⊢
  omega
theorem WT{ks:List IntKind}:∀{zs:List (List Int)},(∀z∈zs,z.length=ks.length)->∀(i r:Nat),r<ks.length->(gW ks zs)[i*ks.length+r]?=(zs[i]?).bind λz=>(DU ks z)[r]?
 |[],_,i,r,_=>by simp[gW]
 |z::zs,h,0,r,hr=>by
  have hz:=h z (.head _)
  simp only[gW,aeq,Nat.zero_mul,abE]
  rw[aaN (by simp[DU,hz,hr])];rfl
 |z::zs,h,i+1,r,hr=>by
  have hz:=h z (.head _)
  have ih:=WT (ks:=ks) (λx hx=>h x (.tail _ hx)) i r hr
  simp only[gW,aeq]at ih⊢
  rw[aaO (by simp[DU,hz,acJ];omega)]
  have:(i+1)*ks.length+r-(DU ks z).length=i*ks.length+r:=by simp[DU,hz,acJ];omega
  rw[this,ih];rfl
structure RecT (P:Program) (t e:TypeId) (n:Nat) (fs:Array Field) (ks:List IntKind):Prop where
 ht:P.underlying t=some (.array n e)
 he:P.underlying e=some (.struct fs)
 fl:fs.toList.length=ks.length
 ff:∀r,r<ks.length->(fs.toList.getD r default).offset=r/\P.cellsOf (fs.toList.getD r default).type=1/\P.underlying (fs.toList.getD r default).type=some (.int (ks.getD r .i64))
 ce:P.cellsOf e=ks.length
 ct:P.cellsOf t=n*ks.length
theorem Zb{H:Type}{enc:TypeId×Value->H}{P:Program}{w:World}{base:Nat}{sp:Nat->Bool}{held:Bool}{fuel:Nat}{t e:TypeId}{n:Nat}{fs:Array Field}{ks:List IntKind}{cs:List Value}{zs:List (List Int)}{p:List MemPlace}(T:RecT P t e n fs ks)(hz:∀z∈zs,z.length=ks.length)
  (h:DataW.trod enc P w base sp held fuel t cs=some (Ho ks zs,p)):cs=gW ks zs:=by
 obtain⟨ht,he,my,hff,hce,hct⟩:=T
 cases fuel with
 |zero=>simp[DataW.trod]at h
 | succ fuel =>
  simp only[DataW.trod,ht,hce,hct]at h
  split at h
  ·rename_i hl
   obtain⟨xs,hm,hx⟩:=acT.1 h
   have Sk:xs.map (·.1)=zs.map λz=>(DataW.agg (List.zipWith (λk x=> .lit (.int k x)) ks z):DataW H):=by
    have:=abB Prod.fst hx
    simpa[Ho]using this
   have zA:xs.length=n:=by simpa using Lib.mapM_length hm
   have hzl:zs.length=n:=by
    have:=abB List.length Sk
    simp at this
    omega
   have DZ:=rec_len hz
   apply aco
   intro j
   by_cases hj:j<n*ks.length
   ·have h0:0<ks.length:=Nat.pos_of_ne_zero λh=>by rw[h]at hj;omega
    have hr:j %ks.length<ks.length:=ac5 _ h0
    have hi:j/ks.length<n:=acZ (by rw[adh];exact hj)
    have hjj:j=j/ks.length*ks.length+j %ks.length:=by rw[adh];exact(Nat.div_add_mod j ks.length).symm
    generalize j/ks.length=i at*
    generalize j %ks.length=r at*
    subst hjj
    obtain⟨b,hb,hf⟩:=Lib.mapM_at hm i i (by simp[hi])
    have hg:=abB (·[i]?) Sk
    simp only[abu,hb,acN]at hg
    obtain⟨z,hzi⟩:∃z,zs[i]?=some z:=⟨zs[i]'(by omega),aap (by omega)⟩
    rw[hzi,acN,abY]at hg
    rw[WT hz i r hr,hzi]
    have fJ:cs[i*ks.length+r]?=((cs.drop (i*ks.length)).take ks.length)[r]?:=by
     rw[abr hr,abk]
    rw[fJ]
    generalize (cs.drop (i*ks.length)).take ks.length=c at*
    cases fuel with
    |zero=>simp[DataW.trod]at hf
    | succ fuel =>
     simp only[DataW.trod,he,hce]at hf
     split at hf
     ·obtain⟨ys,hmy,hy⟩:=acT.1 hf
      obtain⟨f,qo⟩:∃f,fs.toList[r]?=some f:=⟨_,aap (by omega)⟩
      obtain⟨g1,g2,g4⟩:=hff r hr
      obtain⟨k,g3⟩:∃k,ks[r]?=some k:=⟨_,aap hr⟩
      rw[aaH,qo]at g1 g2 g4
      rw[aaH,g3]at g4
      simp only[acI]at g1 g2 g4
      obtain⟨y,hyr,H7⟩:=Lib.mapM_at hmy r f qo
      rw[g1,g2]at H7
      obtain⟨x,q1,q2,_⟩:=DataW.trod_int g4 H7
      rw[<-hy]at hg
      have RN:=abB (λd:DataW H=>match d with| .agg l=>l[r]?| _=>none) hg
      simp only[abu,hyr,acN,adY,g3]at RN
      have a0:c[r]?=some (.int k x):=by have:=abB (·[0]?) q1;simpa[abt,abk]using this
      obtain⟨u,hu⟩:∃u,z[r]?=some u:=⟨_,aap (by rw[hz z (abZ hzi)];exact hr)⟩
      rw[hu,q2]at RN
      simp only[abY,DataW.lit.injEq,Lit.int.injEq,aa2]at RN
      rw[a0,RN]
      simp[DU,adY,g3,hu]
     ·cases hf
   ·subst hzl
    rw[abh (by omega),abh (by omega)]
  ·cases h
theorem RK{P:Program}{W:World}{name:String}{g:Nat}{t e:TypeId}{n:Nat}{fs:Array Field}{ks:List IntKind}{zs:List (List Int)}(T:RecT P t e n fs ks)(hz:∀z∈zs,z.length=ks.length)(hg:P.globalNamed name=some g)(hty:(P.globals[g]?).map (·.type)=some t):
  ∀{l:List (String×DataW Unit)} {ps:List MemPlace},DataW.LaidVars P W l ps->(name,Ho ks zs)∈l->W.var? P name=some (gW ks zs).toArray
 |[],ps,_,hm=>by cases hm
 | (n', d') :: r, ps, h, hm => by
  obtain⟨g',t',cs,fuel,p,q,RS,xq,hvar,hd,hr,_⟩:=h
  rcases aaW.1 hm with hm|hm
  ·cases hm
   obtain rfl:=abg (hg.symm.trans RS)
   obtain rfl:=abg (hty.symm.trans xq)
   rw[hvar,<-Zb T hz hd]
  ·exact RK T hz hg hty hr hm
theorem WU{W:World}{T:Nat->Prop}:∀{ks:List IntKind} {z:List Int},bd (LR fE W T) ((DU ks z).map .raw) (DU ks z)
 |[],_=> .nil
 | _::_,[]=> .nil
 |k::ks,x::z=> .cons (.raw _ rfl) (WU (ks:=ks) (z:=z))
theorem RL{W:World}{T:Nat->Prop}{ks:List IntKind}:∀zs:List (List Int),bd (LR fE W T) (aA (zs.map (GS ks))) (gW ks zs)
 |[]=> .nil
 | z :: zs => by
  have hf:∀l:List Value,aA (l.map D.raw)=l.map D.raw:=λl=>by
   induction l with
   |nil=>rfl
   |cons x l ih=>simp[aA,D.flat,ih]
  have e:aA ((z::zs).map (GS ks))=(DU ks z).map .raw++aA (zs.map (GS ks)):=by simp[aA,D.flat,GS,hf]
  rw[e]
  exact WU.append (RL zs)
theorem RM:∀ks:List IntKind,(si ks).isAgg=true/\(si ks).count=ks.length/\∀i,(si ks).sub i=(ks[i]?).map λk=>Sh.leaf (.int k)
 |[]=>⟨rfl,rfl,λi=>by cases i<;>rfl⟩
 |k::ks=>by
  obtain⟨h1,h2,h3⟩:=RM ks
  refine⟨h1,by simp only[si,Sh.count,h2,aaP],λi=>?_⟩
  cases i with
  |zero=>rfl
  |succ i=>exact h3 i
theorem recD_has{ks:List IntKind}{z:List Int}(h:z.length=ks.length):aL (si ks) (GS ks z):=by
 obtain⟨h1,h2,h3⟩:=RM ks
 refine .agg _ _ h1 (by simp[DU,h,h2]) λi e d he hd=>?_
 rw[h3]at he
 obtain⟨k,hk,rfl⟩:=acT.1 he
 simp only[DU,abu,adY,hk]at hd
 cases hz:z[i]? with
 |none=>rw[hz]at hd;cases hd
 |some x=>rw[hz]at hd;cases hd;exact .leaf _ _ (by simp[oD])
theorem MW{P:Program}{W:World}{name:String}{g:Nat}{t e:TypeId}{n:Nat}{fs:Array Field}{ks:List IntKind}{zs:List (List Int)}{l:List (String×DataW Unit)}(h:laidMet P l W)(hm:(name,Ho ks zs)∈l)(T:RecT P t e n fs ks)(hz:∀z∈zs,z.length=ks.length)(hg:P.globalNamed name=some g)(hty:(P.globals[g]?).map (·.type)=some t)(h0:0<(gW ks zs).length):
  LR fE W (old W) (.cd (.agg (.ar zs.length (si ks)) (zs.map (GS ks)))) (.pointer (some ⟨g,0,none⟩)):=by
 obtain⟨ps,hv,_⟩:=h
 have hT:=RK T hz hg hty hv hm
 have hcell:=λj=>World.var?_cell hg hT j
 refine LR.AH (cs:=gW ks zs) (s:= .ar zs.length (si ks)) (.agg _ _ rfl (by simp[Sh.count]) λi e d h1 h2=>?_) ?_ (RL zs) λj x hx=>by rw[abE,hcell j];simpa using hx
 ·simp only[Sh.sub]at h1
  split at h1
  ·cases h1
   obtain⟨z,hm,rfl⟩:=acS.1 (bN h2)
   exact recD_has (hz z hm)
  ·cases h1
 ·have Dm:=hcell 0
  show g<W.heap.size
  rw[World.cell?]at Dm
  split at Dm
  ·rename_i h1;exact(aaX.1 h1).1
  ·have:(gW ks zs)[0]?=none:=by simpa using Dm.symm
   rw[List.getElem?_eq_none_iff]at this
   omega
end jU
end Go.Am
namespace Go.Am
namespace jU
open Go.Am.F
open Ms
set_option maxRecDepth 100000
def vP:List (List Int):=[[1,265,7],[2,133,6],[4,67,4],[8,34,0]]
def vQ:List (List Int):=[[0,0],[536870912,4096],[536875008,4096],[268435456,10240],[1073741824,64],[1610612736,256]]
def Kk:List Int:=NV.map λx=>(x.toNat:Int)
def DV:List Int:=gY.map λx=>(x.toNat:Int)
def tzZ:List Int:=tzL.map λx=>(x.toNat:Int)
def G0:Nat->Option D:=λg=>if g=0 then some EO else if g=2 then some (G2 NV)else if g=5 then some (NS gY)else if g=1 then some tzD else if g=4 then some JL else none
noncomputable def T0:List (Nat×Fn):=[(149,Fc),(152,MQ),(91,yu),(156,(Ru (eN 33153))),(151,(Ru (eN 33667))),(150,(Ru (eN 33410))),(153,(Ru (eN 32896))),(141,Az),(97,JE),(33,yU),(74,rY),(136,vL),(32,Ql),(85,Mb),(86,Dg),(140,Ja),(139,Qf),(75,vB),(16,qv),(134,Hj),(130,Dq),(66,J6),(198,Yy),(208,QV),(209,Wg),(207,On),(206,Wf),(218,Wc),(176,Wx),(195,Oy),(129,JZ),(174,DJ),(193,Ox),(215,Wb),(219,Wa),(221,V9),(222,V8),(217,Hf),(214,Ol),(213,He),(170,yh),(58,yj),(119,Hh),(60,tj),(59,qv),(120,Dq),(118,E2),(57,ME),(116,EZ),(103,qx),(163,tP),(188,tP),(105,tw),(168,Bq),(23,tx),(62,vJ),(189,tv),(175,Wy),(194,Uq),(69,Qu),(132,fOct),(49,G8),(48,N6),(26,TS),(77,fTz),(46,N7),(106,VL),(107,Mo),(71,Jp),(135,fOn),(183,VI),(76,Dr),(78,fWds),(73,tM),(201,rY),(211,fNum),(210,fPre),(94,yf),(55,Ot),(31,tR),(84,vL),(52,fOf),(95,Di),(114,EL),(51,Md),(17,GJ),(90,Jr),(147,ET),(143,Ju),(144,Oa),(146,Az),(10,uP),(54,Bo),(112,VM),(113,Gb),(110,vG),(166,Qs),(111,Jm),(109,VV),(42,Mt),(41,Mr),(102,Qx),(50,Aw),(39,Dp),(101,Qq),(98,yd),(100,yQ),(160,Jk),(159,vE),(185,Dh),(186,fPad),(162,TJ),(161,EP),(167,Aw),(158,td),(184,NW),(202,G3),(203,XR),(212,Vq),(157,Qj),(99,X3),(40,JA),(38,tq),(37,j8),(36,yS)]
noncomputable def C0:bf:=⟨G0,nF T0,λ_=>none,λ_=>none⟩
theorem G0_none(g:Nat)(h:¬g=0)(h0:¬g=2)(h1:¬g=5)(h2:¬g=1)(h3:¬g=4):G0 g=none:=by
 unfold G0
 rw[aaA h,aaA h0,aaA h1,aaA h2,aaA h3]
theorem m_Sel1(C:bf)(hC:aJ C P):aN C.aX P 133 (aQ C 2 iB iA):=PJ hC Go.Proofs.Tryz.func133 (by kernel_rfl) (by kernel_rfl) (abx (by kernel_rfl))
theorem Kl{P:Program}{G:Nat->Option D}{f:FuncId}{A:lI}(h:aN GF P f A):aN G P f A:=λds rows K hA ρ w T args h1 h2 h3 h4 _=>h ds rows K hA ρ w T args h1 h2 h3 h4 (λg d hg=>by cases hg)
theorem sG:aJ C0 P:=by
 have c0:=Vi (G:=G0) (P:=P)
 have c1:=ak (Yh _ c0) c0
 have c2:=ak (X0 _ c1 rfl) c1
 have c3:=ak (Yn _ c2) c2
 have c4:=ak (site_ok _ c3) c3
 have c5:=ak (end_ok _ c4) c4
 have c6:=ak (new_ok _ c5 rfl) c5
 have c7:=ak (word_ok _ c6) c6
 have c8:=ak (rot_ok _ c7) c7
 have c9:=ak (XS _ c8 rfl rfl) c8
 have c10:=ak (press_ok _ c9 rfl rfl rfl) c9
 have c11:=ak (TD _ c10 rfl) c10
 have c12:=ak (four_ok _ c11) c11
 have c13:=ak (front_ok _ c12 rfl rfl rfl) c12
 have c14:=ak (two_ok _ c13) c13
 have c15:=ak (pad_ok _ c14) c14
 have c16:=ak (XV _ c15) c15
 have c17:=ak (stsum_ok _ c16 rfl rfl rfl) c16
 have c18:=ak (step_ok _ c17 rfl rfl rfl rfl) c17
 have c19:=ak (X2 _ c18 rfl) c18
 have c20:=ak (chain_ok _ c19 rfl) c19
 have c21:=ak (fold_ok _ c20 rfl rfl rfl rfl) c20
 have c22:=ak (X7 _ c21 rfl rfl rfl rfl rfl) c21
 have c23:=ak (lfour_ok _ c22) c22
 have c24:=ak (hash_ok _ c23 rfl rfl rfl rfl) c23
 have c25:=ak (leaf_ok _ c24 rfl) c24
 have c26:=ak (node_ok _ c25 rfl) c25
 have c27:=ak (left_ok _ c26 rfl) c26
 have c28:=ak (mash_ok _ c27 rfl rfl rfl rfl) c27
 have c29:=ak (coef_ok _ c28) c28
 have c30:=ak (X5 _ c29 rfl rfl rfl rfl) c29
 have c31:=ak (path_ok _ c30 rfl) c30
 have c32:=ak (sign_ok _ c31 rfl rfl rfl rfl rfl rfl) c31
 have c33:=ak (force_ok _ c32 rfl rfl rfl rfl rfl) c32
 have c34:=ak (TV _ c33 rfl) c33
 have c35:=ak (lnum_ok _ c34) c34
 have c36:=ak (nonep_ok _ c35) c35
 have c37:=ak (readK_ok _ c36 rfl rfl rfl) c36
 have c38:=ak (split_ok _ c37 rfl) c37
 have c39:=ak (claim_ok _ c38 rfl rfl rfl rfl rfl rfl rfl) c38
 have c40:=ak (cut_ok _ c39) c39
 have c41:=ak (join_ok _ c40) c40
 have c42:=ak (bjoin_ok _ c41) c41
 have c43:=ak (sum_ok _ c42 rfl rfl rfl rfl) c42
 have c44:=ak (of_ok _ c43 rfl) c43
 have c45:=ak (right_ok _ c44) c44
 have c46:=ak (body_ok _ c45 rfl) c45
 have c47:=ak (image_ok _ c46 rfl rfl) c46
 have c48:=ak (equal_ok _ c47) c47
 have c49:=ak (pre_ok _ c48 rfl) c48
 have c50:=ak (num_ok _ c49) c49
 have c51:=ak (parse_ok _ c50 rfl rfl rfl) c50
 have c52:=ak (Qm _ c51) c51
 have c53:=ak (wds_ok _ c52) c52
 have c54:=ak (allc_ok _ c53 rfl) c53
 have c55:=ak (ones_ok _ c54) c54
 have c56:=ak (on_ok _ c55 rfl) c55
 have c57:=ak (life_ok _ c56 rfl rfl) c56
 have c58:=ak (plan_ok _ c57 rfl) c57
 have c59:=ak (numb_ok _ c58) c58
 have c60:=ak (tokey_ok _ c59 rfl rfl rfl rfl) c59
 have c61:=ak (tz_ok _ c60 rfl) c60
 have c62:=ak (ctr_ok _ c61 rfl rfl) c61
 have c63:=ak (toctr_ok _ c62 rfl rfl) c62
 have c64:=ak (Yd _ c63 rfl rfl) c63
 have c65:=ak (oct_ok _ c64) c64
 have c66:=ak (keyc_ok _ c65 rfl rfl) c65
 have c67:=ak (ato_ok _ c66) c66
 have c68:=ak (rowc_ok _ c67 rfl rfl rfl rfl) c67
 have c69:=ak (Yp _ c68) c68
 have c70:=ak (Mz _ c69) c69
 have c71:=ak (read_ok _ c70 rfl rfl) c70
 have c72:=ak (V1 _ c71) c71
 have c73:=ak (MA _ c72) c72
 have c74:=ak (QG _ c73) c73
 have c75:=ak (V0 _ c74 rfl) c74
 have c76:=ak (My _ c75 rfl) c75
 have c77:=ak (after_ok _ c76 rfl rfl rfl rfl) c76
 have c78:=ak (allf_ok _ c77 rfl) c77
 have c79:=ak (first_ok _ c78) c78
 have c80:=ak (slot_ok _ c79) c79
 have c81:=ak (X8 _ c80 rfl) c80
 have c82:=ak (X9 _ c81 rfl rfl) c81
 have c83:=ak (YC _ c82 rfl rfl) c82
 have c84:=ak (readj_ok _ c83 rfl rfl rfl) c83
 have c85:=ak (base_ok _ c84 rfl) c84
 have c86:=ak (Yt _ c85) c85
 have c87:=ak (where_ok _ c86 rfl) c86
 have c88:=ak (Yu _ c87) c87
 have c89:=ak (idxb_ok _ c88) c88
 have c90:=ak (idxs_ok _ c89 rfl) c89
 have c91:=ak (idx1_ok _ c90 rfl) c90
 have c92:=ak (hasw_ok _ c91 rfl) c91
 have c93:=ak (there_ok _ c92) c92
 have c94:=ak (YK _ c93 rfl rfl) c93
 have c95:=ak (msnew_ok _ c94) c94
 have c96:=ak (mtext_ok _ c95) c95
 have c97:=ak (mdig_ok _ c96 rfl rfl) c96
 have c98:=ak (mpad_ok _ c97) c97
 have c99:=ak (mnew_ok _ c98 rfl rfl rfl rfl) c98
 have c100:=ak (mfeed_ok _ c99 rfl) c99
 have c101:=ak (msum_ok _ c100 rfl rfl) c100
 have c102:=ak (mnum_ok _ c101) c101
 have c103:=ak (der_ok _ c102 rfl rfl rfl rfl) c102
 have c104:=ak (coren_ok _ c103) c103
 have c105:=ak (cslot_ok _ c104) c104
 have c106:=ak (YI _ c105) c105
 have c107:=ak (TP _ c106) c106
 have c108:=ak (value_ok _ c107) c107
 have c109:=ak (turn_ok _ c108) c108
 have c110:=ak (roots_ok _ c109) c109
 have c111:=ak (XU _ c110 rfl rfl rfl) c110
 have c112:=ak (num_sl _ c111) c111
 have c113:=ak (rsum_ok _ c112 rfl rfl rfl) c112
 have c114:=ak (Yz _ c113) c113
 have c115:=ak (QX _ c114 rfl rfl) c114
 have c116:=ak (Yo _ c115) c115
 have c117:=ak (knows_ok _ c116 rfl) c116
 have c118:=ak (pnum_ok _ c117) c117
 have c119:=ak (UH _ c118) c118
 have c120:=ak (leaf2_ok _ c119) c119
 have c121:=ak (Y1 _ c120) c120
 have c122:=ak (mesg2_ok _ c121) c121
 have c123:=ak (sitep_ok _ c122) c122
 have c124:=ak (valp_ok _ c123 rfl rfl rfl) c123
 exact ak (text_okP _ c124 rfl) c124
noncomputable def RA:List (Nat×lI):=[(8,aQ C0 4 um uk),(53,aQ C0 3 iw iv),(145,aQ C0 2 lq lp),(220,aQ C0 0 nM nL),(133,aQ C0 2 iB iA),(182,aQ C0 1 ii ig),(205,aQ C0 2 cZ cY),(128,aQ C0 0 rA rz),(64,aQ C0 2 iz iy),(67,aQ C0 0 vz vv),(14,aQ C0 0 oK oJ),(172,aQ C0 3 jg jf),(104,aQ C0 1 oM oL),(165,aQ C0 4 je jd),(200,aQ C0 2 fZ fY),(192,aQ C0 2 iW iV),(180,aQ C0 1 iH iG),(24,aQ C0 1 lP lO),(43,aQ CF 1 m8 mZ),(45,aQ CF 3 eB eA),(117,aQ CF 4 dE dD)]
noncomputable def CA:bf:=⟨G0,nF T0,pV RA,λ_=>none⟩
theorem ctxA:aJ CA P:=by
 have z:aJ ⟨G0,nF T0,pV [],λ_=>none⟩ P:=⟨sG.1,(ctx_nilr (G:=G0) (P:=P)).2.1,sG.2.2⟩
 replace z:=aT (Kl (A5 CF ctxF)) z
 replace z:=aT (Kl (zd CF ctxF)) z
 replace z:=aT (Kl (PW CF ctxF)) z
 replace z:=aT (Nv C0 sG) z
 replace z:=aT (CR C0 sG) z
 replace z:=aT (zm C0 sG) z
 replace z:=aT (Da C0 sG) z
 replace z:=aT (Ey C0 sG) z
 replace z:=aT (Tn C0 sG) z
 replace z:=aT (IX C0 sG) z
 replace z:=aT (Td C0 sG) z
 replace z:=aT (Ti C0 sG) z
 replace z:=aT (Cc C0 sG) z
 replace z:=aT (Tq C0 sG) z
 replace z:=aT (tL C0 sG) z
 replace z:=aT (GG C0 sG) z
 replace z:=aT (m_Sel1 C0 sG) z
 replace z:=aT (I3 C0 sG) z
 replace z:=aT (Tu C0 sG) z
 replace z:=aT (Cb C0 sG) z
 exact aT (XF C0 sG) z
noncomputable def T1:List (Nat×Fn):=(70,Ug)::(204,Hg)::(216,fMay)::(88,yT)::(142,VT)::(89,EV)::T0
noncomputable def Q0:List (Nat×Gh):=[(13,Gd),(148,Rw)]
noncomputable def CB:bf:=⟨G0,nF T1,pV RA,Em Q0⟩
theorem zu:aJ CB P:=by
 have c1:=ak (parts_ok CA C0 ctxA rfl rfl rfl rfl rfl rfl) ctxA
 have c2:=ak (root_ok _ c1 rfl rfl rfl rfl rfl rfl) c1
 have c3:=ak (Ym _ c2 rfl rfl) c2
 have c4:=ak (may_ok _ C0 c3 rfl rfl) c3
 have c5:=ak (Yv _ c4 rfl rfl rfl rfl rfl) c4
 have c6:=ak (sel_ok _ C0 c5 rfl rfl rfl rfl) c5
 have z:aJ ⟨G0,nF T1,pV RA,Em []⟩ P:=⟨c6.1,c6.2.1,by intro f F h;cases h⟩
 exact LF (next2_ok C0 sG (λ_=>rfl) rfl rfl rfl) (LF (two2_ok C0 sG (λ_=>rfl) rfl) z)
theorem ofB:OfC CB:=⟨rfl,rfl⟩
noncomputable def RB:List (Nat×lI):=(131,aQ CB 3 jc jb)::(108,aQ CB 3 fO fN)::(44,aQ CB 0 uv uu)::(56,aQ CB 4 ja iZ)::(196,aQ CB 2 fG fF)::(173,aQ CB 2 gN gM)::(169,aQ CB 2 gL gK)::(190,aQ CB 5 fC fz)::(65,aQ CB 0 nI nH)::(181,aQ CB 1 jR jQ)::(11,aQ CB 4 jB jA)::(154,aQ CB 4 fQ fP)::(92,aQ CB 5 fM fL)::(155,aQ CB 2 iD iC)::(87,aQ CB 2 lj lh)::RA
noncomputable def T2:List (Nat×Fn):=(35,y5)::(96,WR)::(68,MD)::T1
noncomputable def CC:bf:=⟨G0,nF T2,pV RB,Em Q0⟩
theorem Fg:aJ CC P:=by
 have z:=zu
 replace z:=aT (Tj CB zu) z
 replace z:=aT (Cz CB zu) z
 replace z:=aT (xM CB zu) z
 replace z:=aT (xX CB zu) z
 replace z:=aT (PR CB zu) z
 replace z:=aT (GD CB zu) z
 replace z:=aT (NA CB zu) z
 replace z:=aT (wI CB zu) z
 replace z:=aT (Ez CB zu) z
 replace z:=aT (EA CB zu) z
 replace z:=aT (EC CB zu) z
 replace z:=aT (It CB zu) z
 replace z:=aT (XH CB zu) z
 replace z:=aT (xR CB zu) z
 replace z:=aT (Eu CB zu) z
 replace z:=ak (look_ok _ CB C0 z rfl rfl rfl rfl rfl rfl rfl rfl rfl rfl) z
 replace z:=ak (val7_ok _ CB z ⟨rfl,rfl,rfl,ofB,rfl,rfl⟩) z
 replace z:=ak (Y5 _ z rfl rfl rfl rfl) z
 exact z
noncomputable def RD:List (Nat×lI):=(12,aQ CC 3 lN lM)::(197,aQ CC 2 jl jk)::(199,aQ CC 2 iJ iI)::(177,aQ CC 4 jj jh)::(171,aQ CC 4 fS fR)::(47,aQ CC 2 mj mi)::(20,aQ CC 2 iu ir)::(123,aQ CC 2 fo fm)::(124,aQ CC 2 cW cV)::(125,aQ CC 2 eT eS)::(126,aQ CC 2 eF eE)::(93,aQ CC 4 gA gz)::RB
noncomputable def CD:bf:=⟨G0,nF T2,pV RD,Em Q0⟩
theorem UO:aJ CD P:=by
 have z:=Fg
 replace z:=aT (zf CC Fg) z
 replace z:=aT (zi CC Fg) z
 replace z:=aT (A8 CC Fg) z
 replace z:=aT (A7 CC Fg) z
 replace z:=aT (Cr CC Fg) z
 replace z:=aT (BX CC Fg) z
 replace z:=aT (KF CC Fg) z
 replace z:=aT (xY CC Fg) z
 replace z:=aT (EB CC Fg) z
 replace z:=aT (C9 CC Fg) z
 replace z:=aT (ED CC Fg) z
 exact aT (Nu CC Fg) z
noncomputable def RE:List (Nat×lI):=(121,aQ CD 2 eD eC)::(122,aQ CD 2 eR cr)::(178,aQ CD 5 gC gB)::(179,aQ CD 2 iF iE)::(9,aQ CD 4 ur uo)::(34,aQ CD 4 jP jO)::RD
noncomputable def CE:bf:=⟨G0,nF T2,pV RE,Em Q0⟩
theorem ctxE:aJ CE P:=by
 have z:=UO
 replace z:=aT (Gt CD UO) z
 replace z:=aT (XG CD UO) z
 replace z:=aT (CQ CD UO) z
 replace z:=aT (zk CD UO) z
 replace z:=aT (A6 CD UO) z
 exact aT (zh CD UO) z
noncomputable def RG:List (Nat×lI):=(127,aQ CE 2 eU bz)::RE
noncomputable def CG:bf:=⟨G0,nF T2,pV RG,Em Q0⟩
theorem ctxG:aJ CG P:=by
 have z:=ctxE
 exact aT (A9 CE ctxE) z
noncomputable def RH:List (Nat×lI):=(61,aQ CG 2 cH cG)::RG
noncomputable def CH:bf:=⟨G0,nF T2,pV RH,Em Q0⟩
theorem ctxH:aJ CH P:=by
 have z:=ctxG
 exact aT (Et CG ctxG) z
noncomputable def RI:List (Nat×lI):=(15,aQ CH 3 ie cn)::RH
noncomputable def CI:bf:=⟨G0,nF T2,pV RI,Em Q0⟩
theorem ctxI:aJ CI P:=by
 have z:=ctxH
 exact aT (Gs CH ctxH) z
noncomputable def RJ:List (Nat×lI):=(7,aQ CI 0 mY mX)::RI
noncomputable def CJ:bf:=⟨G0,nF T2,pV RJ,Em Q0⟩
theorem ctxJ:aJ CJ P:=by
 have z:=ctxI
 exact aT (PQ CI ctxI) z
theorem lmC:LmC C0:=⟨rfl,rfl,rfl,rfl,rfl,rfl,rfl⟩
theorem lmS:LmS C0:=⟨rfl,rfl,rfl,rfl,rfl⟩
theorem haB:HaC CC:=⟨rfl,_,rfl,⟨rfl,_,rfl⟩⟩
theorem cpB:CpC CB:=⟨⟨rfl,_,rfl⟩,rfl⟩
theorem slC:SlC CB CC:=⟨rfl,rfl,rfl,_,rfl⟩
theorem doC:DoC CC:=⟨rfl,rfl,_,rfl,⟨rfl,rfl,rfl⟩⟩
theorem imC:ImC CB:=⟨rfl,rfl,rfl,rfl,rfl,⟨_,rfl,lmS⟩,rfl⟩
theorem prC:PrgC C0 CB CC:=⟨rfl,rfl,rfl,rfl,rfl⟩
theorem nmC:NmC CC:=⟨rfl,⟨_,rfl⟩,rfl,⟨_,rfl,⟨rfl,⟨_,rfl⟩,rfl⟩⟩,rfl,⟨_,rfl⟩,rfl⟩
theorem stC:StC CB CC:=⟨⟨rfl,rfl⟩,rfl,rfl,rfl,⟨_,rfl⟩⟩
theorem cdC:CdC CD:=⟨⟨rfl,_,rfl⟩,rfl,rfl,rfl,⟨_,_,rfl,stC⟩⟩
theorem wrC:WrC CD:=⟨rfl,⟨_,rfl,doC⟩,rfl,⟨_,rfl,cpB⟩⟩
theorem staC:StaC CC:=⟨⟨rfl,_,rfl⟩,haB,rfl,rfl,rfl,rfl,rfl⟩
theorem lkC:LkC CC:=⟨⟨rfl,_,rfl⟩,rfl⟩
theorem choC:ChoC CC:=⟨rfl,rfl,rfl,rfl,rfl,haB,⟨rfl,_,rfl⟩,rfl,⟨_,rfl,cpB⟩⟩
theorem ckC:CkC CC:=⟨⟨rfl,_,rfl⟩,haB,rfl⟩
theorem locE:LocC CE:=⟨⟨rfl,_,rfl⟩,rfl,⟨_,rfl⟩,rfl,⟨_,C0,rfl,rfl,rfl,rfl⟩,rfl,rfl⟩
theorem lobE:LobC CE:=⟨rfl,rfl,rfl,⟨_,_,rfl,slC⟩,rfl,⟨_,CC,CB,rfl,⟨⟨rfl,rfl,rfl,_,rfl⟩,rfl,rfl,⟨_,slC⟩,rfl⟩⟩,rfl,⟨_,CC,CB,rfl,⟨rfl,rfl,slC⟩⟩⟩
theorem tkG:TkC CG:=⟨rfl,⟨_,rfl,wrC⟩,rfl,⟨_,rfl,cdC⟩,rfl,⟨_,rfl,staC⟩,rfl,⟨_,rfl,lkC⟩,rfl,⟨_,rfl,choC⟩,rfl,⟨_,rfl,ckC⟩,rfl,⟨_,rfl,⟨rfl,rfl,lobE,locE⟩⟩⟩
theorem rnH:RnC CH CG:=⟨rfl,rfl,tkG⟩
theorem layC:LayC CD:=⟨rfl,rfl,rfl,⟨_,_,rfl,rfl,rfl⟩,rfl,rfl,rfl,rfl,rfl,rfl,rfl,⟨_,_,_,rfl,prC⟩,rfl,⟨_,rfl,nmC⟩⟩
theorem wkI:WkC CI:=⟨rfl,⟨_,rfl,lmC⟩,rfl,rfl,⟨_,rfl,imC⟩,rfl,⟨_,rfl,layC⟩,rfl,⟨_,rfl⟩,rfl,⟨_,_,rfl,rnH⟩⟩
theorem wkJ:WkC CJ:=⟨rfl,⟨_,rfl,lmC⟩,rfl,rfl,⟨_,rfl,imC⟩,rfl,⟨_,rfl,layC⟩,rfl,⟨_,rfl⟩,rfl,⟨_,_,rfl,rnH⟩⟩
theorem chB:ChC CB:=⟨rfl,rfl,rfl,rfl,rfl,rfl,rfl⟩
theorem clB:ClC CB:=⟨rfl,rfl,rfl,rfl,rfl,rfl,rfl,rfl,rfl,rfl⟩
theorem onC:OnC CC CB CB:=⟨rfl,rfl,rfl,rfl,rfl,rfl,rfl,rfl,rfl,rfl,rfl,rfl,rfl,rfl,rfl,rfl,chB,rfl,rfl⟩
theorem exD:ExC CD CB CB CC CB CB:=⟨rfl,rfl,ofB,rfl,rfl,rfl,rfl,rfl,rfl,rfl,rfl,clB,rfl,rfl,onC⟩
theorem fgJ:FgC CJ:=⟨wkJ,rfl,⟨_,rfl,wkI⟩,⟨_,rfl,imC,rfl⟩,rfl,rfl,rfl,rfl,rfl,⟨_,rfl,rfl,rfl,rfl⟩,rfl,⟨_,CB,CB,CC,CB,CB,rfl,exD⟩,rfl⟩
theorem CJ_types:CJ.aX 0=some (D.agg (.ar vP.length (si [.i64,.i64,.i64])) (vP.map (GS [.i64,.i64,.i64]))):=rfl
theorem CJ_first:CJ.aX 2=some (xB .u32 Kk):=rfl
theorem Zc:CJ.aX 5=some (xB .u32 DV):=rfl
theorem CJ_tz:CJ.aX 1=some (xB .u8 tzZ):=rfl
theorem CJ_spans:CJ.aX 4=some (D.agg (.ar vQ.length (si [.u32,.i64])) (vQ.map (GS [.u32,.i64]))):=rfl
theorem OP(g:Nat)(h:¬g=0)(h0:¬g=2)(h1:¬g=5)(h2:¬g=1)(h3:¬g=4):CJ.aX g=none:=G0_none g h h0 h1 h2 h3
end jU
end Go.Am
namespace Go.Proofs.YtgcejocgnfkciaaGreatDoor.forges
open Go.Am Go.Am.jU Go.Am.F
open Go.ChangeShapes Go.WideShapes Go.ChangeAt Go.RowKit
def K:XD:= .cons (.arr 32 (.int .u8)) (.cons (.slice (.int .u8)) (.cons (.slice (.int .u8)) (.cons (.int .u8) (.cons (.bool) (.cons (.int .u16) (.cons (.int .u8) .nil))))))
noncomputable def Zd(g:Nat):TypeId:=(Tryz.prog.globals[g]?.map (·.type)).getD 0
noncomputable def Ze(g:Nat):TypeId:=match Tryz.prog.underlying (Zd g)with|some (.array _ e)=>e| _=>0
noncomputable def recF(g:Nat):Array Field:=match Tryz.prog.underlying (Ze g)with|some (.struct fs)=>fs| _=>#[]
theorem own:ownKnob Tryz.prog.godebug=none:=by kernel_rfl
theorem laid:laidOutB Tryz.prog=true:=by kernel_rfl
theorem law(dd:List D)(h:DNs K dd):aQ CJ 7 mz gk dd [] (λd _=>d= .raw (.bool true)):=by
 rcases dd with _|⟨d0,_|⟨d1,_|⟨d2,_|⟨d3,_|⟨d4,_|⟨d5,_|⟨d6,_|⟨d7,l⟩⟩⟩⟩⟩⟩⟩⟩
 ·exact h.elim
 ·exact h.2.elim
 ·exact h.2.2.elim
 ·exact h.2.2.2.elim
 ·exact h.2.2.2.2.elim
 ·exact h.2.2.2.2.2.elim
 ·exact h.2.2.2.2.2.2.elim
 ·obtain⟨h1,h2,h3,h4,h5,h6,h7,-⟩:=h
  unfold DN DK at h4 h5 h6 h7
  obtain⟨aF,rfl,n9⟩:=dk_arr8 h1
  obtain⟨p,rfl,hp,-⟩:=dn_bs h2
  obtain⟨q,rfl,hq,-⟩:=dn_bs h3
  unfold maxLen at hp hq
  obtain⟨leaf,rfl⟩:=h4
  obtain⟨fg,rfl⟩:=h5
  obtain⟨a,rfl⟩:=h6
  obtain⟨tn,rfl⟩:=h7
  exact UN CJ fgJ aF n9 p q (by omega) (by omega) leaf fg a tn
 ·exact h.2.2.2.2.2.2.2.elim
theorem globs{W:World}(hL:laidMetH Tryz.prog Rows.topForgesRow.laid W)(g:Nat)(d:D)(h:CJ.aX g=some d):LR fE W (old W) (.cd d) (.pointer (some ⟨g,0,none⟩)):=by
 have M1:laidMet Tryz.prog Rows.topForgesRow.laid W:=hL
 by_cases h0:g=1
 ·subst h0
  have e:xB .u8 tzZ=d:=abg ((CJ_tz:CJ.aX 1=some (xB .u8 tzZ)).symm.trans h)
  subst e
  exact Ep (P:=Tryz.prog) (t:=Zd 1) (e:=Ze 1) (n:=tzZ.length) (name:=(Rows.topForgesRow.laid.getD 0 ("",.nil)).1) M1 (abZ (i:=0) rfl) (by kernel_rfl) (by kernel_rfl) (by kernel_rfl) (by kernel_rfl) (by kernel_rfl) (by kernel_rfl) (by decide)
 by_cases h1:g=2
 ·subst h1
  have e:xB .u32 Kk=d:=abg ((CJ_first:CJ.aX 2=some (xB .u32 Kk)).symm.trans h)
  subst e
  exact Ep (P:=Tryz.prog) (t:=Zd 2) (e:=Ze 2) (n:=Kk.length) (name:=(Rows.topForgesRow.laid.getD 1 ("",.nil)).1) M1 (abZ (i:=1) rfl) (by kernel_rfl) (by kernel_rfl) (by kernel_rfl) (by kernel_rfl) (by kernel_rfl) (by kernel_rfl) (by decide)
 by_cases h2:g=5
 ·subst h2
  have e:xB .u32 DV=d:=abg ((Zc:CJ.aX 5=some (xB .u32 DV)).symm.trans h)
  subst e
  exact Ep (P:=Tryz.prog) (t:=Zd 5) (e:=Ze 5) (n:=DV.length) (name:=(Rows.topForgesRow.laid.getD 2 ("",.nil)).1) M1 (abZ (i:=2) rfl) (by kernel_rfl) (by kernel_rfl) (by kernel_rfl) (by kernel_rfl) (by kernel_rfl) (by kernel_rfl) (by decide)
 by_cases h3:g=0
 ·subst h3
  have e:D.agg (.ar vP.length (si [.i64,.i64,.i64])) (vP.map (GS [.i64,.i64,.i64]))=d:=abg ((CJ_types:CJ.aX 0=some (D.agg (.ar vP.length (si [.i64,.i64,.i64])) (vP.map (GS [.i64,.i64,.i64])))).symm.trans h)
  subst e
  exact MW (P:=Tryz.prog) (t:=Zd 0) (e:=Ze 0) (n:=vP.length) (fs:=recF 0) (zs:=vP) (ks:=[.i64,.i64,.i64]) (name:=(Rows.topForgesRow.laid.getD 3 ("",.nil)).1) M1 (abZ (i:=3) rfl) ⟨by kernel_rfl,by kernel_rfl,by kernel_rfl,λr h=>match r,h with|0,_=>⟨by kernel_rfl,by kernel_rfl,by kernel_rfl⟩|1,_=>⟨by kernel_rfl,by kernel_rfl,by kernel_rfl⟩|2,_=>⟨by kernel_rfl,by kernel_rfl,by kernel_rfl⟩|n+3,h=>absurd h (Nat.not_lt.2 (Nat.le_add_left _ _)),by kernel_rfl,by kernel_rfl⟩ (by decide) (by kernel_rfl) (by kernel_rfl) (by decide)
 by_cases h4:g=4
 ·subst h4
  have e:D.agg (.ar vQ.length (si [.u32,.i64])) (vQ.map (GS [.u32,.i64]))=d:=abg ((CJ_spans:CJ.aX 4=some (D.agg (.ar vQ.length (si [.u32,.i64])) (vQ.map (GS [.u32,.i64])))).symm.trans h)
  subst e
  exact MW (P:=Tryz.prog) (t:=Zd 4) (e:=Ze 4) (n:=vQ.length) (fs:=recF 4) (zs:=vQ) (ks:=[.u32,.i64]) (name:=(Rows.topForgesRow.laid.getD 4 ("",.nil)).1) M1 (abZ (i:=4) rfl) ⟨by kernel_rfl,by kernel_rfl,by kernel_rfl,λr h=>match r,h with|0,_=>⟨by kernel_rfl,by kernel_rfl,by kernel_rfl⟩|1,_=>⟨by kernel_rfl,by kernel_rfl,by kernel_rfl⟩|n+2,h=>absurd h (Nat.not_lt.2 (Nat.le_add_left _ _)),by kernel_rfl,by kernel_rfl⟩ (by decide) (by kernel_rfl) (by kernel_rfl) (by decide)
 ·exact absurd h (by rw[OP g h3 h1 h2 h0 h4];exact nofun)
def lay0:Obj->Obj
 | .cells _ t frozen=> .cells (tzZ.map λz=>Value.int .u8 z).toArray t frozen
 |o=>o
def lay1:Obj->Obj
 | .cells _ t frozen=> .cells (Kk.map λz=>Value.int .u32 z).toArray t frozen
 |o=>o
def lay2:Obj->Obj
 | .cells _ t frozen=> .cells (DV.map λz=>Value.int .u32 z).toArray t frozen
 |o=>o
def lay3:Obj->Obj
 | .cells _ t frozen=> .cells (gW [.i64,.i64,.i64] vP).toArray t frozen
 |o=>o
def lay4:Obj->Obj
 | .cells _ t frozen=> .cells (gW [.u32,.i64] vQ).toArray t frozen
 |o=>o
noncomputable def Fh(os:Os):World:={World.holding Tryz.prog os ⟨#[],#[],[]⟩with heap:=((((((World.holding Tryz.prog os ⟨#[],#[],[]⟩).heap.modify 1 lay0).modify 2 lay1).modify 5 lay2).modify 0 lay3).modify 4 lay4)}
theorem laid_met(os:Os):laidMet Tryz.prog Rows.topForgesRow.laid ((Fh os).forCall (λ_ _=>0) ⟨#[],#[.agg (Array.replicate 32 (Value.int .u8 0)),.slice none 0 0,.slice none 0 0,.int .u8 0,.bool false,.int .u16 0,.int .u8 0],[]⟩).memory:=
 laidMet_of_run' 8 (by kernel_rfl) (by kernel_rfl)
theorem reads(os:Os){H:Type}(enc:TypeId×Value->H):∃places,DataW.whole enc Tryz.prog ((Fh os).forCall (λ_ _=>0) ⟨#[],#[.agg (Array.replicate 32 (Value.int .u8 0)),.slice none 0 0,.slice none 0 0,.int .u8 0,.bool false,.int .u16 0,.int .u8 0],[]⟩).memory Tryz.f6.params.toList Rows.topForgesSpec.vars false #[.agg (Array.replicate 32 (Value.int .u8 0)),.slice none 0 0,.slice none 0 0,.int .u8 0,.bool false,.int .u16 0,.int .u8 0].toList 8=some ([.agg (List.replicate 32 (.lit (.int .u8 0))),.nil,.nil,.lit (.int .u8 0),.lit (.bool false),.lit (.int .u16 0),.lit (.int .u8 0)],[],places):=
 ⟨[],by kernel_rfl⟩
set_option maxRecDepth 100000 in
theorem lifted(os:Os)(started:os.Started)(H:Type)(enc:TypeId×Value->H)(F:Stop.Interp):
  ReturnsInHanded {} Tryz.checked os 6 .any ((OpenSpec.ofChange Rows.topForgesSpec).preRow enc Tryz.prog Tryz.f6 Rows.topForgesRow.domain false Rows.topForgesRow.laid) (((OpenSpec.ofChange Rows.topForgesSpec).at F).post enc Tryz.prog Tryz.f6 false true false false):=by
 obtain⟨places,hx⟩:=reads os enc
 refine returnsInHanded_of_row (C:=Tryz.checked) (s:=(OpenSpec.ofChange Rows.topForgesSpec)) own started (by kernel_rfl) Tryz.func6
  (witness_row_at (enc:=enc) (C:=Tryz.checked) false (Fh os) #[.agg (Array.replicate 32 (Value.int .u8 0)),.slice none 0 0,.slice none 0 0,.int .u8 0,.bool false,.int .u16 0,.int .u8 0] rfl (by kernel_rfl) (by kernel_rfl) (by kernel_rfl)
   (OpenSpec.preRow_of_cond 8 hx (by kernel_rfl) (λk hk=>by cases hk) (by kernel_rfl) (laid_met os))) ?_
 intro W base args ds gs before hval hW _ _ _ hL _ _
 exact row_law (Gr CJ ctxJ) laid (n:=9) (ks:=K) (tb:=Tryz.f6.resultTypes.getD 0 0) (by kernel_rfl) (by kernel_rfl) rfl (by kernel_rfl) (by kernel_rfl) (λds h=>by match ds,h with|[_,_,_,_,_,_,_],_=>rfl) (λdd h _=>law dd h) hval hW (λg d h=>globs hL g d h)
theorem and_t{a b:Bool}(h1:a=true)(h2:b=true):(a&&b)=true:=by rw[h1,h2];rfl
set_option maxHeartbeats 4000000 in
theorem closed3:joinedFacts Tryz.pinned.checked.prog 6 Tryz.f6 (OpenSpec.ofChange Rows.topForgesSpec).bare Rows.topForgesRow=true:=by
 unfold joinedFacts
 iterate 31 refine and_t ?_ ?_
 all_goals as_aux_lemma=>kernel_rfl
theorem over:Rows.TopForgesSaid:=
 OpenClaim.holds_of_cond 6 Tryz.f6 rfl rfl rfl rfl rfl rfl rfl ⟨rfl,rfl,rfl,rfl,rfl⟩ rfl rfl rfl rfl rfl (by as_aux_lemma=>kernel_rfl) Tryz.func6 closed3
  (ac1 (by as_aux_lemma=>kernel_rfl)) (by as_aux_lemma=>unfold Func.isWrapper;first|(rw[aaI (by decide+kernel)];kernel_rfl)|(rw[aaA (by decide+kernel)];exact⟨rfl,rfl⟩))
  (λos started H enc _ F=>by rw[OpenClaim.pre_eq_preRow];exact lifted os started H enc F)
theorem plain(f:FuncId)(fn:Func)(hf:Tryz.pinned.checked.prog.funcNamed Rows.topForgesRow.func=some f)(hfn:Tryz.pinned.checked.prog.funcs[f]?=some fn):
  false=Tryz.pinned.checked.prog.looks []/\∀(j:Nat) t,fn.params[j]?=some t->Tryz.pinned.checked.prog.wantsStandIn t=false:=by
 obtain rfl:f=6:=(abg ((show Tryz.prog.funcNamed Rows.topForgesRow.func=some 6 by as_aux_lemma=>kernel_rfl).symm.trans hf)).symm
 obtain rfl:fn=Tryz.f6:=(abg (Tryz.func6.symm.trans hfn)).symm
 refine⟨by as_aux_lemma=>kernel_rfl,λj t ht=>?_⟩
 have bQ:(Tryz.f6.params.toList.all λt=>!Tryz.prog.wantsStandIn t)=true:=by as_aux_lemma=>kernel_rfl
 have:=aa7.1 bQ t (by simpa using Array.mem_of_getElem? ht)
 exact(by simpa using this:Tryz.prog.wantsStandIn t=false)
theorem proved:Rows.TopForgesCardSaid:=
 Claim7.holds_tied_plain_at .later [] _ _ _ _ over (λ_ h=>by cases h) (by as_aux_lemma=>kernel_rfl) (λ_ h=>by cases h) topForges_row_tie rfl ⟨rfl,rfl⟩ (by as_aux_lemma=>kernel_rfl) rfl plain (by as_aux_lemma=>kernel_rfl)
end Go.Proofs.YtgcejocgnfkciaaGreatDoor.forges

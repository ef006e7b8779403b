/- 'TopTrials' returns true for every input: a proof of the given card; its condition: the listed package variables hold what the program's text lays (tied by the card). -/
import Derived.Test.YtgcejocgnfkciaaGreatDoorKi12
import Derived.Test.YtgcejocgnfkciaaGreatDoorCards
import Derived.Test.YtgcejocgnfkciaaGreatDoorTie
import Derived.WalkKit
import Derived.ProofKit
import Derived.OpenShut
import Derived.Deep.DeepHandedRow
set_option linter.unusedSimpArgs false
set_option linter.unusedVariables false
set_option maxRecDepth 10000
set_option maxHeartbeats 4000000
namespace Go.Am
attribute [local congr] cN bP cO bQ bT ca bC bU bV cb bk cd bW cM
namespace iZ
open Go.Am.F
def erO(i:Nat):JO:=⟨1#8,16+i,.raw (.slice none 0 0),[]⟩
structure SgC (C:aX):Prop where
 tg:C.fn 79=some SL
 s0:C.fn 137=none
 s1:∃C1,C.dO 137=some (aG C1 1 dL dK)/\PlC C1
theorem UG{rs rs':Rows}{m:Nat}{ops:List JO}(h:∀o∈ops,FF rs m o.k o.d o.p)(f:∀q l,live rs q=some ⟨L8,l⟩->live rs' q=some ⟨L8,l⟩):∀o∈ops,FF rs' m o.k o.d o.p:=by
 intro o ho
 have:=h o ho
 generalize o.k=k at*
 generalize o.d=d at*
 generalize o.p=p at*
 cases this with
 |er=>exact .er
 |wr q p ex h1 h2 h3 h4=>exact .wr q p ex (f _ _ h1) h2 h3 h4
theorem W4(C:aX)(H:SgC C){rows:Rows}{f m q a w:Nat}{x:List (BitVec 8)}{c:kY}(hF:dw rows f m x)(hx:x.length=10240)(hc:iB rows q a w c){s:JS}(hs:(cA (some (x,false))).1=s)(ht:s.t=-1)(ha:s.a=0){ri:Nat}{nj:List (BitVec 8)}(hi:live rows ri=some ⟨L8,bs nj⟩)(hl:nj.length<=4096){K:D->Rows->Prop}
  (hk:∀(R:Rows) (ops:List JO) (ro:Nat) (ex:Bool),bO rows R->live R ro=some ⟨r9,ops.map JO.D⟩->rows.length<=ro->ops.map (λo=>(o.i,o.p))=(List.range (xU nj)).map (tW nj)->(∀o∈ops,FF R m o.k o.d o.p)->K (.cB [.sl r9 ro [] 0 ops.length ex,.raw (it 0)]) R):
  aG C 2 fN fM [E2 f q 0,.sl L8 ri [] 0 nj.length false] rows K:=by
 refine ae rfl ?_
 unfold fM fN
 obtain⟨C1,s1,hS⟩:=H.s1
 have hz:D.agg SJ [.raw (u32 0#32),.raw (it 0),.raw (it 0),.raw (it 0)]=jD xI:=rfl
 have hlF:=hF.lt
 have pf:=Pw f q 0
 have e0:((4096:Int)<(nj.length:Int))=False:=aaI (by omega)
 have kT:=λL k=>SN (hF.push L) (hc.push L) (.inl rfl:(0:Int)=0\/(0:Int)=1) k
 simp only[↓ag,ah,simprocAttr,aQ,pf,H.tg,kT,e0,H.s0,s1]
 refine E3 C1 hS (hF.push _) hx (hc.push _) hs ht ha (.inl rfl) λR hK=>?_
 have hB:live R rows.length=some ⟨PW,[E2 f q 0]⟩:=hK _ _ (bx _ _)
 have hBA:=λl=>aj hB l
 have PQ:=(bO.app rows _).trans hK
 have AK:=hF.kp PQ
 have hc1:=hc.kp PQ
 have kT2:=λL k=>SN (AK.push L) (hc1.push L) (.inl rfl:(0:Int)=0\/(0:Int)=1) k
 have hlR:=a9 hB
 simp only[↓ag,ah,simprocAttr,aQ,hz,bY,hB,hBA,H.tg,kT2]
 refine bg 16 (λi env rs=>has env [(30,.raw (it (i:Int))),(8,.raw (it 16)),(1,.sl L8 ri [] 0 nj.length false)]/\bO rows rs/\rows.length<=rs.length/\∃d,look env 9=some d/\jg r9 d rs (((List.range i).map erO).map JO.D)/\∀r ex n,d= .sl r9 r [] 0 n ex->rows.length<=r) ?_ ?_ ⟨?_,?_,?_,_,?_,.nil,?_⟩
 ·rintro i En env rs ⟨hh,IY,hln,d,h9,hO,hd⟩ R hR
  simp only[has]at hh
  have e0:((i:Int)<16)=True:=aaz (by omega)
  have e1:=cj i (by omega)
  have e2:wz (16+(i:Int))=((16+i:Nat):Int):=by rw[be (by omega)];omega
  simp only[↓ag,ah,simprocAttr,aQ,hh,h9,e0,e1,e2]
  refine tG hO.push (by simp[most];omega) (by simp[most];omega) λrs' g1 g2 g3=>?_
  rw[aaC,aaC,abV,aax]at*
  simp only[↓ag,ah,simprocAttr,aQ,hh,e1]
  refine hR _ _ ⟨by simp only[has,↓ag,ah,simprocAttr,hh],λp row hp=>g2 _ _ (aj (IY _ _ hp) _) λex n e=>?_,by rw[g3];omega,.sl r9 (rs.length+1) [] 0 (i+1) false,by simp only[↓ag,ah,simprocAttr],.inr ⟨rs.length+1,false,?_,?_⟩,λr ex n e=>?_⟩
  ·have:=hd _ _ _ e
   have:=a9 hp
   omega
  ·simp
  ·rw[abM,acg,acg]
   exact g1
  ·injection e with _ e
   omega
 ·rintro env rs ⟨hh,IY,hln,d,h9,hO,hd⟩ R
  simp only[has]at hh
  have e0:(((16:Nat):Int)<16)=False:=aaI (by decide)
  simp only[↓ag,ah,simprocAttr,aQ,hh,h9,e0]
  refine bg ((nj.length+255)/256) (λk env rs=>has env [(11,.raw (it (k:Int))),(8,.raw (it 16)),(1,.sl L8 ri [] (min (256*k) nj.length) (nj.length-min (256*k) nj.length) false)]/\bO rows rs/\rows.length<=rs.length/\∃(d:D) (ops:List JO),look env 9=some d/\jg r9 d rs (ops.map JO.D)/\(∀r ex n,d= .sl r9 r [] 0 n ex->rows.length<=r)/\ops.map (λo=>(o.i,o.p))=(List.range (16+k)).map (tW nj)/\∀o∈ops,FF rs m o.k o.d o.p) ?_ ?_ ⟨?_,IY,hln,d,(List.range 16).map erO,?_,hO,hd,?_,?_⟩
  ·rintro k Qc env rs ⟨hh,IY,hln,d,ops,h9,hO,hd,hm,hop⟩ R hR
   simp only[has]at hh
   have hi1:=IY _ _ hi
   have Vl:256*k<nj.length:=by omega
   have ho:min (256*k) nj.length=256*k:=by omega
   rw[ho]at hh
   have e0:((0:Int)<((nj.length-256*k:Nat):Int))=True:=aaz (by omega)
   have e1:=cj k (by omega)
   have e2:wz (16+(k:Int))=((16+k:Nat):Int):=by rw[be (by omega)];omega
   have e3:min ((nj.length-256*k:Nat):Int) 256=((min (nj.length-256*k) 256:Nat):Int):=by omega
   generalize hn:min (nj.length-256*k) 256=n at e3
   have e4:((0:Int)<=(n:Int))=True:=aaz (by omega)
   have e5:((n:Int)<=((nj.length-256*k:Nat):Int))=True:=aaz (by omega)
   have e6:(((nj.length-256*k:Nat):Int)<=((nj.length-256*k:Nat):Int))=True:=aaz (Int.le_refl _)
   have hi1A:=λl=>aj hi1 l
   have e7:List.take n (List.drop (256*k) (bs nj))=bs ((nj.drop (256*k)).take n):=by rw[fH,eK]
   have pJ:((nj.drop (256*k)).take n).length=n:=by rw[aaF,aaB];omega
   have hst:tW nj (16+k)=(16+k,(nj.drop (256*k)).take n):=by
    unfold tW
    rw[aaE (by omega),show 16+k-16=k by omega,<-hn]
    exact abt (Prod.mk (16+k)) (List.take_eq_take_iff.2 (by rw[aaB];omega))
   generalize (nj.drop (256*k)).take n=pc at e7 pJ hst
   have e8:(n<=1099511627776)=True:=aaz (by omega)
   simp only[↓ag,ah,simprocAttr,aQ,hh,h9,e0,e1,e2,e3,e4,e5,e6,aaK,hi1A,e7,aB,pJ,acO,adm,aeB,e8,acf]
   have Nt:=abt List.length hm
   rw[aaC,aaC,abV]at Nt
   refine tG hO.push (by rw[aaC,Nt];simp only[most,aa0,aba];omega) (by rw[aaC,Nt];simp only[most,aa0,aba];omega) λrs' g1 g2 g3=>?_
   rw[aaC,Nt,aax]at*
   simp only[↓ag,ah,simprocAttr,aQ,hh,e1,e4,e5,e6,po,aaK]
   have w1:min (256*(k+1)) nj.length=256*k+n:=by omega
   have w2:nj.length-(256*k+n)=nj.length-256*k-n:=by omega
   have CN:∀q l,live rs q=some ⟨L8,l⟩->∀ex n,d≠ .sl r9 q [] 0 n ex:=λq l h=>gQ hO h (by decide)
   have hq:live (rs++[none,some ⟨L8,bs pc⟩,some ⟨r9,[D.agg r9 [.raw (u8 2#8),.raw (it ((16+k:Nat):Int)),.raw (it 0),.sl L8 (rs.length+1) [] 0 n false,.raw (it 0),.raw (u32 0#32)]]⟩]) (rs.length+1)=some ⟨L8,bs pc⟩:=cg _ _ 1
   refine hR _ _ ⟨by simp only[has,↓ag,ah,simprocAttr,hh,w1,w2],λp row hp=>g2 _ _ (aj (IY _ _ hp) _) λex n e=>by have:=hd _ _ _ e;have:=a9 hp;omega,by rw[g3];omega,.sl r9 (rs.length+3) [] 0 (16+(k+1)) false,ops++[⟨2#8,16+k,.sl L8 (rs.length+1) [] 0 n false,pc⟩],by simp only[↓ag,ah,simprocAttr],.inr ⟨rs.length+3,false,?_,?_⟩,λr ex n e=>?_,?_,λo ho=>?_⟩
   ·have hol2:=abt List.length hm
    rw[aaC,aaC,abV]at hol2
    rw[aaC,aax,hol2]
    rfl
   ·rw[acg];exact g1
   ·injection e with _ e
    omega
   ·rw[acg,hm,show 16+(k+1)=(16+k)+1 from rfl,abM,acg,List.map_singleton,List.map_singleton,hst]
   ·rcases aaU.1 ho with ho|ho
    ·exact UG hop (λq l h=>g2 _ _ (aj h _) (CN q l h)) o ho
    ·rw[abd.1 ho]
     have:=FF.wr (m:=m) (rs.length+1) pc false (g2 _ _ hq (gQ hO.push hq (by decide))) (by omega) (by omega) (by omega)
     rwa [pJ]at this
  ·rintro env rs ⟨hh,IY,hln,d,ops,h9,hO,hd,hm,hop⟩ R
   simp only[has]at hh
   have ho:min (256*((nj.length+255)/256)) nj.length=nj.length:=by omega
   rw[ho,acr]at hh
   have e0:((0:Int)<((0:Nat):Int))=False:=aaI (by decide)
   have Nt:=abt List.length hm
   rw[aaC,aaC,abV]at Nt
   rcases hO with⟨e,_⟩|⟨r,ex,rfl,hlv⟩
   ·have:=abt List.length e
    rw[aaC]at this
    have:ops.length=0:=this
    omega
   ·rw[aaC]at h9 hd
    simp only[↓ag,ah,simprocAttr,aQ,hh,h9,e0]
    exact hk rs ops r ex IY hlv (hd _ _ _ rfl) hm hop
  ·simp only[has,↓ag,ah,simprocAttr,hh,aeu,Nat.zero_min,acO]
  ·simp only[↓ag,ah,simprocAttr,h9]
  ·rw[aes]
   refine acX λi hi3=>?_
   have:=adk.1 hi3
   show(16+i,([]:List (BitVec 8)))=tW nj i
   unfold tW
   rw[aaM (by omega)]
  ·intro o ho
   obtain⟨i,_,rfl⟩:=ac6.1 ho
   exact .er
 ·simp only[has,↓ag,ah,simprocAttr]
 ·exact PQ.trans (bO.app _ _)
 ·rw[aax];omega
 ·simp only[↓ag,ah,simprocAttr]
 ·intro r ex n e
  cases e
def choK(x:List (BitVec 8))(c:kY):Cho:=ny (dF c) (cA (some (x,false))).1 (dG x (gR c) (gy c) 0) (dG x (gR c) (gy c) 1)
noncomputable def fAllS:Fn:=ux (bE vY) (bE pQ) (λK c=>decide (mq K=10240)&&decide (c.ws.length=64)) λK c=>(MA (choK (nP K) c),[])
structure AlC (C:aX):Prop where
 rd:C.fn 58=some sE
 ke:C.fn 69=some Kv
 ct:C.fn 26=some OG
 li:C.fn 71=some H4
 lo:C.fn 68=some EZ
 se:C.fn 70=some Sd
noncomputable def fBound:Fn
 |[],[]=>some (.raw (it 72),[])
 | _,_=>none
structure BoC (C:aX):Prop where
 al:C.fn 21=some fAllS
 bo:C.fn 22=some fBound
 rd:C.fn 23=some vH
 sa:C.fn 25=some fSame
 ct:C.fn 26=some OG
 r0:C.fn 24=none
 r1:∃C1,C.dO 24=some (aG C1 1 Ls Lr)/\C1.fn 74=some AB/\C1.fn 75=some fValue/\C1.fn 17=some Ok
 bn0:C.fn 14=none
 bn1:∃C1,C.dO 14=some (aG C1 0 lV lU)
 rn0:C.fn 15=none
 rn1:∃C1 C2,C.dO 15=some (aG C1 3 gf bX)/\XA C1 C2
end iZ
end Go.Am
namespace Go.Am
namespace iZ
open Go.Am.F
def txS(id:List (BitVec 8))(r:BitVec 32)(kind:List (BitVec 8))(l:List (List (BitVec 8))):List (BitVec 8):=id++bt r++kind++l.flatten
end iZ
end Go.Am

namespace Go.Am
namespace iZ
open Go.Am.F
theorem eq_spotP(q q':BitVec 32)(i j:Int):zG (zB q i) (zB q' j)=some (decide (q=q'/\i=j)):=by
 simp[zB,CR,zG,jA,it,u32]
 congr 1
 exact aek.2 ⟨λh=>aaS (by omega),λh=>by rw[h]⟩
theorem UH(q:BitVec 32)(ds:List Nat)(tm:List D)(q':BitVec 32)(i:Int):∀k,EY (xN q ds tm k) q' i=if q'=q/\0<=i/\i<(k:Int)then some (some ((ds.getD i.toNat 0:Nat):Int))else EY tm q' i
 |0=>by rw[aaE (by omega)];rfl
 | k + 1 => by
  have ih:=UH q ds tm q' i k
  have he:=eq_spotP q' q i (k:Int)
  have hen:∀v,Ee (.agg (pV KC LI) [zB q (k:Int),.raw v])=some (zB q (k:Int),v):=λv=>rfl
  unfold EY at ih⊢
  rw[xN,yV,hen]
  simp only[he]
  by_cases c:q'=q/\i=(k:Int)
  ·rw[abv c,aaM ⟨c.1,by omega,by omega⟩,c.2]
   rfl
  ·rw[aaX c]
   simp only
   rw[ih]
   by_cases c2:q'=q/\0<=i/\i<(k:Int)
   ·rw[aaM c2,aaM ⟨c2.1,c2.2.1,by omega⟩]
   ·rw[aaE c2,aaE]
    rintro⟨d1,d2,d3⟩
    by_cases c3:i=(k:Int)
    ·exact c ⟨d1,c3⟩
    ·exact c2 ⟨d1,d2,by omega⟩
theorem sgnO_c(m m':List (BitVec 8))(sm:List D):OO (sgnE m::sm) m'=if m'=m then some true else OO sm m':=by
 have hen:Ee (sgnE m)=some (.raw (.string (jE m)),.bool true):=rfl
 have he:zG (.raw (.string (jE m'))) (.raw (.string (jE m)))=some (decide (m'=m)):=by
  simp only[zG,jA,jE,ByteArray.toList_eq,List.toList_toArray,Zn]
 unfold OO
 rw[yV,hen]
 simp only[he]
 by_cases c:m'=m
 ·rw[abv c,aaM c]
 ·rw[aaX c,aaE c]
abbrev Ea:=List (List (BitVec 8)×List (BitVec 8))
structure PS (s:lq) (ml:Ea):Prop where
 w:Whole s
 h1:hT s.t.toNat=1
 o:s.o.toNat=2\/s.o.toNat=3
 nx:s.nx=BitVec.ofNat 32 ml.length
 len:ml.length<=2
 cl:∀x∈ml,x.2.length=32/\x.1.length<=60
 ld:(s.ld= .raw (.slice none 0 0)/\ml=[])\/∃ex,s.ld= .cD jL (ml.map Ay) ex
 sm:∀m,OO s.sm m=some (decide (m∈ml.map (·.1)))
 tm:∀(q:BitVec 32) (i:Int),EY s.tm q i=some (if q.toNat<ml.length/\0<=i/\i<(pT s.o.toNat:Int)then some (((zA s.o.toNat ⟨s.id,q⟩ (ml.getD q.toNat ([],[])).2 (ml.getD q.toNat ([],[])).1).getD i.toNat 0:Nat):Int)else none)
theorem PS.two{s:lq}{ml:Ea}(h:PS s ml):hH s.t=2:=by rw[hH,h.h1]
theorem PS.lv{s:lq}{ml:Ea}(h:PS s ml):jb s=2:=h.w.lv.trans h.two
def isKn(s:lq)(ml:Ea)(p:TU):Bool:=decide (p.q.toNat<ml.length/\0<=p.i/\p.i<(pT s.o.toNat:Int))&&(decide ((((zA s.o.toNat ⟨s.id,p.q⟩ (ml.getD p.q.toNat ([],[])).2 (ml.getD p.q.toNat ([],[])).1).getD p.i.toNat 0:Nat):Int)<=p.j)&&decide (p.j<(2^wT s.o.toNat:Nat)))
theorem getD_app{α:Type}(l:List α)(x d:α)(k:Nat):(l++[x]).getD k d=if k=l.length then x else l.getD k d:=by
 simp only[List.getD]
 by_cases c:k<l.length
 ·rw[aaQ c,aaE (by omega)]
 ·by_cases e:k=l.length
  ·rw[aaM e,e];simp
  ·rw[aaE e,abk (by simp;omega),abk (by omega)]
theorem PS.next{S:Sg}{L:v9}{d:D}{R R':Rows}{ml:Ea}{c m:List (BitVec 8)}(h:PS (S.v L) ml)(hl:S.last=ml)(hlen:ml.length<2)(hc:c.length=32)(hm:m.length<=60)(h':nO R' (L.next d) (S.next c m)):
  PS ((S.next c m).v (L.next d)) (ml++[(m,c)]):=by
 have hx:S.nx=BitVec.ofNat 32 ml.length:=h.nx
 have hxn:S.nx.toNat=ml.length:=by rw[hx,aa7];omega
 refine⟨IG h.w h',h.h1,h.o,?_,by simp;omega,?_,?_,?_,?_⟩
 ·show S.nx+1#32=_
  rw[hx,aax]
  apply aaS
  simp
 ·intro x hx
  rcases aaU.1 hx with hx|hx
  ·exact h.cl x hx
  ·rw[abd.1 hx];exact⟨hc,hm⟩
 ·right
  have hd:=h'.l
  have hln:(S.next c m).last=ml++[(m,c)]:=by show S.last++[(m,c)]=_;rw[hl]
  rw[hln]at hd
  rcases hd with⟨e,-⟩|⟨r,ex,e,-⟩
  ·simp at e
  ·refine⟨ex,?_⟩
   show Wp (L.next d) (S.next c m)=_
   rw[Wp,e,hln]
 ·intro m'
  show OO (sgnE m::S.sm) m'=_
  rw[sgnO_c]
  have:=h.sm m'
  by_cases e:m'=m
  ·rw[aaM e,e];simp
  ·rw[aaE e]
   show OO (S.v L).sm m'=_
   rw[this];simp[e]
 ·intro q i
  show EY (xN S.nx (zA S.o.toNat ⟨S.id,S.nx⟩ c m) S.tm (pT S.o.toNat)) q i=some (if q.toNat<(ml++[(m,c)]).length/\0<=i/\i<(pT S.o.toNat:Int)then some (((zA S.o.toNat ⟨S.id,q⟩ ((ml++[(m,c)]).getD q.toNat ([],[])).2 ((ml++[(m,c)]).getD q.toNat ([],[])).1).getD i.toNat 0:Nat):Int)else none)
  rw[UH,getD_app,aax,List.length_singleton]
  have ht:=h.tm q i
  change EY S.tm q i=some (if q.toNat<ml.length/\0<=i/\i<(pT S.o.toNat:Int)then some (((zA S.o.toNat ⟨S.id,q⟩ (ml.getD q.toNat ([],[])).2 (ml.getD q.toNat ([],[])).1).getD i.toNat 0:Nat):Int)else none)at ht
  by_cases e:q=S.nx
  ·subst e
   rw[aaM hxn]
   by_cases ci:0<=i/\i<(pT S.o.toNat:Int)
   ·rw[aaM ⟨rfl,ci⟩,aaM ⟨by omega,ci⟩]
   ·rw[aaE (λh=>ci h.2),ht,aaE (λh=>ci h.2),aaE (λh=>ci h.2)]
  ·have ne:q.toNat≠ml.length:=λh=>e (aaS (by rw[h,hxn]))
   rw[aaE (λh=>e h.1),ht,aaE ne]
   by_cases ci:q.toNat<ml.length/\0<=i/\i<(pT S.o.toNat:Int)
   ·rw[aaM ci,aaM ⟨by omega,ci.2⟩]
   ·rw[aaE ci,aaE (λh=>ci ⟨by omega,h.2⟩)]
def vaS(s:lq)(p:TU):List (BitVec 8):=HX s.id p.q p.i.toNat p.j.toNat 0 (BW s.id p.q p.i.toNat s.aI)
def thereP(s:lq)(p:TU):Bool:=decide (p.q.toNat<2)&&OA p.i (pT s.o.toNat:Int)&&OA p.j ((2^wT s.o.toNat:Nat):Int)
inductive Good (s:lq) (ml:Ea):Int->List (BitVec 8)->List (BitVec 8)->TU->List (BitVec 8)->Prop
 |col {a b p v}:a≠b->eu a=eu b->Good s ml 1 a b p v
 |unt {a b p v}:thereP s p=true->v=vaS s p->isKn s ml p=false->Good s ml 2 a b p v
end iZ
end Go.Am
namespace Go.Am
attribute [local congr] cN bP cO bQ bT ca bC bU bV cb bk cd bW cM
namespace iZ
open Go.Am.F
abbrev SPs:Sh:=rB
abbrev XD:Sh:=kx
structure PsV where
 s:D
 bi:D
 id:List (BitVec 8)
 o:BitVec 32
 aI:List (BitVec 8)
def psV(x:PsV):D:= .agg SPs [x.s,x.bi,.agg (.ar 16 L8) (bs x.id),.raw (u32 x.o),.agg (.ar 32 L8) (bs x.aI)]
theorem psV_inj(x y:PsV)(h:psV x=psV y):x=y:=by
 obtain⟨a,b,c,d,e⟩:=x
 obtain⟨a',b',c',d',e'⟩:=y
 simp only[psV,D.agg.injEq,abL,aci,aa9,D.raw.injEq]at h
 obtain⟨rfl,rfl,h3,h4,h5⟩:=h
 rw[qE h3,pO h4,qE h5]
def okPs(x:PsV):Bool:=decide (x.id.length=16)&&decide (x.aI.length=32)&&(psV x).fits SPs&&!aT x.s&&!aT x.bi
def psD(r rp:Nat)(e:Bool)(V:lq):D:= .agg SPs [.ptr fC r [0],.sl L8 rp [] 0 56 e,.agg (.ar 16 L8) (bs V.id),.raw (u32 V.o),.agg (.ar 32 L8) (bs V.aI)]
structure Cw (rows:Rows) (r rp:Nat) (V:lq) (ml:Ea):Prop where
 g:∃L S,nO rows L S/\L.r=r/\S.v L=V
 p:live rows rp=some ⟨L8,bs (ee V)⟩
 s:PS V ml
theorem Cw.keep{rows aa:Rows}{r rp:Nat}{V:lq}{ml:Ea}(h:Cw rows r rp V ml)(hk:bO rows aa):Cw aa r rp V ml:=by
 obtain⟨L,S,h1,h2,h3⟩:=h.g
 exact⟨⟨L,S,h1.keep hk,h2,h3⟩,hk _ _ h.p,h.s⟩
theorem Cw.push{rows:Rows}{r rp:Nat}{V:lq}{ml:Ea}(h:Cw rows r rp V ml)(more:Rows):Cw (rows++more) r rp V ml:=h.keep (bO.app _ _)
theorem Cw.rd{rows:Rows}{r rp:Nat}{V:lq}{ml:Ea}(h:Cw rows r rp V ml):bF rows (bE sK) (.ptr fC r [0]) V:=by
 obtain⟨L,S,h1,rfl,rfl⟩:=h.g
 exact h1.rd
theorem Cw.ps{rows:Rows}{r rp:Nat}{V:lq}{ml:Ea}(h:Cw rows r rp V ml)(e:Bool):bF rows (bE psV) (psD r rp e V) ⟨sK V,.cD L8 (bs (ee V)) e,V.id,V.o,V.aI⟩:=by
 obtain⟨L,S,h1,rfl,rfl⟩:=h.g
 have hl:=pR h.s.w.ok
 have el:elems rows (.sl L8 rp [] 0 56 e)=some (bs (ee (S.v L))):=by
  simp only[elems,h.p]
  rw[abu,aay (by rw[aB,hl];exact aaL _)]
 have hb:(bs (ee (S.v L))).length=56:=by rw[aB,hl]
 have hv:view rows 9 (psD L.r rp e (S.v L))=some (psV ⟨sK (S.v L),.cD L8 (bs (ee (S.v L))) e,(S.v L).id,(S.v L).o,(S.v L).aI⟩):=by
  unfold psD psV
  rw[wH]
  have e1:view rows 8 (.ptr fC L.r [0])=some (sK (S.v L)):=h1.vw 4
  have e2:view rows 8 (.sl L8 rp [] 0 56 e)=some (.cD L8 (bs (ee (S.v L))) e):=by
   rw[vw_sl,el]
   simp[hb,Sh.pure]
  have e3:view rows 8 (.agg (.ar 16 L8) (bs (S.v L).id))=some (.agg (.ar 16 L8) (bs (S.v L).id)):=by rw[wH];rfl
  have e4:view rows 8 (.raw (u32 (S.v L).o))=some (.raw (u32 (S.v L).o)):=rfl
  have e5:view rows 8 (.agg (.ar 32 L8) (bs (S.v L).aI))=some (.agg (.ar 32 L8) (bs (S.v L).aI)):=by rw[wH];rfl
  simp only[dC,e1,e2,e3,e4,e5]
  rfl
 exact⟨⟨_,hv,bA psV_inj _⟩,λh=>Bool.noConfusion ((rfl:aT (psD L.r rp e (S.v L))=true).symm.trans h)⟩
theorem Cw.ok{rows:Rows}{r rp:Nat}{V:lq}{ml:Ea}(h:Cw rows r rp V ml)(e:Bool):okPs ⟨sK V,.cD L8 (bs (ee V)) e,V.id,V.o,V.aI⟩=true:=by
 have h1:=h.s.w.id
 have h2:=h.s.w.sd
 have h3:aT (sK V)=false:=yn h.s.w.ld
 simp only[okPs,h1,h2,h3,aaG,acz]
 rfl
def fKd(x:List (BitVec 8)):Fn
 |[],[]=>some (eJ x false)
 | _,_=>none
noncomputable def SP:Fn:=ux (bE psV) qc (λx _=>okPs x) λx q=>(fg ⟨x.id,q⟩,[])
def valP(id aI:List (BitVec 8))(p:TU):List (BitVec 8):=HX id p.q p.i.toNat p.j.toNat 0 (BW id p.q p.i.toNat aI)
noncomputable def fValP:Fn:=ux (bE psV) (bE yR) (λx p=>okPs x&&OA p.i 65536&&OA p.j 257) λx p=>(aU (valP x.id x.aI p),[])
noncomputable def SQ:Fn:=Xu (bE psV) qc dq (oG (.ar 32 L8) aU) (λx _ k l=>okPs x&&decide (k.length<=1000)&&HV l&&decide (l.length<=1000)) λx r k l=>eJ (txS x.id r k l) false
def fdD(d0 d1:D):D:= .agg XD [.raw (it 1),d0,d1,.agg SPlc [.raw (u32 0#32),.raw (it 0),.raw (it 0)],.agg (.ar 32 L8) (bs uc)]
def rdB(rows:Rows):D->Option (List (BitVec 8))
 | .sl s r [] 0 n e=>match live rows r with
  |some ⟨sh,els⟩=>if s=L8/\sh=L8/\els.length=n then dq (.cD L8 els false)else none
  |none=>none
 | _=>none
noncomputable def twoQ:E5:=λds rows=>match ds with
 |[d0,d1]=>(rdB rows d0).bind λA=>(rdB rows d1).bind λB=>if A.length<=1099511627776/\B.length<=1099511627776 then some (.cB [fdD d0 d1,.raw (.bool (!decide (A=B)))],[some ⟨XD,[fdD d0 d1]⟩])else none
 | _=>none
def PX(rows:Rows)(d:D)(A:List (BitVec 8)):Prop:=(d= .raw (.slice none 0 0)/\A=[])\/∃r e,d= .sl L8 r [] 0 A.length e/\live rows r=some ⟨L8,bs A⟩
theorem PX.keep{rows aa:Rows}{d:D}{A:List (BitVec 8)}(h:PX rows d A)(hk:bO rows aa):PX aa d A:=by
 rcases h with h|⟨r,e,h1,h2⟩
 ·exact .inl h
 ·exact .inr ⟨r,e,h1,hk _ _ h2⟩
theorem PX.fits{rows:Rows}{d:D}{A:List (BitVec 8)}(h:PX rows d A):d.fits .ref=true:=by
 rcases h with⟨rfl,_⟩|⟨r,e,rfl,h2⟩<;>rfl
theorem PX.bs{rows:Rows}{d:D}{A:List (BitVec 8)}(h:PX rows d A):bd rows d A:=by
 rcases h with h|⟨r,e,rfl,h2⟩
 ·exact eB.to (.inl h)
 ·exact bd.own h2 _ rfl
structure Jx (rows:Rows) (d:D) (k:Int) (A B:List (BitVec 8)) (p:TU) (x:List (BitVec 8)):Prop where
 ex:∃d0 d1,d= .agg XD [.raw (it k),d0,d1,yR p,.agg (.ar 32 L8) (Am.bs x)]/\PX rows d0 A/\PX rows d1 B
 x:x.length=32
 a:A.length<=1000000
 b:B.length<=1000000
theorem Jx.keep{rows aa:Rows}{d:D}{k:Int}{A B:List (BitVec 8)}{p:TU}{x:List (BitVec 8)}(h:Jx rows d k A B p x)(hk:bO rows aa):Jx aa d k A B p x:=by
 obtain⟨d0,d1,h1,h2,h3⟩:=h.ex
 exact⟨⟨d0,d1,h1,h2.keep hk,h3.keep hk⟩,h.x,h.a,h.b⟩
theorem Jx.fits{rows:Rows}{d:D}{k:Int}{A B:List (BitVec 8)}{p:TU}{x:List (BitVec 8)}(h:Jx rows d k A B p x):d.fits XD=true:=by
 obtain⟨d0,d1,rfl,h2,h3⟩:=h.ex
 have e2:=h2.fits
 have e3:=h3.fits
 simp only[↓ag,ah,simprocAttr,yR,e2,e3]
structure ChC (C:aX):Prop where
 val:C.fn 152=some fValP
 sit:C.fn 91=some SP
 stp:C.fn 160=some Kq
 txt:C.fn 149=some SQ
 tw0:C.fn 148=none
 tw1:C.dO 148=none
 tw2:C.P1 148=some twoQ
structure ClC (C:aX):Prop where
 txt:C.fn 149=some SQ
 lea:C.fn 41=some Kz
 nod:C.fn 42=some KA
 pat:C.fn 113=some KD
 eql:C.fn 94=some DO
 kl:C.fn 150=some (fKd (ud 33410))
 ki:C.fn 151=some (fKd (ud 33667))
 tw0:C.fn 148=none
 tw1:C.dO 148=none
 tw2:C.P1 148=some twoQ
def fd0:D:= .agg XD [.raw (it 0),.raw (.slice none 0 0),.raw (.slice none 0 0),.agg SPlc [.raw (u32 0#32),.raw (it 0),.raw (it 0)],.agg (.ar 32 L8) (bs uc)]
structure OfC (C:aX):Prop where
 bi:C.fn 10=some xF
 num:C.fn 141=some ET
theorem Cw.dl{rows:Rows}{r rp:Nat}{V:lq}{ml:Ea}(h:Cw rows r rp V ml){q:Nat}(hq:q<ml.length):
  ∃l r2 n ex,live rows r=some ⟨fC,[.agg fC l]⟩/\l.length=9/\l[8]?=some (.sl jL r2 [] 0 n ex)/\q<n/\n=ml.length/\live rows r2=some ⟨jL,ml.map Ay⟩:=by
 obtain⟨L,S,h1,rfl,rfl⟩:=h.g
 rcases h.s.ld with⟨_,h2⟩|⟨ex,h2⟩
 ·subst h2;simp at hq
 ·have h3:Wp L S= .cD jL (ml.map Ay) ex:=h2
  rcases h1.l with⟨e1,e2⟩|⟨r2,I7,e2,hl⟩
  ·rw[Wp,e2]at h3;cases h3
  ·rw[Wp,e2]at h3
   injection h3 with _ h3
   rw[h3]at hl
   have hn:(S.last.map Ay).length=ml.length:=by rw[h3,aaC]
   rw[hn]at e2
   exact⟨_,r2,ml.length,I7,h1.a,rfl,by rw[<-e2];rfl,hq,rfl,hl⟩
structure OnC (C CH CL:aX):Prop where
 par:C.fn 37=some ko
 spl:C.fn 147=some DQ
 dig:C.fn 110=some uK
 mas:C.fn 111=some HY
 val:C.fn 152=some fValP
 sit:C.fn 91=some SP
 chn:C.fn 98=some Av
 txt:C.fn 149=some SQ
 kpu:C.fn 153=some (fKd (ud 32896))
 kms:C.fn 156=some (fKd (ud 33153))
 kno:C.fn 97=some fKnows
 tw0:C.fn 148=none
 tw1:C.dO 148=none
 tw2:C.P1 148=some twoQ
 ch0:C.fn 154=none
 ch1:C.dO 154=some (aG CH 4 xj xh)
 chC:ChC CH
 la0:C.fn 155=none
 la1:C.dO 155=some (aG CL 2 BE BD)
structure OnB (rows rs:Rows) (r rp:Nat) (e:Bool) (V:lq) (q:BitVec 32) (one msg:List (BitVec 8)):Prop where
 k:bO rows rs
 r0:live rs rows.length=some ⟨SPs,[psD r rp e V]⟩
 r1:live rs (rows.length+1)=some ⟨XD,[fd0]⟩
 r2:live rs (rows.length+2)=some ⟨vG,[fg ⟨V.id,q⟩]⟩
 r4:live rs (rows.length+4)=some ⟨.ar 32 L8,(chunks one (pT V.o.toNat)).map aU⟩
 r5:live rs (rows.length+5)=some ⟨.ar 32 L8,[.agg (.ar 32 L8) (bs (lJ one))]⟩
 r6:live rs (rows.length+6)=some ⟨LI,(fK V.o.toNat (j4 V.id q (lJ one) msg)).map vW⟩
 ln:rows.length+7<=rs.length
theorem OnB.mono{rows rs rs':Rows}{r rp:Nat}{e:Bool}{V:lq}{q:BitVec 32}{one msg:List (BitVec 8)}(h:OnB rows rs r rp e V q one msg)(hf:∀p x,p<rows.length+7->live rs p=some x->live rs' p=some x)(hl:rs.length<=rs'.length):OnB rows rs' r rp e V q one msg:=
 ⟨λp x hp=>hf p x (by have:=a9 hp;omega) (h.k p x hp),hf _ _ (by omega) h.r0,hf _ _ (by omega) h.r1,hf _ _ (by omega) h.r2,hf _ _ (by omega) h.r4,hf _ _ (by omega) h.r5,hf _ _ (by omega) h.r6,abg h.ln hl⟩
theorem PX.Iq{rows:Rows}{d:D}{A:List (BitVec 8)}(h:PX rows d A){p:Nat}{s':Sh}{l:List D}(hp:live rows p=some ⟨s',l⟩)(hs:s'≠L8)(x:Option Row):PX (rows.set p x) d A:=by
 rcases h with h|⟨r,e,h1,h2⟩
 ·exact .inl h
 ·exact .inr ⟨r,e,h1,by rw[aC (dz hp h2 hs)];exact h2⟩
theorem Jx.Iq{rows:Rows}{d:D}{k:Int}{A B:List (BitVec 8)}{pl:TU}{y:List (BitVec 8)}(h:Jx rows d k A B pl y){p:Nat}{s':Sh}{l:List D}(hp:live rows p=some ⟨s',l⟩)(hs:s'≠L8)(x:Option Row):Jx (rows.set p x) d k A B pl y:=by
 obtain⟨d0,d1,h1,h2,h3⟩:=h.ex
 exact⟨⟨d0,d1,h1,h2.Iq hp hs x,h3.Iq hp hs x⟩,h.x,h.a,h.b⟩
structure ExC (C CF CC CO CH CL:aX):Prop where
 of0:C.fn 87=none
 of1:C.dO 87=some (aG CF 2 Hi Hh)
 ofC:OfC CF
 ver:C.fn 88=some ym
 sid:C.fn 33=some fSigned
 par:C.fn 89=some DT
 sit:C.fn 91=some SP
 clm:C.fn 90=some H5
 bi:C.fn 39=some B0
 cl0:C.fn 92=none
 cl1:C.dO 92=some (aG CC 5 wZ wY)
 clC:ClC CC
 on0:C.fn 93=none
 on1:C.dO 93=some (aG CO 4 yJ yI)
 onC:OnC CO CH CL
structure VaC (C CF:aX):Prop where
 pat:C.fn 113=some KD
 of0:C.fn 87=none
 of1:C.dO 87=some (aG CF 2 Hi Hh)
 ofC:OfC CF
 par:C.fn 37=some ko
 val:C.fn 152=some fValP
structure FindV where
 k:Int
 a:List (BitVec 8)
 b:List (BitVec 8)
 p:TU
 v:List (BitVec 8)
noncomputable def rdFd:D->Option FindV
 | .agg s [.raw (.int .i64 k),d0,d1,dp,dv]=>if s=XD then(dq d0).bind λa=>(dq d1).bind λb=>(bE yR dp).bind λp=>(bE aU dv).map λv=>⟨k,a,b,p,v⟩else none
 | _=>none
theorem UI{d0 d1:D}{f:FindV}(h0:dq d0=some f.a)(h1:dq d1=some f.b):rdFd (.agg XD [.raw (it f.k),d0,d1,yR f.p,aU f.v])=some f:=by
 have e:rdFd (.agg XD [.raw (it f.k),d0,d1,yR f.p,aU f.v])=if XD=XD then(dq d0).bind λa=>(dq d1).bind λb=>(bE yR (yR f.p)).bind λp=>(bE aU (aU f.v)).map λv=>⟨f.k,a,b,p,v⟩else none:=rfl
 rw[e,aaM rfl,h0,h1,bA aad,bA xz]
 rfl
theorem PX.vw{rows:Rows}{d:D}{A:List (BitVec 8)}(h:PX rows d A)(n:Nat):∃d',view rows (n+1) d=some d'/\dq d'=some A:=by
 rcases h with⟨rfl,rfl⟩|⟨r,e,rfl,hl⟩
 ·exact⟨_,rfl,rfl⟩
 ·refine⟨.cD L8 (Am.bs A) e,?_,wJ A e⟩
  rw[vw_sl]
  have el:elems rows (.sl L8 r [] 0 A.length e)=some (Am.bs A):=by
   simp only[elems,hl]
   rw[abu,jd]
  rw[el]
  simp[aB,Sh.pure]
theorem PX.noref{rows:Rows}{d:D}{A:List (BitVec 8)}(h:PX rows d A)(hr:aT d=false):dq d=some A:=by
 rcases h with⟨rfl,rfl⟩|⟨r,e,rfl,hl⟩
 ·rfl
 ·simp[aT]at hr
theorem Jx.rd{rows:Rows}{d:D}{k:Int}{A B:List (BitVec 8)}{p:TU}{x:List (BitVec 8)}(h:Jx rows d k A B p x):bF rows rdFd d ⟨k,A,B,p,x⟩:=by
 obtain⟨d0,d1,rfl,h0,h1⟩:=h.ex
 obtain⟨e0,q0,q0'⟩:=h0.vw 7
 obtain⟨e1,q1,q1'⟩:=h1.vw 7
 refine⟨⟨.agg XD [.raw (it k),e0,e1,yR p,.agg (.ar 32 L8) (bs x)],?_,UI (f:=⟨k,A,B,p,x⟩) q0' q1'⟩,λhr=>?_⟩
 ·rw[wH]
  have e2:view rows 8 (.raw (it k))=some (.raw (it k)):=rfl
  have e3:view rows 8 (yR p)=some (yR p):=by unfold yR;rw[wH];rfl
  have e4:view rows 8 (.agg (.ar 32 L8) (bs x))=some (.agg (.ar 32 L8) (bs x)):=by rw[wH];rfl
  simp only[dC,e2,q0,q1,e3,e4]
  rfl
 ·have hh:aT d0=false/\aT d1=false:=by
   rcases h0 with⟨rfl,_⟩|⟨_,_,rfl,_⟩<;>rcases h1 with⟨rfl,_⟩|⟨_,_,rfl,_⟩
   ·exact⟨rfl,rfl⟩
   all_goals simp[aT,aV,Sh.pure]at hr
  exact UI (f:=⟨k,A,B,p,x⟩) (h0.noref hh.1) (h1.noref hh.2)
end iZ
end Go.Am

namespace Go.Am
namespace iZ
open Go.Am.F
theorem nO.off{rows aa:Rows}{L:v9}{s:Sg}{r:Nat}{l:List D}(h:nO rows L s)(hr:live rows r=some ⟨L8,l⟩)(f:∀q row,live rows q=some row->q≠r->live aa q=some row):nO aa L s:=by
 have h0:=h.els hr
 obtain⟨d1,d2,d3,d4,d5⟩:=h0
 refine⟨f _ _ h.a (abZ d1),f _ _ h.n (abZ d2),f _ _ h.m (abZ d3),f _ _ h.t (abZ d4),?_⟩
 rcases h.l with h|⟨q,ex,e,hl⟩
 ·exact .inl h
 ·exact .inr ⟨q,ex,e,f _ _ hl λhn=>by subst hn;exact d5 _ _ e⟩
end iZ
end Go.Am
namespace Go.Am
attribute [local congr] cN bP cO bQ bT ca bC bU bV cb bk cd bW cM
namespace iZ
open Go.Am.F
theorem stage_do(C:aX)(H:DoC C){R:Rows}{f m ro:Nat}{ex:Bool}{x nj:List (BitVec 8)}{ops:List JO}{dc:D}(hF:dw R f m x)(hx:x.length=10240)(hl:nj.length<=4096)(hro:live R ro=some ⟨r9,ops.map JO.D⟩)(hm:ops.map (λo=>(o.i,o.p))=(List.range (xU nj)).map (tW nj))(hop:∀o∈ops,FF R m o.k o.d o.p){K:D->Rows->Prop}
  (hk:∀R',dw R' f m (uR x ops)->Fr [m] R R'->K (.raw (it 0)) R'):aG C 3 fJ fI [.ptr SF f [0],dc,.sl r9 ro [] 0 ops.length ex] R K:=by
 obtain⟨C1,r1,hT⟩:=H.t1
 have Nt:=abt List.length hm
 rw[aaC,aaC,abV,xU]at Nt
 refine My C C1 hF (by omega) hro (dz hro hF.dat (by decide)) rfl (by omega) (λj o ho=>⟨hop o (abR ho),?_⟩) hT.af hT.t0 hT.t1 H.al H.t0 r1 λR' U=>hk R' U.fl λq row hq hn=>U.frame q row hq (by simpa using hn)
 exact stg_op hx hl hm j o ho
abbrev IQ:Sh:= .cons PW (.cons .ref (.cons LI .nil))
abbrev SAct:Sh:= .cons L8 (.cons L8 (.cons L8 (.cons LB (.cons LB (.cons .ref (.cons .ref .nil))))))
def FK(f q:Nat)(r:Int)(g:D)(v:Int):D:= .agg IQ [E2 f q r,g,.raw (it v)]
def MV(k n:BitVec 8)(P:D):D:= .agg SAct [.raw (u8 k),.raw (u8 n),.raw (u8 0#8),.raw (.bool false),.raw (.bool false),P,.raw (.slice none 0 0)]
theorem xV(f q r g v):(FK f q r g v).get [0]=some (E2 f q r):=rfl
theorem si_g1(f q r g v):(FK f q r g v).get [1]=some g:=rfl
theorem si_g2(f q r g v):(FK f q r g v).get [2]=some (.raw (it v)):=rfl
theorem si_g00(f q r g v):(FK f q r g v).get [0,0]=some (.ptr SF f [0]):=rfl
theorem si_g01(f q r g v):(FK f q r g v).get [0,1]=some (.ptr Kt q [0]):=rfl
theorem si_s2(f q r g v w):(FK f q r g v).set [2] (.raw (it w))=some (FK f q r g w):=rfl
theorem si_s01(f q r g v w):(FK f q r g v).set [0,1] (.ptr Kt w [0])=some (FK f w r g v):=rfl
theorem si_s02(f q r g v w):(FK f q r g v).set [0,2] (.raw (it w))=some (FK f q w g v):=rfl
theorem nO.fr{rows aa:Rows}{L:v9}{s:Sg}{S:List Nat}(h:nO rows L s)(hS:∀q∈S,xO rows L s q)(f:Fr S rows aa):nO aa L s:=by
 have n:∀r row,live rows r=some row->(∀q∈S,r≠q)->live aa r=some row:=λr row hr hn=>f _ _ hr λhm=>hn _ hm rfl
 refine⟨n _ _ h.a λq hq=>(hS q hq).1.symm,n _ _ h.n λq hq=>(hS q hq).2.1.symm,n _ _ h.m λq hq=>(hS q hq).2.2.1.symm,n _ _ h.t λq hq=>(hS q hq).2.2.2.1.symm,?_⟩
 rcases h.l with h|⟨q,ex,e,hl⟩
 ·exact .inl h
 ·exact .inr ⟨q,ex,e,n _ _ hl λq' hq' hn=>by subst hn;exact(hS _ hq').2.2.2.2 _ _ e⟩
structure PnC (C:aX):Prop where
 im0:C.fn 11=none
 im1:∃C1,C.dO 11=some (aG C1 4 mh mg)/\ImC C1
 FT:C.fn 80=none
 st1:∃C1,C.dO 80=some (aG C1 2 fN fM)/\SgC C1
 cm0:C.fn 81=none
 cm1:∃C1,C.dO 81=some (aG C1 1 fk fj)/\CmC C1
 cf0:C.fn 82=none
 cf1:∃C1,C.dO 82=some (aG C1 1 eV eU)/\CfC C1
theorem W5(C:aX)(H:PnC C){rows:Rows}{u f m q a w:Nat}{x:List (BitVec 8)}{c:kY}{g P:D}{v:Int}{n:BitVec 8}(hu:live rows u=some ⟨IQ,[FK f q 0 g v]⟩)(hF:dw rows f m x)(hx:x.length=10240)(hc:iB rows q a w c){s:JS}(hs:(cA (some (x,false))).1=s)(ht:s.t=-1)(ha:s.a=0)(he:dG x (gR c) (gy c) 1=0)(hP:P.fits .ref=true){K:D->Rows->Prop}
  (hk:∀R,bO rows R->K (qQ (some (x,false)) ⟨s.q,0,1,0⟩ R.length) (R++si (some (x,false)) ⟨s.q,0,1,0⟩ R.length)):aG C 2 ez ey [.ptr IQ u [0],MV 2#8 n P] rows K:=by
 refine ae rfl ?_
 unfold ey ez
 obtain⟨C1,c1,hC⟩:=H.cm1
 have nv:=λl=>aj hu l
 have b2:2#8 %6#8=2#8:=rfl
 simp only[MV,↓ag,ah,simprocAttr,aQ,hP,nv,xV,b2,H.cm0,c1]
 refine SO C1 hC (hF.push _) hx (hc.push _) hs ht ha he λR hK=>?_
 simp only[↓ag,ah,simprocAttr,aQ,yx]
 exact hk _ ((bO.app _ _).trans hK)
theorem W6(C:aX)(H:PnC C){rows:Rows}{u f m q a w:Nat}{x:List (BitVec 8)}{c:kY}{g P:D}{v:Int}{n:BitVec 8}(hu:live rows u=some ⟨IQ,[FK f q 1 g v]⟩)(hF:dw rows f m x)(hx:x.length=10240)(hc:iB rows q a w c){s:JS}(hs:(cA (some (x,false))).1=s)(ht:s.t=1)(hP:P.fits .ref=true){K:D->Rows->Prop}
  (hk:∀R,bO rows R->K (qQ (some (x,false)) ⟨s.q,1,-1,0⟩ R.length) (R++si (some (x,false)) ⟨s.q,1,-1,0⟩ R.length)):aG C 2 ez ey [.ptr IQ u [0],MV 3#8 n P] rows K:=by
 refine ae rfl ?_
 unfold ey ez
 obtain⟨C1,c1,hC⟩:=H.cf1
 have nv:=λl=>aj hu l
 have b2:3#8 %6#8=3#8:=rfl
 simp only[MV,↓ag,ah,simprocAttr,aQ,hP,nv,xV,b2,H.cf0,c1]
 refine Px C1 hC (hF.push _) hx (hc.push _) hs ht λR hK=>?_
 simp only[↓ag,ah,simprocAttr,aQ,yx]
 exact hk _ ((bO.app _ _).trans hK)
theorem W7(C:aX)(H:PnC C){rows:Rows}{u f m q a w:Nat}{x:List (BitVec 8)}{c:kY}{A:v9}{sg:Sg}{p:List (BitVec 8)}(hu:live rows u=some ⟨IQ,[FK f q 0 (.ptr fC A.r [0]) 4]⟩)(hF:dw rows f m x)(hx:x.length=10240)(hc:iB rows q a w c){s:JS}(hs:(cA (some (x,false))).1=s)(ht:s.t=-1)(ha:s.a=0)
  (hS:nO rows A sg)(hW:Whole (sg.v A))(EX:sg.nx.toNat<hH sg.t)(hla:sg.last.length<=1000)(hp:p.length<=9223372036854775807){nj:List (BitVec 8)}(SH:jM (fb 5 p) (gW (sg.v A) sg.nx (D6 5) (cG (fb 5 p))) (lB p)=nj)(hl:nj.length<=4096){K:D->Rows->Prop}
  (hk:∀(R:Rows) (ops:List JO) (ro:Nat) (ex:Bool),live R u=some ⟨IQ,[FK f q 0 (.ptr fC A.r [0]) 5]⟩->dw R f m x->iB R q a w c->(∀j row,live rows j=some row->j≠u->xO rows A sg j->live R j=some row)->live R ro=some ⟨r9,ops.map JO.D⟩->ops.map (λo=>(o.i,o.p))=(List.range (xU nj)).map (tW nj)->(∀o∈ops,FF R m o.k o.d o.p)->K (.sl r9 ro [] 0 ops.length ex) R):
  aG C 2 ez ey [.ptr IQ u [0],MV 0#8 1#8 (.cD L8 (bs p) false)] rows K:=by
 refine ae rfl ?_
 unfold ey ez
 obtain⟨C1,i1,hI⟩:=H.im1
 obtain⟨C2,s1,hSt⟩:=H.st1
 have nv:=λl=>aj hu l
 have hq:=sc hu
 have b0:0#8 %6#8=0#8:=rfl
 have b1:1#8 %4#8=1#8:=rfl
 have w5:wz 5=5:=rfl
 have m5:min (5:Int) 255=5:=rfl
 simp only[MV,↓ag,ah,simprocAttr,aQ,nv,hq,xV,si_g1,si_g2,si_s2,b0,b1,w5,m5,H.im0,i1]
 have f1:∀X Y,Fr [u] rows (rows.set u X++[Y]):=λX Y=>((Fr.refl [u] rows).set (by simp) _).trans (Fr.app _ _ _)
 have huS:xO rows A sg u:=hS.SK hu (by decide)
 have tV:=λX Y=>hS.fr (S:=[u]) (by simpa using huS) (f1 X Y)
 refine D7 C1 hI (d:= .cD L8 (bs p) false) (p:=p) 5 (by decide) (tV _ _) hW EX hla (λmore=>eB.to (.inr ⟨false,rfl⟩)) (by simp[dP,aB]) hp λR2 dl r m2 hS3 M1 hr AJ hel qZ=>?_
 rw[SH]at M1 hr
 subst M1
 have hb0:=hq.2.2.2.1 (some ⟨IQ,[FK f q 0 (.ptr fC A.r [0]) 5]⟩) [some ⟨SAct,[MV 0#8 1#8 (.cD L8 (bs p) false)]⟩]
 have px:live _ rows.length=some ⟨SAct,[MV 0#8 1#8 (.cD L8 (bs p) false)]⟩:=hb0
 have hbox:=hel _ _ px ((tV _ _).SK px (by decide))
 have NB:=hel _ _ (hq.2.2.1 _ _) huS
 have g:∀j row,live rows j=some row->j≠u->xO rows A sg j->live R2 j=some row:=λj row hj hn he=>hel _ _ (f1 _ _ _ _ hj (by simpa using hn)) he
 have yu:dw R2 f m x:=by
  obtain⟨⟨e,h1⟩,h2⟩:=hF
  exact⟨⟨e,g _ _ h1 (dz h1 hu (by decide)) (hS.SK h1 (by decide))⟩,g _ _ h2 (dz h2 hu (by decide)) (hS.els h2)⟩
 have Xl:iB R2 q a w c:=⟨g _ _ hc.ch (dz hc.ch hu (by decide)) (hS.SK hc.ch (by decide)),g _ _ hc.ar (dz hc.ar hu (by decide)) (hS.SK hc.ar (by decide)),g _ _ hc.dat (dz hc.dat hu (by decide)) (hS.SK hc.dat (by decide)),hc.len⟩
 simp only[MV]at hbox
 simp only[↓ag,ah,simprocAttr,aQ,hbox,NB,xV,H.FT,s1]
 refine W4 C2 hSt yu hx Xl hs ht ha hr hl λR ops ro ex hK hlv hge hm hop=>?_
 simp only[↓ag,ah,simprocAttr]
 exact hk R ops ro ex (hK _ _ NB) (yu.kp hK) (Xl.kp hK) (λj row hj hn he=>hK _ _ (g j row hj hn he)) hlv hm hop
structure BtsC (C:aX):Prop where
 k:WkC C
 wk0:C.fn 7=none
 wk1:∃C1,C.dO 7=some (aG C1 0 jY jX)/\WkC C1
 cu:C.fn 17=some Ok
 t0:C.fn 18=none
 t1:C.dO 18=some (aG CF 3 z9 z8)
 o0:C.fn 19=none
 o1:∃C1 C2 C3,C.dO 19=some (aG C1 1 tq tn)/\C1.fn 63=none/\C1.dO 63=some (aG C2 1 nZ nY)/\C2.fn 104=none/\C2.dO 104=some (aG C3 1 iG iF)
 m0:C.fn 20=none
 m1:∃C1,C.dO 20=some (aG C1 2 eT eS)/\NmC C1
 b:BoC C
theorem kWdsR{rows:Rows}{q a w:Nat}{c:kY}(h:iB rows q a w c)(k:D->Rows->Prop):aK V7 rows k [.ptr uL a [0]]=k (.sl dk rows.length [] 0 64 false) (rows++[some ⟨dk,us c.w⟩]):=by
 refine(cw (RF h.ar h.dat h.len) (by simp[h.len]) rfl k).trans ?_
 simp[Ma,shift,ab,Sh.pure,h.len]
structure SbC (C:aX):Prop where
 wd:C.fn 78=some V7
 o0:C.fn 19=none
 o1:∃C1 C2 C3,C.dO 19=some (aG C1 1 tq tn)/\C1.fn 63=none/\C1.dO 63=some (aG C2 1 nZ nY)/\C2.fn 104=none/\C2.dO 104=some (aG C3 1 iG iF)
 m0:C.fn 20=none
 m1:∃C1,C.dO 20=some (aG C1 2 eT eS)/\NmC C1
 bn0:C.fn 14=none
 bn1:∃C1,C.dO 14=some (aG C1 0 lV lU)
 rn0:C.fn 15=none
 rn1:∃C1 C2,C.dO 15=some (aG C1 3 gf bX)/\XA C1 C2
def pH(x:List (BitVec 8))(W:List (BitVec 32)):yT:=⟨0,xM,x,PO W⟩
theorem W8(C:aX)(H:SbC C){rows:Rows}{u f m q a w:Nat}{x:List (BitVec 8)}{c:kY}{g:D}{r v:Int}(hu:live rows u=some ⟨IQ,[FK f q r g v]⟩)(hF:dw rows f m x)(hx:x.length=10240)(hc:iB rows q a w c)(j:Nat)(hj:j<=1)(Pv:(lA (pH x c.w)).i=j){K:D->Rows->Prop}
  (hk:∀R q' a' w' c',c'.w=c.w->live R u=some ⟨IQ,[FK f q' j g v]⟩->dw R f m (FI (pH x c.w))->iB R q' a' w' c'->Fr [u,m] rows R->K (.raw (.bool true)) R):
  aG C 1 gY gX [.ptr IQ u [0]] rows K:=by
 refine ae rfl ?_
 unfold gX gY
 obtain⟨C1,C2,C3,o1,u2,u3,u4,u5⟩:=H.o1
 obtain⟨C4,m1,hM⟩:=H.m1
 obtain⟨C5,b1⟩:=H.bn1
 obtain⟨C6,C7,r1,hR⟩:=H.rn1
 have hWl:c.w.length=64:=by rw[kY.w,aaC,hc.len]
 have hlu:=a9 hu
 have CP:=hc.ch
 simp only[↓ag,ah,simprocAttr,aQ,hu,si_g01,CP,H.wd,kWdsR hc,H.o0,o1]
 refine of4_run C1 C2 C3 u2 u3 u4 u5 (p:=[]) hWl (bx _ _) (λi hi=>?_) λR1 q1 PQ Va hC1=>?_
 ·have:=lh (l:=c.w) (i:=i) (by omega)
  simp only[abr,cF,this,D.get,abf]
 have hK1':=(bO.app rows _).trans PQ
 have nv:=hK1' _ _ hu
 have wG:=a9 hC1.ch
 simp only[aax,aa0,aba]at Va
 simp only[↓ag,ah,simprocAttr,aQ,nv,si_g00,H.m0,m1]
 refine nm_run C4 hM (hF.kp hK1') hx hC1 λR2 L Jw e1 e2 e3 e4 e5 hge WQ hE2=>?_
 simp only[aax,aa0,aba]at e4 e5
 have Gu:=a9 (Jw _ _ hC1.ch)
 simp only[↓ag,ah,simprocAttr,aQ,H.bn0,b1]
 refine Pq C5 ?_
 have hRd:ID (R2++[some ⟨lc,[lz Su]⟩]) L (pH x c.w) R2.length Su zR sl8:=⟨WQ.keep λq row hq _=>aj hq _,hE2.keep λq row hq _=>aj hq _,bx R2 [some ⟨lc,[lz Su]⟩]⟩
 simp only[↓ag,ah,simprocAttr,aQ,H.rn0,r1]
 refine Pm hR (most:=200) (by decide) (by decide) hRd rfl rfl rfl (λhi=>by rw[Pv]at hi;omega) λj' z mJ hi he hz R3 c' B' hw hFr hM3 hB p1 p2 p3=>?_
 have hjj:j'=j:=by rw[Pv]at hi;omega
 subst hjj
 simp only[aaW,abE,adb,adX,forall_eq]at hge
 have num:u≠m:=dz hu hF.dat (by decide)
 have hlR1:rows.length<R1.length:=by omega
 have iE:∀p row,live rows p=some row->p≠m->live R3 p=some row:=λp row hp n2=>by
  have hlp:=a9 hp
  refine hFr _ _ (aj (Jw _ _ (hK1' _ _ hp)) _) ?_
  simp only[Ly.all,Ly.ids,aaW,abE,adb,aeF]
  omega
 have Yp:=iE _ _ hu num
 simp only[cC,lz,p1,p2]at hB
 have us1:∀X,live (R3.set u (some X)) u=some X:=λX=>aE Yp
 have hBs:∀X,live (R3.set u X) R2.length=_:=λX=>(aC (by omega)).trans hB
 simp only[↓ag,ah,simprocAttr,aQ,Yp,us1,hB,hBs,si_s01,si_s02,acQ]
 have nuf:f≠u:=by
  obtain⟨⟨e,h1⟩,_⟩:=hF
  exact(dz hu h1 (by decide)).symm
 have MI:=hM3.fl
 rw[e1,e2]at MI
 rw[<-e3]
 refine hk _ L.q L.a L.w c' (hw.trans (TX _)) (us1 _) (MI.set nuf.symm num) (hM3.ch.keep λp row hp hq=>?_) λp row hp hn=>?_
 ·rw[aC (by omega)];exact hp
 ·simp only[aaW,abE,adb,aeF]at hn
  rw[aC (abZ hn.1)];exact iE _ _ hp hn.2
def Eb(aI:List (BitVec 8)):Sg:=tU 3758096387#32 3#32 id1 aI (lu 3#32 id1 aI (hH 3758096387#32))
theorem PC{s:lq}(hW:Whole s)(ho:s.o=3#32)(ht:s.t=3758096387#32){q:BitVec 32}(hq:q.toNat<hH s.t)(v:Nat)(p c m:List (BitVec 8))(hc:c.length=32):(gW s q c m).length=2284/\(jM (fb v p) (gW s q c m) (lB p)).length<=2464:=by
 have h1:=Ca hW.ok (by rw[hW.lv];exact hq) c m hc
 rw[hW.pn hq,ho,ht]at h1
 have h2:(gW s q c m).length=2284:=h1
 have h3:=oN (fb v p) (du _)
 have h4:=Cq p
 refine⟨h2,?_⟩
 rw[jM,aax,aax,aax,h2,h3,h4]
 show 48+(2+_)<=2464
 omega
def PY:List (BitVec 8):=[116#8,104#8,101#8,32#8,102#8,105#8,114#8,115#8,116#8]
theorem tf_eq:[D.raw (u8 116#8),.raw (u8 104#8),.raw (u8 101#8),.raw (u8 32#8),.raw (u8 102#8),.raw (u8 105#8),.raw (u8 114#8),.raw (u8 115#8),.raw (u8 116#8)]=bs PY:=rfl
theorem W9(C:aX)(H:WkC C){rows:Rows}{aI:List (BitVec 8)}(UJ:aI.length=32){K:D->Rows->Prop}
  (hk:∀(R:Rows) (u f m q a w:Nat) (A:v9) (sg:Sg) (bi i0 s0:List (BitVec 8)),live R u=some ⟨IQ,[FK f q 0 (.ptr fC A.r [0]) 4]⟩->dw R f m (nA i0 [])->iB R q a w (xR bi 0 1)->nO R A sg->Whole (sg.v A)->sg.nx=1#32->sg.t=3758096387#32->sg.o=3#32->sg.last.length<=1000->ee (sg.v A)=bi->bi.length=56->s0.length=2284->jM (fb 4 PY) s0 (lB PY)=i0->i0.length<=2464->vX bi (cG (fb 4 PY)) s0=0->K (.ptr IQ u [0]) R):
  aG C 2 oB oA [.agg (.ar 32 L8) (bs aI),.raw (it 4)] rows K:=by
 refine ae rfl ?_
 unfold oA oB
 obtain⟨C1,n1,hL⟩:=H.nw1
 obtain⟨C2,i1,hI⟩:=H.im1
 obtain⟨C3,l1,hY⟩:=H.la1
 simp only[-List.reduceReplicate,SE]
 simp only[-List.reduceReplicate,↓ag,ah,simprocAttr,aQ,UF,H.nw0,n1]
 refine Pn C1 hL (t:=3758096387#32) (o:=3#32) (id:=id1) (aI:=aI) (by decide) (by decide) (by decide) (by decide) UJ λR1 A hS PQ e1 e2 e3 e4 e5=>?_
 have hW:=KQ hS (by decide) (by decide) (by decide) (by decide) UJ
 change nO R1 A (Eb aI)at hS
 change Whole ((Eb aI).v A)at hW
 have kP:=λk=>OM R1 k _ _ hS.rd hW.ok
 simp only[↓ag,ah,simprocAttr,aQ,H.pu,kP,H.im0,i1]
 simp only[tf_eq]
 have E1:=hS.push [some ⟨L8,bs (ee ((Eb aI).v A))⟩,some ⟨L8,bs PY⟩]
 have Kk:live (R1++[some ⟨L8,bs (ee ((Eb aI).v A))⟩,some ⟨L8,bs PY⟩]) R1.length=some ⟨L8,bs (ee ((Eb aI).v A))⟩:=bx _ _
 have JW:live (R1++[some ⟨L8,bs (ee ((Eb aI).v A))⟩,some ⟨L8,bs PY⟩]) (R1.length+1)=some ⟨L8,bs PY⟩:=cg _ _ 1
 have pJ:(ee ((Eb aI).v A)).length=56:=pR hW.ok
 have M3:(Eb aI).nx.toNat<hH ((Eb aI).v A).t:=(by decide:(0#32).toNat<hH 3758096387#32)
 have hlen:=PC hW rfl rfl M3 4 PY (D6 4) (cG (fb 4 PY)) (by rw[D6,abb];rfl)
 have Pu:=IP hW M3 (D6 4) (cG (fb 4 PY)) (by rw[D6,abb];rfl)
 refine D7 C2 hI (d:= .sl L8 (R1.length+1) [] 0 9 true) (p:=PY) 4 (by decide) E1 hW M3 (acv 1000) (λmore=>bd.own (aj JW more) 9 rfl) rfl (by decide) λR2 dl r m hS3 hm hr AJ hel qZ=>?_
 have hpu:=hel _ _ Kk (E1.els Kk)
 have hW3:=IG hW hS3
 simp only[↓ag,ah,simprocAttr,aQ,H.la0,l1]
 have hpn:=SI (Eb aI) A (A.next dl) (D6 4) (cG (fb 4 PY))
 generalize hsig:gW ((Eb aI).v A) (Eb aI).nx (D6 4) (cG (fb 4 PY))=sig at*
 generalize hpub:ee ((Eb aI).v A)=bi at*
 generalize SH:jM (fb 4 PY) sig (lB PY)=nj at*
 refine Ps C3 hY (bi:=bi) (p0:=nj) (p1:=[]) 0 1 (by decide) (by decide) (λR hK=>bd.own (hK _ _ hpu) _ pJ.symm) pJ (λR hK=>bd.own (hK _ _ hr) _ hm) (λR hK=>eB.to (.inl ⟨rfl,rfl⟩)) (by omega) (by decide) rfl rfl λR4 L hK4 hMx hM hE=>?_
 generalize hX:nA nj []=X at hM
 generalize CP:xR bi 0 1=ch at hM
 generalize xM=rm at hM
 obtain⟨⟨co,p,oZ⟩,⟨pt,hsp⟩,AJ,my,AG,hchp⟩:=hM
 simp only[PT]at oZ
 simp only[wc]at hsp
 have hS4:=hS3.keep hK4
 simp only[↓ag,ah,simprocAttr,aQ,oZ,hsp]
 have g0:live (R4++[some ⟨IQ,[FK L.f L.q 0 (.ptr fC A.r [0]) 4]⟩]) R4.length=some ⟨IQ,[FK L.f L.q 0 (.ptr fC A.r [0]) 4]⟩:=bx _ _
 have g1:dw (R4++[some ⟨IQ,[FK L.f L.q 0 (.ptr fC A.r [0]) 4]⟩]) L.f L.m X:=my.push _
 have g2:iB (R4++[some ⟨IQ,[FK L.f L.q 0 (.ptr fC A.r [0]) 4]⟩]) L.q L.a L.w ch:=hchp.push _
 rw[<-hX]at g1
 rw[<-CP]at g2
 exact hk _ R4.length L.f L.m L.q L.a L.w (A.next dl) _ bi nj sig g0 g1 g2 (hS4.push _) hW3 rfl rfl rfl (abz rfl) hpn pJ hlen.1 SH hlen.2 Pu
end iZ
end Go.Am
namespace Go.Am
namespace iZ
open Go.Am.F
theorem Cx{x:List (BitVec 8)}{J s:JS}(hJ:(cA (some (x,false))).1=J)(hq:J.q+1#32≠0#32)(hr:cR s=true):mu (some (x,false)) s=true:=by
 unfold mu
 rw[hJ,aaX hq,hr]
 rfl
theorem Cy{x:List (BitVec 8)}{J s:JS}(hx:x.length=10240)(hJ:(cA (some (x,false))).1=J)(hq:J.q+1#32≠0#32)(hr:cR s=true)(q:Nat):(cA (some (uR x (jc (some (x,false)) s q),false))).1=⟨J.q+1#32,s.a,s.t,s.n⟩:=by
 rw[qO _ _ (by rw[ku];omega),next_ref (by omega) (Cx hJ hq hr)]
 unfold fF
 rw[hJ]
theorem yy{x:List (BitVec 8)}{s:JS}(hx:x.length=10240)(q a n:Nat)(h:a+n<=8192):sub (uR x (jc (some (x,false)) s q)) a n=sub x a n:=by
 refine sub_eq (ku _ _) λt h1 h2=>?_
 exact Ck (by omega) t (.inl (by rcases xJ (some (x,false))with e|e<;>rw[e]<;>omega))
theorem IR{x bi:List (BitVec 8)}{W:List (BitVec 32)}(hW:W=(xR bi 0 1).w)(hp:bi.length=56){J:JS}(hJ:(cA (some (x,false))).1=J):lA (pH x W)=ny 2 J (dG x bi 0 0) (dG x bi 0 1):=by
 have e1:dF (PO W)=2:=by
  have:=KS bi 0 1 (by decide)
  unfold dF at this⊢
  rw[TX,hW];exact this
 have e2:gy (PO W)=0:=by
  have:=IL bi 0 1 (by decide)
  unfold gy at this⊢
  rw[TX,hW];exact this
 have e3:gR (PO W)=bi:=by
  have:=IM bi 0 1 hp
  unfold gR at this⊢
  rw[TX,hW];exact this
 have hr:lA (pH x W)=ny (dF (PO W)) (cA (some (x,false))).1 (dG x (gR (PO W)) (gy (PO W)) 0) (dG x (gR (PO W)) (gy (PO W)) 1):=rfl
 rw[hr,e1,e2,e3,hJ]
 rfl
theorem yz{x:List (BitVec 8)}{W:List (BitVec 32)}{J:JS}{j:Nat}(hc:lA (pH x W)=⟨(j:Int),J,false,false,0⟩):(lA (pH x W)).i=j/\FI (pH x W)=x:=by
 have hn:XB (pH x W)=false:=by
  unfold XB
  rw[hc]
  exact ace _
 refine⟨abt Cho.i hc,?_⟩
 unfold FI
 rw[hn,aaR]
 rfl
theorem E4{x:List (BitVec 8)}{W:List (BitVec 32)}{J s:JS}{j:Nat}{t:Bool}(hJ:(cA (some (x,false))).1=J)(hq:J.q+1#32≠0#32)(hr:cR s=true)(hc:lA (pH x W)=⟨(j:Int),s,true,t,0⟩):(lA (pH x W)).i=j/\FI (pH x W)=uR x (jc (some (x,false)) s 0):=by
 refine⟨abt Cho.i hc,?_⟩
 have hb:=Cx hJ hq hr
 have hn:XB (pH x W)=true:=by
  unfold XB
  rw[hc]
  show(true&&mu (some (x,false)) s)=true
  rw[hb]
  rfl
 unfold FI
 rw[hn,aaY,hc,pH]
structure Sit (rows:Rows) (u f m q a w:Nat) (x:List (BitVec 8)) (c:kY) (g:D) (r v:Int) (W:List (BitVec 32)) (J:JS):Prop where
 st:live rows u=some ⟨IQ,[FK f q r g v]⟩
 fl:dw rows f m x
 xl:x.length=10240
 ch:iB rows q a w c
 wd:c.w=W
 jr:(cA (some (x,false))).1=J
theorem IS(C:aX)(H:SbC C){rows:Rows}{u f m q a w:Nat}{x x':List (BitVec 8)}{c:kY}{g:D}{r v:Int}{W:List (BitVec 32)}{J J':JS}(h:Sit rows u f m q a w x c g r v W J)(j:Nat)(hj:j<=1)(h1:(lA (pH x W)).i=j)(h2:FI (pH x W)=x')(h3:(cA (some (x',false))).1=J'){K:D->Rows->Prop}
  (hk:∀R q' a' w' c',Sit R u f m q' a' w' x' c' g j v W J'->Fr [u,m] rows R->K (.raw (.bool true)) R):
  aG C 1 gY gX [.ptr IQ u [0]] rows K:=by
 have hw:=h.wd
 subst hw
 have hl:x'.length=10240:=by rw[<-h2,MJ];exact h.xl
 refine W8 C H h.st h.fl h.xl h.ch j hj h1 λR q' a' w' c' e1 e2 e3 e4 e5=>?_
 rw[h2]at e3
 exact hk R q' a' w' c' ⟨e2,e3,hl,e4,e1,h3⟩ e5
def jI(cf:Bool)(i:Nat)(q:BitVec 32):JS:=if cf then⟨q,1,-1,0⟩else if i<=3 then⟨q,0,1,(i:Int)⟩else⟨q,0,-1,0⟩
theorem PD{q:BitVec 32}(h:q.toNat<4294967295):q+1#32≠0#32/\(q+1#32).toNat=q.toNat+1:=by
 have e:(q+1#32).toNat=q.toNat+1:=by
  rw[ach]
  show(q.toNat+1) %4294967296=_
  omega
 refine⟨λh0=>?_,e⟩
 rw[h0]at e
 have:(0#32).toNat=0:=rfl
 omega
theorem tr_boot{x bi:List (BitVec 8)}{W:List (BitVec 32)}(hW:W=(xR bi 0 1).w)(hp:bi.length=56)(hx:x.length=10240){cf:Bool}{i:Nat}{q:BitVec 32}(hq:q.toNat<4294967295)(hJ:(cA (some (x,false))).1=jI cf i q)(e0:dG x bi 0 0=0)(e1:dG x bi 0 1=0):
  ∃q' x',(lA (pH x W)).i=((if cf||decide (i<3)then 1 else 0:Nat):Int)/\FI (pH x W)=x'/\(cA (some (x',false))).1=jI cf (i+1) q'/\q'.toNat<=q.toNat+1/\∀a n,a+n<=8192->sub x' a n=sub x a n:=by
 have hc:=IR hW hp hJ
 rw[e0,e1]at hc
 obtain⟨M3,Va⟩:=PD hq
 cases cf with
 | true =>
  have FN:lA (pH x W)=⟨((1:Nat):Int),⟨q,1,-1,0⟩,false,false,0⟩:=by
   rw[hc];simp[jI,ny,FG]
  obtain⟨g1,g2⟩:=yz FN
  exact⟨q,x,g1,g2,hJ.trans rfl,by omega,λ_ _ _=>rfl⟩
 | false =>
  by_cases h3:i<3
  ·have hj:jI false i q=⟨q,0,1,(i:Int)⟩:=by unfold jI;rw[aaE (by decide),aaM (by omega)]
   have mJ:jI false (i+1) (q+1#32)=⟨q+1#32,0,1,(i:Int)+1⟩:=by unfold jI;rw[aaE (by decide),aaM (by omega)];rfl
   have FN:lA (pH x W)=⟨((1:Nat):Int),⟨q,0,1,(i:Int)+1⟩,true,true,0⟩:=by
    rw[hc,hj]
    have:((i:Int)<3):=by omega
    simp[ny,FG,this]
   have hr:cR ⟨q,0,1,(i:Int)+1⟩=true:=by
    simp[cR,jK]
    omega
   rw[hj]at hJ
   obtain⟨g1,g2⟩:=E4 hJ M3 hr FN
   refine⟨q+1#32,_,by rw[g1];simp[h3],g2,?_,by omega,λa n h=>yy hx _ _ _ h⟩
   rw[Cy hx hJ M3 hr,mJ]
  ·by_cases h4:i=3
   ·subst h4
    have hj:jI false 3 q=⟨q,0,1,3⟩:=rfl
    have FN:lA (pH x W)=⟨((0:Nat):Int),⟨q,0,-1,0⟩,true,false,0⟩:=by
     rw[hc,hj]
     simp[ny,FG]
    have hr:cR ⟨q,0,-1,0⟩=true:=rfl
    rw[hj]at hJ
    obtain⟨g1,g2⟩:=E4 hJ M3 hr FN
    refine⟨q+1#32,_,g1,g2,?_,by omega,λa n h=>yy hx _ _ _ h⟩
    rw[Cy hx hJ M3 hr];rfl
   ·have hj:∀k,3<k->jI false k q=⟨q,0,-1,0⟩:=λk hk=>by unfold jI;rw[aaE (by decide),aaE (by omega)]
    have FN:lA (pH x W)=⟨((0:Nat):Int),⟨q,0,-1,0⟩,false,false,0⟩:=by
     rw[hc,hj i (by omega)]
     simp[ny,FG]
    obtain⟨g1,g2⟩:=yz FN
    refine⟨q,x,by rw[g1];simp[h3],g2,?_,by omega,λ_ _ _=>rfl⟩
    rw[hj (i+1) (by omega),hJ,hj i (by omega)]
end iZ
end Go.Am
namespace Go.Am
attribute [local congr] cN bP cO bQ bT ca bC bU bV cb bk cd bW cM
namespace iZ
open Go.Am.F
noncomputable def trP(n:Nat):aA:=match n with
 |0=>fZ
 |n+1=>j6 (trP n)
structure TrC (C:aX):Prop where
 wk0:C.fn 7=none
 wk1:∃C1,C.dO 7=some (aG C1 0 jY jX)/\WkC C1
 FT:C.fn 27=none
 st1:∃C1,C.dO 27=some (aG C1 2 oB oA)/\WkC C1
 bo0:C.fn 28=none
 bo1:∃C1,C.dO 28=some (aG C1 1 gY gX)/\SbC C1
 pl0:C.fn 30=none
 pl1:∃C1,C.dO 30=some (aG C1 2 ez ey)/\PnC C1
 do0:C.fn 29=none
 do1:∃C1,C.dO 29=some (aG C1 2 ic ib)/\DpC C1
theorem MW(f q r g v):(FK f q r g v).get [0,2]=some (.raw (it r)):=rfl
theorem oq{C:aX}{env:Env}{rows:Rows}(x t):fX C env rows (.nt x) t=dA C env rows (.nt x) (I8 env rows t):=by
 simp only[fX]
 congr 1
theorem lL{C:aX}{env:Env}{rows:Rows}(s z l t):fX C env rows (.build s z l) t=dA C env rows (.build s z l) (I8 env rows t):=by
 simp only[fX]
 congr 1
theorem zD{C:aX}{env:Env}{rows:Rows}(o x t):fX C env rows (.un o x) t=dA C env rows (.un o x) (I8 env rows t):=by
 simp only[fX]
 congr 1
theorem sH{C:aX}{env:Env}{rows:Rows}(o x y t):fX C env rows (.bin o x y) t=dA C env rows (.bin o x y) (I8 env rows t):=by
 simp only[fX]
 congr 1
theorem ot{C:aX}{env:Env}{rows:Rows}(x y z t):fX C env rows (.pick x y z) t=dA C env rows (.pick x y z) (I8 env rows t):=by
 simp only[fX]
 congr 1
theorem PE(C:aX)(H:TrC C){rows:Rows}{env:Env}{u f m q a w:Nat}{x bi S0 S1:List (BitVec 8)}{c:kY}{g:D}{r v:Int}{W:List (BitVec 32)}{k:BitVec 32}{bo cn:BitVec 8}(hS:Sit rows u f m q a w x c g r v W (jI false 0 k))(hk:k.toNat<=1)(hW:W=(xR bi 0 1).w)(hp:bi.length=56)(AW:sub x 0 4096=S0)(Xt:sub x 4096 4096=S1)
  (hL:∀y,sub y 0 4096=S0->sub y 4096 4096=S1->dG y bi 0 0=0/\dG y bi 0 1=0)(h9:look env 9=some (.ptr IQ u [0]))(h2:look env 2=some (.raw (u8 bo)))(h3:look env 3=some (.raw (u8 cn))):
  aw C (trP 4) (I9 [.tmp 8] λd _=>d= .raw (.bool true)) env rows:=by
 obtain⟨C1,b1,hB⟩:=H.bo1
 obtain⟨C2,p1,hP⟩:=H.pl1
 obtain⟨C3,d1,hD⟩:=H.do1
 simp only[trP,fZ,j6]
 have hN:(bo %6#8).toNat<6:=by rw[acm];exact ade _ (by decide)
 have wN:wz (2+((bo %6#8).toNat:Int))=((2+(bo %6#8).toNat:Nat):Int):=by rw[be (by omega)];omega
 have m6:(6#8=0#8)=False:=aaI (by decide)
 have m8:(8#8=0#8)=False:=aaI (by decide)
 generalize hNN:(bo %6#8).toNat=N at*
 generalize hc8:(cn %8#8).toNat=c8 at*
 simp only[↓ag,ah,simprocAttr,aQ]
 refine bg (2+N) (λi env rs=>∃cf k f m q a w x c g r v,has env [(13,.raw (it (i:Int))),(12,.raw (.bool cf)),(9,.ptr IQ u [0]),(2,.raw (u8 bo)),(3,.raw (u8 cn))]/\Sit rs u f m q a w x c g r v W (jI cf i k)/\k.toNat<=2*i+1/\sub x 0 4096=S0/\sub x 4096 4096=S1/\(cf=true->c8<i)) ?_ ?_ ⟨false,k,f,m,q,a,w,x,c,g,r,v,by simp only[has,↓ag,ah,simprocAttr,h9,h2,h3],hS,by omega,AW,Xt,λh=>by cases h⟩
 ·rintro i hi env rs ⟨cf,k,f,m,q,a,w,x,c,g,r,v,hh,hS,hk,AW,Xt,hcf⟩ R hR
  simp only[has]at hh
  have e0:((i:Int)<((2+N:Nat):Int))=True:=aaz (by omega)
  have e1:=cj i (by omega)
  obtain⟨l0,l1⟩:=hL x AW Xt
  obtain⟨k',x',g1,g2,g3,g4,g5⟩:=tr_boot hW hp hS.xl (by omega) hS.jr l0 l1
  simp only[↓ag,ah,simprocAttr,aQ,hh,m6,hNN,wN,e0,H.bo0,b1]
  refine IS C1 hB hS _ (by split<;>decide) g1 g2 g3 λR1 q1 a1 w1 c1 tV AK=>?_
  have hs0':=(g5 0 4096 (by decide)).trans AW
  have hs1':=(g5 4096 4096 (by decide)).trans Xt
  have nv:=tV.st
  have fin:∀env',has env' [(13,.raw (it ((i+1:Nat):Int))),(12,.raw (.bool cf)),(9,.ptr IQ u [0]),(2,.raw (u8 bo)),(3,.raw (u8 cn))]->(cf=true->c8<i+1)->R env' R1:=λenv' h h'=>hR _ _ ⟨cf,k',f,m,q1,a1,w1,x',c1,g,_,v,h,tV,by omega,hs0',hs1',h'⟩
  by_cases h3:i<3
  ·have c3:((i:Int)<3)=True:=aaz (by omega)
   have er:((if cf||decide (i<3)then 1 else 0:Nat):Int)=1:=by simp[h3]
   rw[er]at tV nv
   by_cases hc:i=c8
   ·have c4:((i:Int)=(c8:Int))=True:=aaz (by omega)
    have hcff:cf=false:=by
     cases cf with
     |false=>rfl
     |true=>have:=hcf rfl;omega
    subst hcff
    simp only[↓ag,ah,simprocAttr,aQ,hh,nv,xV,MW,c3,c4,m8,hc8,aaG,oq,lL,zD,sH,ot,H.pl0,p1]
    have hjj:jI false (i+1) k'=⟨k',0,1,((i+1:Nat):Int)⟩:=by unfold jI;rw[aaE (by decide),aaM (by omega)]
    have hjr:=tV.jr
    rw[hjj]at hjr
    obtain⟨M3,Va⟩:=PD (q:=k') (by omega)
    refine W6 C2 hP (n:=0#8) (P:= .raw (.slice none 0 0)) nv tV.fl tV.xl tV.ch hjr rfl rfl λR2 Jw=>?_
    have hb:=Cx (s:=⟨k',1,-1,0⟩) hjr M3 rfl
    have NB:live (R2++si (some (x',false)) ⟨k',1,-1,0⟩ R2.length) u=_:=aj (Jw _ _ nv) _
    simp only[↓ag,ah,simprocAttr,aQ,hh,NB,xV,oq,lL,zD,sH,ot,H.do0,d1]
    refine MS C3 hD ((tV.fl.kp Jw).push _) ((tV.ch.kp Jw).push _) (.inr rfl) λC4 hJ K' I2=>?_
    refine Py C4 hJ (tV.fl.kp Jw) tV.xl (bO.app _ _) hb λR3 MI hFr3=>I2 _ ?_
    simp only[↓ag,ah,simprocAttr,aQ,hh,e1,oq,lL,zD,sH,ot]
    have zY:(uR x' (jc (some (x',false)) ⟨k',1,-1,0⟩ (R2.length+2))).length=10240:=by rw[ku];exact tV.xl
    have kp:∀j t l,live R1 j=some ⟨t,l⟩->t≠L8->live R3 j=some ⟨t,l⟩:=λj t l h ht=>by
     refine hFr3 _ _ (aj (aj (Jw _ _ h) _) _) ?_
     have:=dz h tV.fl.dat ht
     simpa using this
    refine hR _ _ ⟨true,k'+1#32,f,m,q1,a1,w1,_,c1,g,1,v,by simp only[has,↓ag,ah,simprocAttr,hh],⟨kp _ _ _ nv (by decide),MI,zY,⟨kp _ _ _ tV.ch.ch (by decide),kp _ _ _ tV.ch.ar (by decide),kp _ _ _ tV.ch.dat (by decide),tV.ch.len⟩,tV.wd,?_⟩,by omega,(yy tV.xl _ _ _ (by decide)).trans hs0',(yy tV.xl _ _ _ (by decide)).trans hs1',λ_=>by omega⟩
    rw[Cy tV.xl hjr M3 rfl]
    rfl
   ·have c4:((i:Int)=(c8:Int))=False:=aaI (by omega)
    simp only[↓ag,ah,simprocAttr,aQ,hh,nv,MW,c3,c4,m8,hc8,e1,aaG,aaH]
    exact fin _ (by simp only[has,↓ag,ah,simprocAttr,hh]) λh=>by have:=hcf h;omega
  ·have c3:((i:Int)<3)=False:=aaI (by omega)
   have hend:∀b:Bool,decide ((i:Int)=(c8:Int))=b->True:=λ_ _=>trivial
   cases cf with
   |true=>
    have er:((if true||decide (i<3)then 1 else 0:Nat):Int)=1:=rfl
    rw[er]at tV nv
    cases hd:decide ((i:Int)=(c8:Int))<;>simp only[↓ag,ah,simprocAttr,aQ,hh,nv,MW,c3,hd,m8,hc8,e1,aaG,aaH]<;>exact fin _ (by simp only[has,↓ag,ah,simprocAttr,hh]) λh=>by have:=hcf h;omega
   |false=>
    have er:((if false||decide (i<3)then 1 else 0:Nat):Int)=0:=by simp[h3]
    rw[er]at tV nv
    cases hd:decide ((i:Int)=(c8:Int))<;>simp only[↓ag,ah,simprocAttr,aQ,hh,nv,MW,c3,hd,m8,hc8,e1,aaG,aaH]<;>exact fin _ (by simp only[has,↓ag,ah,simprocAttr,hh]) λh=>by cases h
 ·rintro env rs ⟨cf,k,f,m,q,a,w,x,c,g,r,v,hh,hS,hk,AW,Xt,hcf⟩ R
  simp only[has]at hh
  have e0:(((2+N:Nat):Int)<((2+N:Nat):Int))=False:=aaI (by omega)
  simp only[↓ag,ah,simprocAttr,aQ,hh,m6,hNN,wN,e0]
theorem tr_split:fZ= .seq (pG (trP 0)) (.seq (pG (trP 1)) (.seq (pG (trP 2)) (.seq (pG (trP 3)) (trP 4)))):=rfl
theorem SR(C:aX)(H:TrC C)(aI:List (BitVec 8))(UJ:aI.length=32)(p:List (BitVec 8))(hp:p.length<=9223372036854775807)(bo cn:BitVec 8):
  aG C 4 lM fZ [.agg (.ar 32 L8) (bs aI),.cD L8 (bs p) false,.raw (u8 bo),.raw (u8 cn)] [] (λd _=>d= .raw (.bool true)):=by
 refine ae rfl ?_
 rw[tr_split]
 obtain⟨W1,w1,hWk⟩:=H.wk1
 obtain⟨A1,a1,hSt⟩:=H.st1
 obtain⟨C1,b1,hB⟩:=H.bo1
 obtain⟨C2,p1,hP⟩:=H.pl1
 obtain⟨C3,d1,hD⟩:=H.do1
 generalize hT:trP 4=T
 simp only[trP,fZ,j6,pG,lM]
 simp only[↓ag,ah,simprocAttr,aQ,H.wk0,w1]
 refine W2 W1 hWk λR0 hK0=>?_
 have AW:=hK0 0 ⟨.ar 32 L8,[.agg (.ar 32 L8) (bs aI)]⟩ rfl
 simp only[↓ag,ah,simprocAttr,aQ,AW,H.FT,a1]
 refine W9 A1 hSt UJ λR u f m q a w A sg bi i0 s0 hu hF hc hS hW EX hst hso hla hpu pJ Er hi0 hli hv0=>?_
 simp only[↓ag,ah,simprocAttr,aQ]
 refine gL 3 ?_
 simp only[↓ag,ah,simprocAttr,aQ,oq,lL,zD,sH,ot,H.bo0,b1]
 have hx:=MQ i0 []
 have hJ0:(cA (some (nA i0 [],false))).1=cS:=by rw[Pt]
 have e0:dG (nA i0 []) bi 0 0=0:=by
  have:=(Cv (least:=0) (x:=nA i0 []) (j:=0) (n:=4096-i0.length) (by decide:4<=255) (by omega) (by rw[MR _ _ (by omega),hi0]) hv0).1
  rw[this];rfl
 have e1:dG (nA i0 []) bi 0 1≠0:=look_ff (by rw[lay_at1 _ _ (by decide)];rfl)
 have hc0:lA (pH (nA i0 []) (xR bi 0 1).w)=⟨((0:Nat):Int),cS,false,false,0⟩:=by
  rw[IR rfl pJ hJ0,e0]
  simp[ny,FG,cS,e1]
 generalize hX:nA i0 []=x at*
 generalize FN:xR bi 0 1=c at*
 have hSit:Sit R u f m q a w x c (.ptr fC A.r [0]) 0 4 c.w cS:=⟨hu,hF,hx,hc,rfl,hJ0⟩
 obtain⟨g1,g2⟩:=yz hc0
 have hSit1:Sit (R++[some ⟨L8,[.raw (u8 0#8),.raw (u8 2#8)]⟩]) u f m q a w x c (.ptr fC A.r [0]) 0 4 c.w cS:=⟨aj hu _,hF.push _,hx,hc.push _,rfl,hJ0⟩
 have Tz:live (R++[some ⟨L8,[.raw (u8 0#8),.raw (u8 2#8)]⟩]) R.length=some ⟨L8,[.raw (u8 0#8),.raw (u8 2#8)]⟩:=bx _ _
 refine IS C1 hB hSit1 0 (by decide) g1 g2 hJ0 λR1 q1 a1 w1 c1 tV AK=>?_
 have nv:=tV.st
 simp only[↓ag,ah,simprocAttr,aQ,nv,xV,oq,lL,zD,sH,ot,H.pl0,p1]
 have hS0:=hS.push [some ⟨L8,[.raw (u8 0#8),.raw (u8 2#8)]⟩]
 have hSg1:nO R1 A sg:=hS0.fr (S:=[u,m]) (λq hq=>by
  simp only[aaW,abE,adb]at hq
  rcases hq with rfl|rfl
  ·exact hS0.SK hSit1.st (by decide)
  ·exact hS0.els hSit1.fl.dat) AK
 have hnx1:sg.nx.toNat<hH sg.t:=by rw[EX,hst];decide
 have qZ:(D6 5).length=32:=by rw[D6,abb];rfl
 have hlen5:=PC hW hso hst (q:=sg.nx) hnx1 5 p (D6 5) (cG (fb 5 p)) qZ
 have hver5:=IP hW (q:=sg.nx) hnx1 (D6 5) (cG (fb 5 p)) qZ
 refine W7 C2 hP nv tV.fl tV.xl tV.ch tV.jr rfl rfl hSg1 hW hnx1 hla hp rfl (by omega) λR2 ops ro ex NB yu Xl Qc hro hm hop=>?_
 simp only[↓ag,ah,simprocAttr,aQ,NB,xV,oq,lL,zD,sH,ot,H.do0,d1]
 refine MS C3 hD yu Xl (.inl rfl) λC4 hJ K' I2=>?_
 refine stage_do C4 hJ (yu.push _) tV.xl (nj:=jM (fb 5 p) (gW (sg.v A) sg.nx (D6 5) (cG (fb 5 p))) (lB p)) (by omega) (aj hro _) hm (UG hop λq l h=>aj h _) λR3 MI hFr3=>I2 _ ?_
 obtain⟨x1,x2,x3⟩:=stg_end hx (by omega) hm
 have kp:∀j t l,live R2 j=some ⟨t,l⟩->t≠L8->live R3 j=some ⟨t,l⟩:=λj t l h ht=>by
  refine hFr3 _ _ (aj h _) ?_
  have:=dz h yu.dat ht
  simpa using this
 have Yp:=kp _ _ _ NB (by decide)
 have U2:=a9 hF.dat
 have hlu:=a9 hu
 have Xx:=AK _ _ Tz (by simp only[aaW,abE,adb,aeF];omega)
 have hr3:=Qc _ _ Xx (by omega) (hSg1.els Xx)
 have hr4:=hFr3 _ _ (aj hr3 _) (by simp only[aaW,abE,adb];omega)
 have hF3':=MI
 have hc3:iB R3 q1 a1 w1 c1:=⟨kp _ _ _ Xl.ch (by decide),kp _ _ _ Xl.ar (by decide),kp _ _ _ Xl.dat (by decide),Xl.len⟩
 simp only[↓ag,ah,simprocAttr,aQ,Yp,hr4,xV,oq,lL,zD,sH,ot,H.bo0,b1]
 have hJ2:(cA (some (uR x ops,false))).1=cS:=by
  rw[qO _ _ (by omega)]
  rw[qO _ _ (by omega)]at hJ0
  unfold RY at hJ0⊢
  rw[aaE (by omega)]at hJ0⊢
  rw[x3 _ _ (.inr (by omega)),x3 _ _ (.inr (by omega))]
  exact hJ0
 have hL:∀y,sub y 0 4096=i0++ni (4096-i0.length)->sub y 4096 4096=jM (fb 5 p) (gW (sg.v A) sg.nx (D6 5) (cG (fb 5 p))) (lB p)++ni (4096-(jM (fb 5 p) (gW (sg.v A) sg.nx (D6 5) (cG (fb 5 p))) (lB p)).length)->dG y bi 0 0=0/\dG y bi 0 1=0:=λy h0 h1=>by
  refine⟨?_,?_⟩
  ·have:=(Cv (least:=0) (x:=y) (j:=0) (n:=4096-i0.length) (by decide:4<=255) (by omega) (by rw[hi0];exact h0) hv0).1
   rw[this];rfl
  ·have:=(Cv (least:=0) (x:=y) (j:=1) (bi:=bi) (by decide:5<=255) (by omega) h1 (by rw[<-hpu];exact hver5)).1
   rw[this];rfl
 have s0x:sub (uR x ops) 0 4096=i0++ni (4096-i0.length):=by
  rw[x3 _ _ (.inl (by decide)),<-hX]
  exact MR _ _ (by omega)
 obtain⟨l0,l1⟩:=hL _ s0x x2
 have hc2':lA (pH (uR x ops) c.w)=⟨((0:Nat):Int),cS,false,false,0⟩:=by
  rw[IR (by rw[FN]) pJ hJ2,l0,l1]
  simp[ny,FG,cS]
 obtain⟨y1,y2⟩:=yz hc2'
 have hSit2:Sit R3 u f m q1 a1 w1 (uR x ops) c1 (.ptr fC A.r [0]) ((0:Nat):Int) 5 c.w cS:=⟨Yp,MI,x1,hc3,tV.wd,hJ2⟩
 refine IS C1 hB hSit2 0 (by decide) y1 y2 hJ2 λR5 q2 a2 w2 c2 E1 hF5=>?_
 have hu5:=E1.st
 have hr5:=hF5 _ _ hr4 (by simp only[aaW,abE,adb,aeF];omega)
 simp only[↓ag,ah,simprocAttr,aQ,hu5,hr5,xV,oq,lL,zD,sH,ot,H.pl0,p1]
 have hw2:c2.w=(xR bi 0 1).w:=E1.wd.trans (by rw[FN])
 have ek:gR c2=bi:=by
  have:=IM bi 0 1 pJ
  unfold gR at this⊢
  rw[hw2];exact this
 have ec:gy c2=0:=by
  have:=IL bi 0 1 (by decide)
  unfold gy at this⊢
  rw[hw2];exact this
 refine W5 C2 hP (n:=1#8) (P:= .cD L8 (bs p) false) hu5 E1.fl E1.xl E1.ch E1.jr rfl rfl (by rw[ek,ec];exact l1) rfl λR6 hK6=>?_
 have hb:=Cx (s:=⟨cS.q,0,1,0⟩) hJ2 (by decide) rfl
 have hu6:live (R6++si (some (uR x ops,false)) ⟨cS.q,0,1,0⟩ R6.length) u=_:=aj (hK6 _ _ hu5) _
 simp only[↓ag,ah,simprocAttr,aQ,hu6,xV,oq,lL,zD,sH,ot,H.do0,d1]
 refine MS C3 hD ((E1.fl.kp hK6).push _) ((E1.ch.kp hK6).push _) (.inl rfl) λC4 hJ K' I2=>?_
 refine Py C4 hJ (E1.fl.kp hK6) E1.xl (bO.app _ _) hb λR7 hF7 hFr7=>I2 _ ?_
 have kp7:∀j t l,live R5 j=some ⟨t,l⟩->t≠L8->live R7 j=some ⟨t,l⟩:=λj t l h ht=>by
  refine hFr7 _ _ (aj (aj (hK6 _ _ h) _) _) ?_
  have:=dz h E1.fl.dat ht
  simpa using this
 simp only[↓ag,ah,simprocAttr,aQ,oq,lL,zD,sH,ot]
 rw[<-hT]
 have hx3:(uR (uR x ops) (jc (some (uR x ops,false)) ⟨cS.q,0,1,0⟩ (R6.length+2))).length=10240:=by rw[ku];exact x1
 have hr7:=Cy (s:=⟨cS.q,0,1,0⟩) x1 hJ2 (by decide) rfl (R6.length+2)
 refine PE C H (bo:=bo) (cn:=cn) (k:=cS.q+1#32) ⟨kp7 _ _ _ hu5 (by decide),hF7,hx3,⟨kp7 _ _ _ E1.ch.ch (by decide),kp7 _ _ _ E1.ch.ar (by decide),kp7 _ _ _ E1.ch.dat (by decide),E1.ch.len⟩,E1.wd,?_⟩ (by decide) (by rw[FN]) pJ ((yy x1 _ _ _ (by decide)).trans s0x) ((yy x1 _ _ _ (by decide)).trans x2) hL (by simp only[↓ag,ah,simprocAttr]) (by simp only[↓ag,ah,simprocAttr]) (by simp only[↓ag,ah,simprocAttr])
 exact hr7.trans rfl
end iZ
end Go.Am
namespace Go.Am
namespace iZ
open Go.Am.F
def Cz(ks:List IntKind)(z:List Int):List Value:=List.zipWith Value.int ks z
def F9{H:Type}(ks:List IntKind)(zs:List (List Int)):DataW H:= .agg (zs.map λz=> .agg (List.zipWith (λk x=> .lit (.int k x)) ks z))
def gN(ks:List IntKind)(zs:List (List Int)):List Value:=zs.flatMap (Cz ks)
def qT:List IntKind->Sh
 |[]=> .nil
 |k::ks=> .cons (.leaf (.int k)) (qT ks)
def FL(ks:List IntKind)(z:List Int):D:= .agg (qT ks) ((Cz ks z).map .raw)
theorem rec_len{ks:List IntKind}{zs:List (List Int)}(h:∀z∈zs,z.length=ks.length):(gN ks zs).length=zs.length*ks.length:=by
 induction zs with
 |nil=>simp[gN]
 |cons z zs ih=>
  have:=ih λx hx=>h x (.tail _ hx)
  simp only[gN,aef,aax,Cz,List.length_zipWith,h z (.head _),Nat.min_self,aa0,acM]at this⊢
  omega
theorem UK{ks:List IntKind}:∀{zs:List (List Int)},(∀z∈zs,z.length=ks.length)->∀(i r:Nat),r<ks.length->(gN ks zs)[i*ks.length+r]?=(zs[i]?).bind λz=>(Cz ks z)[r]?
 |[],_,i,r,_=>by simp[gN]
 |z::zs,h,0,r,hr=>by
  have hz:=h z (.head _)
  simp only[gN,aef,Nat.zero_mul,abO]
  rw[aaQ (by simp[Cz,hz,hr])];rfl
 |z::zs,h,i+1,r,hr=>by
  have hz:=h z (.head _)
  have ih:=UK (ks:=ks) (λx hx=>h x (.tail _ hx)) i r hr
  simp only[gN,aef]at ih⊢
  rw[aaT (by simp[Cz,hz,acM];omega)]
  have:(i+1)*ks.length+r-(Cz ks z).length=i*ks.length+r:=by simp[Cz,hz,acM];omega
  rw[this,ih];rfl
structure RecT (P:Program) (t e:TypeId) (n:Nat) (fs:Array Field) (ks:List IntKind):Prop where
 ht:P.underlying t=some (.array n e)
 he:P.underlying e=some (.struct fs)
 fl:fs.toList.length=ks.length
 ff:∀r,r<ks.length->(fs.toList.getD r default).offset=r/\P.cellsOf (fs.toList.getD r default).type=1/\P.underlying (fs.toList.getD r default).type=some (.int (ks.getD r .i64))
 ce:P.cellsOf e=ks.length
 ct:P.cellsOf t=n*ks.length
theorem Xa{H:Type}{enc:TypeId×Value->H}{P:Program}{w:World}{base:Nat}{sp:Nat->Bool}{held:Bool}{fuel:Nat}{t e:TypeId}{n:Nat}{fs:Array Field}{ks:List IntKind}{cs:List Value}{zs:List (List Int)}{p:List MemPlace}(T:RecT P t e n fs ks)(hz:∀z∈zs,z.length=ks.length)
  (h:DataW.trod enc P w base sp held fuel t cs=some (F9 ks zs,p)):cs=gN ks zs:=by
 obtain⟨ht,he,my,hff,hce,hct⟩:=T
 cases fuel with
 |zero=>simp[DataW.trod]at h
 | succ fuel =>
  simp only[DataW.trod,ht,hce,hct]at h
  split at h
  ·rename_i hl
   obtain⟨xs,hm,hx⟩:=adq.1 h
   have P6:xs.map (·.1)=zs.map λz=>(DataW.agg (List.zipWith (λk x=> .lit (.int k x)) ks z):DataW H):=by
    have:=abt Prod.fst hx
    simpa[F9]using this
   have AG:xs.length=n:=by simpa using Lib.mapM_length hm
   have hzl:zs.length=n:=by
    have:=abt List.length P6
    simp at this
    omega
   have AJ:=rec_len hz
   apply ack
   intro j
   by_cases hj:j<n*ks.length
   ·have h0:0<ks.length:=Nat.pos_of_ne_zero λh=>by rw[h]at hj;omega
    have hr:j %ks.length<ks.length:=ade _ h0
    have hi:j/ks.length<n:=ac7 (by rw[ado];exact hj)
    have hjj:j=j/ks.length*ks.length+j %ks.length:=by rw[ado];exact(Nat.div_add_mod j ks.length).symm
    generalize j/ks.length=i at*
    generalize j %ks.length=r at*
    subst hjj
    obtain⟨b,hb,hf⟩:=Lib.mapM_at hm i i (by simp[hi])
    have hg:=abt (·[i]?) P6
    simp only[abl,hb,acf]at hg
    obtain⟨z,hzi⟩:∃z,zs[i]?=some z:=⟨zs[i]'(by omega),aaw (by omega)⟩
    rw[hzi,acf,abS]at hg
    rw[UK hz i r hr,hzi]
    have fG:cs[i*ks.length+r]?=((cs.drop (i*ks.length)).take ks.length)[r]?:=by
     rw[abm hr,abh]
    rw[fG]
    generalize (cs.drop (i*ks.length)).take ks.length=c at*
    cases fuel with
    |zero=>simp[DataW.trod]at hf
    | succ fuel =>
     simp only[DataW.trod,he,hce]at hf
     split at hf
     ·obtain⟨ys,hmy,hy⟩:=adq.1 hf
      obtain⟨f,pI⟩:∃f,fs.toList[r]?=some f:=⟨_,aaw (by omega)⟩
      obtain⟨g1,g2,g4⟩:=hff r hr
      obtain⟨k,g3⟩:∃k,ks[r]?=some k:=⟨_,aaw hr⟩
      rw[aaD,pI]at g1 g2 g4
      rw[aaD,g3]at g4
      simp only[adj]at g1 g2 g4
      obtain⟨y,hyr,GP⟩:=Lib.mapM_at hmy r f pI
      rw[g1,g2]at GP
      obtain⟨x,q1,q2,_⟩:=DataW.trod_int g4 GP
      rw[<-hy]at hg
      have PJ:=abt (λd:DataW H=>match d with| .agg l=>l[r]?| _=>none) hg
      simp only[abl,hyr,acf,adR,g3]at PJ
      have a0:c[r]?=some (.int k x):=by have:=abt (·[0]?) q1;simpa[abA,abh]using this
      obtain⟨u,hu⟩:∃u,z[r]?=some u:=⟨_,aaw (by rw[hz z (abR hzi)];exact hr)⟩
      rw[hu,q2]at PJ
      simp only[abS,DataW.lit.injEq,Lit.int.injEq,aa9]at PJ
      rw[a0,PJ]
      simp[Cz,adR,g3,hu]
     ·cases hf
   ·subst hzl
    rw[abk (by omega),abk (by omega)]
  ·cases h
theorem PF{P:Program}{W:World}{name:String}{g:Nat}{t e:TypeId}{n:Nat}{fs:Array Field}{ks:List IntKind}{zs:List (List Int)}(T:RecT P t e n fs ks)(hz:∀z∈zs,z.length=ks.length)(hg:P.globalNamed name=some g)(hty:(P.globals[g]?).map (·.type)=some t):
  ∀{l:List (String×DataW Unit)} {ps:List MemPlace},DataW.LaidVars P W l ps->(name,F9 ks zs)∈l->W.var? P name=some (gN ks zs).toArray
 |[],ps,_,hm=>by cases hm
 | (n', d') :: r, ps, h, hm => by
  obtain⟨g',t',cs,fuel,p,q,PN,yB,hvar,hd,hr,_⟩:=h
  rcases aaW.1 hm with hm|hm
  ·cases hm
   obtain rfl:=abe (hg.symm.trans PN)
   obtain rfl:=abe (hty.symm.trans yB)
   rw[hvar,<-Xa T hz hd]
  ·exact PF T hz hg hty hr hm
theorem UL{W:World}{T:Nat->Prop}:∀{ks:List IntKind} {z:List Int},aW (LR fw W T) ((Cz ks z).map .raw) (Cz ks z)
 |[],_=> .nil
 | _::_,[]=> .nil
 |k::ks,x::z=> .cons (.raw _ rfl) (UL (ks:=ks) (z:=z))
theorem PG{W:World}{T:Nat->Prop}{ks:List IntKind}:∀zs:List (List Int),aW (LR fw W T) (au (zs.map (FL ks))) (gN ks zs)
 |[]=> .nil
 | z :: zs => by
  have hf:∀l:List Value,au (l.map D.raw)=l.map D.raw:=λl=>by
   induction l with
   |nil=>rfl
   |cons x l ih=>simp[au,D.flat,ih]
  have e:au ((z::zs).map (FL ks))=(Cz ks z).map .raw++au (zs.map (FL ks)):=by simp[au,D.flat,FL,hf]
  rw[e]
  exact UL.append (PG zs)
theorem PH:∀ks:List IntKind,(qT ks).isAgg=true/\(qT ks).count=ks.length/\∀i,(qT ks).sub i=(ks[i]?).map λk=>Sh.leaf (.int k)
 |[]=>⟨rfl,rfl,λi=>by cases i<;>rfl⟩
 |k::ks=>by
  obtain⟨h1,h2,h3⟩:=PH ks
  refine⟨h1,by simp only[qT,Sh.count,h2,aa0],λi=>?_⟩
  cases i with
  |zero=>rfl
  |succ i=>exact h3 i
theorem recD_has{ks:List IntKind}{z:List Int}(h:z.length=ks.length):aL (qT ks) (FL ks z):=by
 obtain⟨h1,h2,h3⟩:=PH ks
 refine .agg _ _ h1 (by simp[Cz,h,h2]) λi e d he hd=>?_
 rw[h3]at he
 obtain⟨k,hk,rfl⟩:=adq.1 he
 simp only[Cz,abl,adR,hk]at hd
 cases hz:z[i]? with
 |none=>rw[hz]at hd;cases hd
 |some x=>rw[hz]at hd;cases hd;exact .leaf _ _ (by simp[nQ])
theorem KT{P:Program}{W:World}{name:String}{g:Nat}{t e:TypeId}{n:Nat}{fs:Array Field}{ks:List IntKind}{zs:List (List Int)}{l:List (String×DataW Unit)}(h:laidMet P l W)(hm:(name,F9 ks zs)∈l)(T:RecT P t e n fs ks)(hz:∀z∈zs,z.length=ks.length)(hg:P.globalNamed name=some g)(hty:(P.globals[g]?).map (·.type)=some t)(h0:0<(gN ks zs).length):
  LR fw W (old W) (.b5 (.agg (.ar zs.length (qT ks)) (zs.map (FL ks)))) (.pointer (some ⟨g,0,none⟩)):=by
 obtain⟨ps,hv,_⟩:=h
 have hT:=PF T hz hg hty hv hm
 have hcell:=λj=>World.var?_cell hg hT j
 refine LR.zJ (cs:=gN ks zs) (s:= .ar zs.length (qT ks)) (.agg _ _ rfl (by simp[Sh.count]) λi e d h1 h2=>?_) ?_ (PG zs) λj x hx=>by rw[abO,hcell j];simpa using hx
 ·simp only[Sh.sub]at h1
  split at h1
  ·cases h1
   obtain⟨z,hm,rfl⟩:=ac6.1 (bH h2)
   exact recD_has (hz z hm)
  ·cases h1
 ·have BY:=hcell 0
  show g<W.heap.size
  rw[World.cell?]at BY
  split at BY
  ·rename_i h1;exact(aaZ.1 h1).1
  ·have:(gN ks zs)[0]?=none:=by simpa using BY.symm
   rw[List.getElem?_eq_none_iff]at this
   omega
end iZ
end Go.Am
namespace Go.Am
namespace iZ
open Go.Am.F
open Ms
set_option maxRecDepth 100000
def uT:List (List Int):=[[1,265,7],[2,133,6],[4,67,4],[8,34,0]]
def uU:List (List Int):=[[0,0],[536870912,4096],[536875008,4096],[268435456,10240],[1073741824,64],[1610612736,256]]
def IT:List Int:=LV.map λx=>(x.toNat:Int)
def CK:List Int:=rQ.map λx=>(x.toNat:Int)
def tzZ:List Int:=tzL.map λx=>(x.toNat:Int)
def G0:Nat->Option D:=λg=>if g=0 then some DL else if g=2 then some (VL LV)else if g=5 then some (VM rQ)else if g=1 then some tzD else if g=4 then some Ij else none
noncomputable def T0:List (Nat×Fn):=[(79,SL),(16,pD),(134,F7),(130,B1),(66,Iz),(198,Wy),(208,O5),(209,Uf),(207,Mu),(206,Ue),(218,Uc),(176,Uy),(195,MC),(129,It),(174,Cm),(193,MB),(215,Ub),(219,Ua),(221,T9),(222,T8),(217,F4),(214,Mr),(213,F3),(170,xG),(58,sE),(119,F6),(60,rV),(59,pD),(120,B1),(118,DZ),(57,KM),(116,DV),(103,pE),(163,sC),(188,sC),(105,rZ),(168,Az),(23,vH),(62,uO),(189,rY),(175,Uz),(194,Sq),(69,Kv),(132,fOct),(49,FX),(48,Mc),(26,OG),(77,fTz),(46,Md),(106,TP),(107,Kw),(71,H4),(135,fOn),(183,TM),(76,B7),(78,V7),(73,uJ),(201,AB),(211,fNum),(210,fPre),(94,DO),(55,Mw),(31,uQ),(84,DX),(52,fOf),(95,DJ),(114,DH),(51,Ol),(17,Ok),(90,H5),(147,DQ),(143,H8),(144,Mg),(146,ET),(10,xF),(54,Mi),(112,TQ),(113,KD),(110,uK),(166,OD),(111,HY),(109,TT),(42,KA),(41,Kz),(102,OJ),(50,zy),(39,B0),(101,OB),(98,Av),(100,BX),(160,Kq),(159,uI),(185,BV),(186,fPad),(162,Rj),(161,DM),(167,zy),(158,rS),(184,LW),(202,FQ),(203,VN),(212,Ty),(157,Ov),(99,V0),(40,Ib),(38,rX),(37,ko),(36,yj)]
noncomputable def C0:aX:=⟨G0,mP T0,λ_=>none,λ_=>none⟩
theorem G0_none(g:Nat)(h:¬g=0)(h0:¬g=2)(h1:¬g=5)(h2:¬g=1)(h3:¬g=4):G0 g=none:=by
 unfold G0
 rw[aaE h,aaE h0,aaE h1,aaE h2,aaE h3]
theorem m_Sel1(C:aX)(hC:aJ C P):aP C.aY P 133 (aG C 2 iq ik):=NU hC Go.Proofs.Tryz.func133 (by kernel_rfl) (by kernel_rfl) (abz (by kernel_rfl))
theorem IU{P:Program}{G:Nat->Option D}{f:FuncId}{A:j9}(h:aP GF P f A):aP G P f A:=λds rows K hA ρ w T args h1 h2 h3 h4 _=>h ds rows K hA ρ w T args h1 h2 h3 h4 (λg d hg=>by cases hg)
theorem sI:aJ C0 P:=by
 have c0:=Tp (G:=G0) (P:=P)
 have c1:=az (Wg _ c0) c0
 have c2:=az (VX _ c1 rfl) c1
 have c3:=az (Wn _ c2) c2
 have c4:=az (site_ok _ c3) c3
 have c5:=az (end_ok _ c4) c4
 have c6:=az (new_ok _ c5 rfl) c5
 have c7:=az (word_ok _ c6) c6
 have c8:=az (rot_ok _ c7) c7
 have c9:=az (VP _ c8 rfl rfl) c8
 have c10:=az (Zs _ c9 rfl rfl rfl) c9
 have c11:=az (Rc _ c10 rfl) c10
 have c12:=az (four_ok _ c11) c11
 have c13:=az (ZH _ c12 rfl rfl rfl) c12
 have c14:=az (two_ok _ c13) c13
 have c15:=az (pad_ok _ c14) c14
 have c16:=az (VT _ c15) c15
 have c17:=az (Zz _ c16 rfl rfl rfl) c16
 have c18:=az (step_ok _ c17 rfl rfl rfl rfl) c17
 have c19:=az (VZ _ c18 rfl) c18
 have c20:=az (ZI _ c19 rfl) c19
 have c21:=az (fold_ok _ c20 rfl rfl rfl rfl) c20
 have c22:=az (V4 _ c21 rfl rfl rfl rfl rfl) c21
 have c23:=az (ZZ _ c22) c22
 have c24:=az (hash_ok _ c23 rfl rfl rfl rfl) c23
 have c25:=az (leaf_ok _ c24 rfl) c24
 have c26:=az (node_ok _ c25 rfl) c25
 have c27:=az (left_ok _ c26 rfl) c26
 have c28:=az (mash_ok _ c27 rfl rfl rfl rfl) c27
 have c29:=az (coef_ok _ c28) c28
 have c30:=az (V2 _ c29 rfl rfl rfl rfl) c29
 have c31:=az (path_ok _ c30 rfl) c30
 have c32:=az (sign_ok _ c31 rfl rfl rfl rfl rfl rfl) c31
 have c33:=az (aac _ c32 rfl rfl rfl rfl rfl) c32
 have c34:=az (Rx _ c33 rfl) c33
 have c35:=az (lnum_ok _ c34) c34
 have c36:=az (Z2 _ c35) c35
 have c37:=az (ZY _ c36 rfl rfl rfl) c36
 have c38:=az (ZW _ c37 rfl) c37
 have c39:=az (ZX _ c38 rfl rfl rfl rfl rfl rfl rfl) c38
 have c40:=az (cut_ok _ c39) c39
 have c41:=az (join_ok _ c40) c40
 have c42:=az (Zy _ c41) c41
 have c43:=az (sum_ok _ c42 rfl rfl rfl rfl) c42
 have c44:=az (of_ok _ c43 rfl) c43
 have c45:=az (right_ok _ c44) c44
 have c46:=az (body_ok _ c45 rfl) c45
 have c47:=az (image_ok _ c46 rfl rfl) c46
 have c48:=az (ZM _ c47) c47
 have c49:=az (pre_ok _ c48 rfl) c48
 have c50:=az (num_ok _ c49) c49
 have c51:=az (parse_ok _ c50 rfl rfl rfl) c50
 have c52:=az (Ow _ c51) c51
 have c53:=az (wds_ok _ c52) c52
 have c54:=az (allc_ok _ c53 rfl) c53
 have c55:=az (ones_ok _ c54) c54
 have c56:=az (on_ok _ c55 rfl) c55
 have c57:=az (life_ok _ c56 rfl rfl) c56
 have c58:=az (plan_ok _ c57 rfl) c57
 have c59:=az (numb_ok _ c58) c58
 have c60:=az (ZV _ c59 rfl rfl rfl rfl) c59
 have c61:=az (tz_ok _ c60 rfl) c60
 have c62:=az (ctr_ok _ c61 rfl rfl) c61
 have c63:=az (ZU _ c62 rfl rfl) c62
 have c64:=az (Wb _ c63 rfl rfl) c63
 have c65:=az (oct_ok _ c64) c64
 have c66:=az (keyc_ok _ c65 rfl rfl) c65
 have c67:=az (ato_ok _ c66) c66
 have c68:=az (rowc_ok _ c67 rfl rfl rfl rfl) c67
 have c69:=az (Wq _ c68) c68
 have c70:=az (KI _ c69) c69
 have c71:=az (read_ok _ c70 rfl rfl) c70
 have c72:=az (TZ _ c71) c71
 have c73:=az (KJ _ c72) c72
 have c74:=az (OQ _ c73) c73
 have c75:=az (TY _ c74 rfl) c74
 have c76:=az (KG _ c75 rfl) c75
 have c77:=az (aar _ c76 rfl rfl rfl rfl) c76
 have c78:=az (allf_ok _ c77 rfl) c77
 have c79:=az (first_ok _ c78) c78
 have c80:=az (slot_ok _ c79) c79
 have c81:=az (V5 _ c80 rfl) c80
 have c82:=az (V6 _ c81 rfl rfl) c81
 have c83:=az (WA _ c82 rfl rfl) c82
 have c84:=az (readj_ok _ c83 rfl rfl rfl) c83
 have c85:=az (base_ok _ c84 rfl) c84
 have c86:=az (Wt _ c85) c85
 have c87:=az (where_ok _ c86 rfl) c86
 have c88:=az (Wu _ c87) c87
 have c89:=az (idxb_ok _ c88) c88
 have c90:=az (idxs_ok _ c89 rfl) c89
 have c91:=az (idx1_ok _ c90 rfl) c90
 have c92:=az (hasw_ok _ c91 rfl) c91
 have c93:=az (there_ok _ c92) c92
 have c94:=az (WI _ c93 rfl rfl) c93
 have c95:=az (msnew_ok _ c94) c94
 have c96:=az (mtext_ok _ c95) c95
 have c97:=az (mdig_ok _ c96 rfl rfl) c96
 have c98:=az (mpad_ok _ c97) c97
 have c99:=az (mnew_ok _ c98 rfl rfl rfl rfl) c98
 have c100:=az (mfeed_ok _ c99 rfl) c99
 have c101:=az (msum_ok _ c100 rfl rfl) c100
 have c102:=az (mnum_ok _ c101) c101
 have c103:=az (der_ok _ c102 rfl rfl rfl rfl) c102
 have c104:=az (coren_ok _ c103) c103
 have c105:=az (cslot_ok _ c104) c104
 have c106:=az (WG _ c105) c105
 have c107:=az (Rr _ c106) c106
 exact az (tgt_ok _ c107) c107
noncomputable def RA:List (Nat×j9):=[(8,aG C0 4 td tc),(53,aG C0 3 ig ie),(145,aG C0 2 j2 jZ),(220,aG C0 0 mY mX),(133,aG C0 2 iq ik),(182,aG C0 1 hU gZ),(205,aG C0 2 cK cJ),(128,aG C0 0 qs qq),(64,aG C0 2 ij ii),(67,aG C0 0 uB uA),(14,aG C0 0 lV lU),(172,aG C0 3 iU iT),(104,aG C0 1 iG iF),(165,aG C0 4 iS iR),(200,aG C0 2 fV fU),(192,aG C0 2 iL iK),(180,aG C0 1 iw iv),(137,aG C0 1 dL dK),(43,aG CF 1 mj mi),(45,aG CF 3 dR dQ),(117,aG CF 4 df cZ)]
noncomputable def CA:aX:=⟨G0,mP T0,o7 RA,λ_=>none⟩
theorem ctxA:aJ CA P:=by
 have z:aJ ⟨G0,mP T0,o7 [],λ_=>none⟩ P:=⟨sI.1,(YF (G:=G0) (P:=P)).2.1,sI.2.2⟩
 replace z:=aN (IU (Ag CF ctxF)) z
 replace z:=aN (IU (yH CF ctxF)) z
 replace z:=aN (IU (N5 CF ctxF)) z
 replace z:=aN (uE C0 sI) z
 replace z:=aN (BI C0 sI) z
 replace z:=aN (yP C0 sI) z
 replace z:=aN (BR C0 sI) z
 replace z:=aN (Dv C0 sI) z
 replace z:=aN (QT C0 sI) z
 replace z:=aN (HF C0 sI) z
 replace z:=aN (QL C0 sI) z
 replace z:=aN (QQ C0 sI) z
 replace z:=aN (Bm C0 sI) z
 replace z:=aN (QW C0 sI) z
 replace z:=aN (sy C0 sI) z
 replace z:=aN (Fw C0 sI) z
 replace z:=aN (m_Sel1 C0 sI) z
 replace z:=aN (HM C0 sI) z
 replace z:=aN (Q1 C0 sI) z
 replace z:=aN (Bl C0 sI) z
 exact aN (Vz C0 sI) z
noncomputable def T1:List (Nat×Fn):=(70,Sd)::(204,F5)::(216,fMay)::(88,ym)::(142,TS)::(89,DT)::T0
noncomputable def Q0:List (Nat×E5):=[(13,Co)]
noncomputable def CB:aX:=⟨G0,mP T1,o7 RA,Dk Q0⟩
theorem AD:aJ CB P:=by
 have c1:=az (Z5 CA C0 ctxA rfl rfl rfl rfl rfl rfl) ctxA
 have c2:=az (root_ok _ c1 rfl rfl rfl rfl rfl rfl) c1
 have c3:=az (Wm _ c2 rfl rfl) c2
 have c4:=az (may_ok _ C0 c3 rfl rfl) c3
 have c5:=az (Wv _ c4 rfl rfl rfl rfl rfl) c4
 have c6:=az (sel_ok _ C0 c5 rfl rfl rfl rfl) c5
 have z:aJ ⟨G0,mP T1,o7 RA,Dk []⟩ P:=⟨c6.1,c6.2.1,by intro f F h;cases h⟩
 exact Vm (next2_ok C0 sI (λ_=>rfl) rfl rfl rfl) z
noncomputable def RB:List (Nat×j9):=(131,aG CB 3 iQ iP)::(108,aG CB 3 fP fO)::(44,aG CB 0 tv tu)::(56,aG CB 4 iO iN)::(196,aG CB 2 fz fy)::(173,aG CB 2 gH gG)::(169,aG CB 2 gF gE)::(190,aG CB 5 fo fm)::(65,aG CB 0 mV mU)::(181,aG CB 1 jn jm)::(11,aG CB 4 mh mg)::(63,aG CB 1 nZ nY)::(82,aG CB 1 eV eU)::(80,aG CB 2 fN fM)::RA
noncomputable def T2:List (Nat×Fn):=(68,EZ)::T1
noncomputable def CC:aX:=⟨G0,mP T2,o7 RB,Dk Q0⟩
theorem CM:aJ CC P:=by
 have z:=AD
 replace z:=aN (wX CB AD) z
 replace z:=aN (uC CB AD) z
 replace z:=aN (VC CB AD) z
 replace z:=aN (N2 CB AD) z
 replace z:=aN (Fv CB AD) z
 replace z:=aN (Lx CB AD) z
 replace z:=aN (vS CB AD) z
 replace z:=aN (Dw CB AD) z
 replace z:=aN (Dx CB AD) z
 replace z:=aN (Dz CB AD) z
 replace z:=aN (Hb CB AD) z
 replace z:=aN (VB CB AD) z
 replace z:=aN (xd CB AD) z
 replace z:=aN (Dt CB AD) z
 replace z:=az (look_ok _ CB C0 z rfl rfl rfl rfl rfl rfl rfl rfl rfl rfl) z
 exact z
noncomputable def RD:List (Nat×j9):=(12,aG CC 3 fJ fI)::(197,aG CC 2 iY iX)::(199,aG CC 2 iy ix)::(177,aG CC 4 iW iV)::(171,aG CC 4 fR fQ)::(47,aG CC 2 lG lF)::(20,aG CC 2 eT eS)::(123,aG CC 2 eX eW)::(124,aG CC 2 cI cH)::(125,aG CC 2 eE eD)::(126,aG CC 2 dY dW)::(19,aG CC 1 tq tn)::(138,aG CC 2 gk gj)::RB
noncomputable def CD:aX:=⟨G0,mP T2,o7 RD,Dk Q0⟩
theorem PI:aJ CD P:=by
 have z:=CM
 replace z:=aN (yN CC CM) z
 replace z:=aN (Zf CC CM) z
 replace z:=aN (yM CC CM) z
 replace z:=aN (Aj CC CM) z
 replace z:=aN (Ai CC CM) z
 replace z:=aN (BA CC CM) z
 replace z:=aN (Bb CC CM) z
 replace z:=aN (Jb CC CM) z
 replace z:=aN (xk CC CM) z
 replace z:=aN (Dy CC CM) z
 replace z:=aN (BQ CC CM) z
 replace z:=aN (DA CC CM) z
 exact aN (Lq CC CM) z
noncomputable def RE:List (Nat×j9):=(121,aG CD 2 dU dS)::(122,aG CD 2 eC b6)::(178,aG CD 5 gu gq)::(179,aG CD 2 iu ir)::(9,aG CD 4 tj tf)::(81,aG CD 1 fk fj)::(29,aG CD 2 ic ib)::RD
noncomputable def CE:aX:=⟨G0,mP T2,o7 RE,Dk Q0⟩
theorem ctxE:aJ CE P:=by
 have z:=PI
 replace z:=aN (Bc CD PI) z
 replace z:=aN (vR CD PI) z
 replace z:=aN (VA CD PI) z
 replace z:=aN (BH CD PI) z
 replace z:=aN (yO CD PI) z
 replace z:=aN (Ah CD PI) z
 exact aN (yL CD PI) z
noncomputable def RG:List (Nat×j9):=(127,aG CE 2 eF bn)::(30,aG CE 2 ez ey)::RE
noncomputable def CG:aX:=⟨G0,mP T2,o7 RG,Dk Q0⟩
theorem ctxG:aJ CG P:=by
 have z:=ctxE
 replace z:=aN (Fj CE ctxE) z
 exact aN (Ak CE ctxE) z
noncomputable def RH:List (Nat×j9):=(61,aG CG 2 cr cm)::RG
noncomputable def CH:aX:=⟨G0,mP T2,o7 RH,Dk Q0⟩
theorem ctxH:aJ CH P:=by
 have z:=ctxG
 exact aN (Ds CG ctxG) z
noncomputable def RI:List (Nat×j9):=(15,aG CH 3 gf bX)::RH
noncomputable def CI:aX:=⟨G0,mP T2,o7 RI,Dk Q0⟩
theorem ctxI:aJ CI P:=by
 have z:=ctxH
 exact aN (Fh CH ctxH) z
noncomputable def RJ:List (Nat×j9):=(7,aG CI 0 jY jX)::(28,aG CI 1 gY gX)::(27,aG CI 2 oB oA)::RI
noncomputable def CJ:aX:=⟨G0,mP T2,o7 RJ,Dk Q0⟩
theorem ctxJ:aJ CJ P:=by
 have z:=ctxI
 replace z:=aN (N4 CI ctxI) z
 replace z:=aN (Fi CI ctxI) z
 exact aN (N0 CI ctxI) z
theorem lmC:LmC C0:=⟨rfl,rfl,rfl,rfl,rfl,rfl,rfl⟩
theorem lmS:LmS C0:=⟨rfl,rfl,rfl,rfl,rfl⟩
theorem haB:HaC CC:=⟨rfl,_,rfl,⟨rfl,_,rfl⟩⟩
theorem cpB:CpC CB:=⟨⟨rfl,_,rfl⟩,rfl⟩
theorem slC:SlC CB CC:=⟨rfl,rfl,rfl,_,rfl⟩
theorem doC:DoC CC:=⟨rfl,rfl,_,rfl,⟨rfl,rfl,rfl⟩⟩
theorem imC:ImC CB:=⟨rfl,rfl,rfl,rfl,rfl,⟨_,rfl,lmS⟩,rfl⟩
theorem prC:PrgC C0 CB CC:=⟨rfl,rfl,rfl,rfl,rfl⟩
theorem nmC:NmC CC:=⟨rfl,⟨_,rfl⟩,rfl,⟨_,rfl,⟨rfl,⟨_,rfl⟩,rfl⟩⟩,rfl,⟨_,rfl⟩,rfl⟩
theorem stC:StC CB CC:=⟨⟨rfl,rfl⟩,rfl,rfl,rfl,⟨_,rfl⟩⟩
theorem cdC:CdC CD:=⟨⟨rfl,_,rfl⟩,rfl,rfl,rfl,⟨_,_,rfl,stC⟩⟩
theorem wrC:WrC CD:=⟨rfl,⟨_,rfl,doC⟩,rfl,⟨_,rfl,cpB⟩⟩
theorem staC:StaC CC:=⟨⟨rfl,_,rfl⟩,haB,rfl,rfl,rfl,rfl,rfl⟩
theorem lkC:LkC CC:=⟨⟨rfl,_,rfl⟩,rfl⟩
theorem choC:ChoC CC:=⟨rfl,rfl,rfl,rfl,rfl,haB,⟨rfl,_,rfl⟩,rfl,⟨_,rfl,cpB⟩⟩
theorem ckC:CkC CC:=⟨⟨rfl,_,rfl⟩,haB,rfl⟩
theorem locE:LocC CE:=⟨⟨rfl,_,rfl⟩,rfl,⟨_,rfl⟩,rfl,⟨_,C0,rfl,rfl,rfl,rfl⟩,rfl,rfl⟩
theorem lobE:LobC CE:=⟨rfl,rfl,rfl,⟨_,_,rfl,slC⟩,rfl,⟨_,CC,CB,rfl,⟨⟨rfl,rfl,rfl,_,rfl⟩,rfl,rfl,⟨_,slC⟩,rfl⟩⟩,rfl,⟨_,CC,CB,rfl,⟨rfl,rfl,slC⟩⟩⟩
theorem tkG:TkC CG:=⟨rfl,⟨_,rfl,wrC⟩,rfl,⟨_,rfl,cdC⟩,rfl,⟨_,rfl,staC⟩,rfl,⟨_,rfl,lkC⟩,rfl,⟨_,rfl,choC⟩,rfl,⟨_,rfl,ckC⟩,rfl,⟨_,rfl,⟨rfl,rfl,lobE,locE⟩⟩⟩
theorem rnH:XA CH CG:=⟨rfl,rfl,tkG⟩
theorem layC:LayC CD:=⟨rfl,rfl,rfl,⟨_,_,rfl,rfl,rfl⟩,rfl,rfl,rfl,rfl,rfl,rfl,rfl,⟨_,_,_,rfl,prC⟩,rfl,⟨_,rfl,nmC⟩⟩
theorem wkI:WkC CI:=⟨rfl,⟨_,rfl,lmC⟩,rfl,rfl,⟨_,rfl,imC⟩,rfl,⟨_,rfl,layC⟩,rfl,⟨_,rfl⟩,rfl,⟨_,_,rfl,rnH⟩⟩
theorem plC0:PlC C0:=⟨rfl,rfl⟩
theorem cfB:CfC CB:=⟨rfl,rfl,rfl,rfl,rfl⟩
theorem sgB:SgC CB:=⟨rfl,rfl,⟨_,rfl,plC0⟩⟩
theorem pvC:PvC CC:=⟨rfl,rfl,rfl⟩
theorem cmD:CmC CD:=⟨⟨rfl,rfl,rfl,rfl,rfl⟩,rfl,⟨_,rfl,plC0⟩,rfl,⟨_,rfl,pvC⟩⟩
theorem dpD:DpC CD:=⟨rfl,rfl,⟨_,rfl,doC⟩⟩
theorem pnE:PnC CE:=⟨rfl,⟨_,rfl,imC⟩,rfl,⟨_,rfl,sgB⟩,rfl,⟨_,rfl,cmD⟩,rfl,⟨_,rfl,cfB⟩⟩
theorem sbI:SbC CI:=⟨rfl,rfl,⟨_,_,_,rfl,rfl,rfl,rfl,rfl⟩,rfl,⟨_,rfl,nmC⟩,rfl,⟨_,rfl⟩,rfl,⟨_,_,rfl,rnH⟩⟩
theorem trJ:TrC CJ:=⟨rfl,⟨_,rfl,wkI⟩,rfl,⟨_,rfl,wkI⟩,rfl,⟨_,rfl,sbI⟩,rfl,⟨_,rfl,pnE⟩,rfl,⟨_,rfl,dpD⟩⟩
theorem CJ_types:CJ.aY 0=some (D.agg (.ar uT.length (qT [.i64,.i64,.i64])) (uT.map (FL [.i64,.i64,.i64]))):=rfl
theorem CJ_first:CJ.aY 2=some (wK .u32 IT):=rfl
theorem Xb:CJ.aY 5=some (wK .u32 CK):=rfl
theorem CJ_tz:CJ.aY 1=some (wK .u8 tzZ):=rfl
theorem CJ_spans:CJ.aY 4=some (D.agg (.ar uU.length (qT [.u32,.i64])) (uU.map (FL [.u32,.i64]))):=rfl
theorem MX(g:Nat)(h:¬g=0)(h0:¬g=2)(h1:¬g=5)(h2:¬g=1)(h3:¬g=4):CJ.aY g=none:=G0_none g h h0 h1 h2 h3
end iZ
end Go.Am
namespace Go.Proofs.YtgcejocgnfkciaaGreatDoor.trials
open Go.Am Go.Am.iZ Go.Am.F
open Go.ChangeShapes Go.WideShapes Go.ChangeAt Go.RowKit
def K:Vx:= .cons (.arr 32 (.int .u8)) (.cons (.slice (.int .u8)) (.cons (.int .u8) (.cons (.int .u8) .nil)))
noncomputable def Xc(g:Nat):TypeId:=(Tryz.prog.globals[g]?.map (·.type)).getD 0
noncomputable def Xd(g:Nat):TypeId:=match Tryz.prog.underlying (Xc g)with|some (.array _ e)=>e| _=>0
noncomputable def recF(g:Nat):Array Field:=match Tryz.prog.underlying (Xd g)with|some (.struct fs)=>fs| _=>#[]
theorem own:ownKnob Tryz.prog.godebug=none:=by kernel_rfl
theorem laid:laidOutB Tryz.prog=true:=by kernel_rfl
theorem law(dd:List D)(h:DNs K dd):aG CJ 4 lM fZ dd [] (λd _=>d= .raw (.bool true)):=by
 rcases dd with _|⟨d0,_|⟨d1,_|⟨d2,_|⟨d3,_|⟨d4,l⟩⟩⟩⟩⟩
 ·exact h.elim
 ·exact h.2.elim
 ·exact h.2.2.elim
 ·exact h.2.2.2.elim
 ·obtain⟨h1,h2,h3,h4,-⟩:=h
  unfold DN DK at h3 h4
  obtain⟨aI,rfl,sJ⟩:=dk_arr8 h1
  obtain⟨p,rfl,hp,-⟩:=dn_bs h2
  unfold maxLen at hp
  obtain⟨bo,rfl⟩:=h3
  obtain⟨cn,rfl⟩:=h4
  exact SR CJ trJ aI sJ p (by omega) bo cn
 ·exact h.2.2.2.2.elim
theorem globs{W:World}(hL:laidMetH Tryz.prog Rows.topTrialsRow.laid W)(g:Nat)(d:D)(h:CJ.aY g=some d):LR fw W (old W) (.b5 d) (.pointer (some ⟨g,0,none⟩)):=by
 have KX:laidMet Tryz.prog Rows.topTrialsRow.laid W:=hL
 by_cases h0:g=1
 ·subst h0
  have e:wK .u8 tzZ=d:=abe ((CJ_tz:CJ.aY 1=some (wK .u8 tzZ)).symm.trans h)
  subst e
  exact Dp (P:=Tryz.prog) (t:=Xc 1) (e:=Xd 1) (n:=tzZ.length) (name:=(Rows.topTrialsRow.laid.getD 0 ("",.nil)).1) KX (abR (i:=0) rfl) (by kernel_rfl) (by kernel_rfl) (by kernel_rfl) (by kernel_rfl) (by kernel_rfl) (by kernel_rfl) (by decide)
 by_cases h1:g=2
 ·subst h1
  have e:wK .u32 IT=d:=abe ((CJ_first:CJ.aY 2=some (wK .u32 IT)).symm.trans h)
  subst e
  exact Dp (P:=Tryz.prog) (t:=Xc 2) (e:=Xd 2) (n:=IT.length) (name:=(Rows.topTrialsRow.laid.getD 1 ("",.nil)).1) KX (abR (i:=1) rfl) (by kernel_rfl) (by kernel_rfl) (by kernel_rfl) (by kernel_rfl) (by kernel_rfl) (by kernel_rfl) (by decide)
 by_cases h2:g=5
 ·subst h2
  have e:wK .u32 CK=d:=abe ((Xb:CJ.aY 5=some (wK .u32 CK)).symm.trans h)
  subst e
  exact Dp (P:=Tryz.prog) (t:=Xc 5) (e:=Xd 5) (n:=CK.length) (name:=(Rows.topTrialsRow.laid.getD 2 ("",.nil)).1) KX (abR (i:=2) rfl) (by kernel_rfl) (by kernel_rfl) (by kernel_rfl) (by kernel_rfl) (by kernel_rfl) (by kernel_rfl) (by decide)
 by_cases h3:g=0
 ·subst h3
  have e:D.agg (.ar uT.length (qT [.i64,.i64,.i64])) (uT.map (FL [.i64,.i64,.i64]))=d:=abe ((CJ_types:CJ.aY 0=some (D.agg (.ar uT.length (qT [.i64,.i64,.i64])) (uT.map (FL [.i64,.i64,.i64])))).symm.trans h)
  subst e
  exact KT (P:=Tryz.prog) (t:=Xc 0) (e:=Xd 0) (n:=uT.length) (fs:=recF 0) (zs:=uT) (ks:=[.i64,.i64,.i64]) (name:=(Rows.topTrialsRow.laid.getD 3 ("",.nil)).1) KX (abR (i:=3) rfl) ⟨by kernel_rfl,by kernel_rfl,by kernel_rfl,λr h=>match r,h with|0,_=>⟨by kernel_rfl,by kernel_rfl,by kernel_rfl⟩|1,_=>⟨by kernel_rfl,by kernel_rfl,by kernel_rfl⟩|2,_=>⟨by kernel_rfl,by kernel_rfl,by kernel_rfl⟩|n+3,h=>absurd h (Nat.not_lt.2 (Nat.le_add_left _ _)),by kernel_rfl,by kernel_rfl⟩ (by decide) (by kernel_rfl) (by kernel_rfl) (by decide)
 by_cases h4:g=4
 ·subst h4
  have e:D.agg (.ar uU.length (qT [.u32,.i64])) (uU.map (FL [.u32,.i64]))=d:=abe ((CJ_spans:CJ.aY 4=some (D.agg (.ar uU.length (qT [.u32,.i64])) (uU.map (FL [.u32,.i64])))).symm.trans h)
  subst e
  exact KT (P:=Tryz.prog) (t:=Xc 4) (e:=Xd 4) (n:=uU.length) (fs:=recF 4) (zs:=uU) (ks:=[.u32,.i64]) (name:=(Rows.topTrialsRow.laid.getD 4 ("",.nil)).1) KX (abR (i:=4) rfl) ⟨by kernel_rfl,by kernel_rfl,by kernel_rfl,λr h=>match r,h with|0,_=>⟨by kernel_rfl,by kernel_rfl,by kernel_rfl⟩|1,_=>⟨by kernel_rfl,by kernel_rfl,by kernel_rfl⟩|n+2,h=>absurd h (Nat.not_lt.2 (Nat.le_add_left _ _)),by kernel_rfl,by kernel_rfl⟩ (by decide) (by kernel_rfl) (by kernel_rfl) (by decide)
 ·exact absurd h (by rw[MX g h3 h1 h2 h0 h4];exact nofun)
def lay0:Obj->Obj
 | .cells _ t frozen=> .cells (tzZ.map λz=>Value.int .u8 z).toArray t frozen
 |o=>o
def lay1:Obj->Obj
 | .cells _ t frozen=> .cells (IT.map λz=>Value.int .u32 z).toArray t frozen
 |o=>o
def lay2:Obj->Obj
 | .cells _ t frozen=> .cells (CK.map λz=>Value.int .u32 z).toArray t frozen
 |o=>o
def lay3:Obj->Obj
 | .cells _ t frozen=> .cells (gN [.i64,.i64,.i64] uT).toArray t frozen
 |o=>o
def lay4:Obj->Obj
 | .cells _ t frozen=> .cells (gN [.u32,.i64] uU).toArray t frozen
 |o=>o
noncomputable def Ec(os:Os):World:={World.holding Tryz.prog os ⟨#[],#[],[]⟩with heap:=((((((World.holding Tryz.prog os ⟨#[],#[],[]⟩).heap.modify 1 lay0).modify 2 lay1).modify 5 lay2).modify 0 lay3).modify 4 lay4)}
theorem laid_met(os:Os):laidMet Tryz.prog Rows.topTrialsRow.laid ((Ec os).forCall (λ_ _=>0) ⟨#[],#[.agg (Array.replicate 32 (Value.int .u8 0)),.slice none 0 0,.int .u8 0,.int .u8 0],[]⟩).memory:=
 laidMet_of_run' 8 (by kernel_rfl) (by kernel_rfl)
theorem reads(os:Os){H:Type}(enc:TypeId×Value->H):∃places,DataW.whole enc Tryz.prog ((Ec os).forCall (λ_ _=>0) ⟨#[],#[.agg (Array.replicate 32 (Value.int .u8 0)),.slice none 0 0,.int .u8 0,.int .u8 0],[]⟩).memory Tryz.f5.params.toList Rows.topTrialsSpec.vars false #[.agg (Array.replicate 32 (Value.int .u8 0)),.slice none 0 0,.int .u8 0,.int .u8 0].toList 8=some ([.agg (List.replicate 32 (.lit (.int .u8 0))),.nil,.lit (.int .u8 0),.lit (.int .u8 0)],[],places):=
 ⟨[],by kernel_rfl⟩
set_option maxRecDepth 100000 in
theorem lifted(os:Os)(started:os.Started)(H:Type)(enc:TypeId×Value->H)(F:Stop.Interp):
  ReturnsInHanded {} Tryz.checked os 5 .any ((OpenSpec.ofChange Rows.topTrialsSpec).preRow enc Tryz.prog Tryz.f5 Rows.topTrialsRow.domain false Rows.topTrialsRow.laid) (((OpenSpec.ofChange Rows.topTrialsSpec).at F).post enc Tryz.prog Tryz.f5 false true false false):=by
 obtain⟨places,hx⟩:=reads os enc
 refine returnsInHanded_of_row (C:=Tryz.checked) (s:=(OpenSpec.ofChange Rows.topTrialsSpec)) own started (by kernel_rfl) Tryz.func5
  (witness_row_at (enc:=enc) (C:=Tryz.checked) false (Ec os) #[.agg (Array.replicate 32 (Value.int .u8 0)),.slice none 0 0,.int .u8 0,.int .u8 0] rfl (by kernel_rfl) (by kernel_rfl) (by kernel_rfl)
   (OpenSpec.preRow_of_cond 8 hx (by kernel_rfl) (λk hk=>by cases hk) (by kernel_rfl) (laid_met os))) ?_
 intro W base args ds gs before hval hW _ _ _ hL _ _
 exact row_law (Fg CJ ctxJ) laid (n:=9) (ks:=K) (tb:=Tryz.f5.resultTypes.getD 0 0) (by kernel_rfl) (by kernel_rfl) rfl (by kernel_rfl) (by kernel_rfl) (λds h=>by match ds,h with|[_,_,_,_],_=>rfl) (λdd h _=>law dd h) hval hW (λg d h=>globs hL g d h)
theorem and_t{a b:Bool}(h1:a=true)(h2:b=true):(a&&b)=true:=by rw[h1,h2];rfl
set_option maxHeartbeats 4000000 in
theorem closed3:joinedFacts Tryz.pinned.checked.prog 5 Tryz.f5 (OpenSpec.ofChange Rows.topTrialsSpec).bare Rows.topTrialsRow=true:=by
 unfold joinedFacts
 iterate 31 refine and_t ?_ ?_
 all_goals as_aux_lemma=>kernel_rfl
theorem over:Rows.TopTrialsSaid:=
 OpenClaim.holds_of_cond 5 Tryz.f5 rfl rfl rfl rfl rfl rfl rfl ⟨rfl,rfl,rfl,rfl,rfl⟩ rfl rfl rfl rfl rfl (by as_aux_lemma=>kernel_rfl) Tryz.func5 closed3
  (ac9 (by as_aux_lemma=>kernel_rfl)) (by as_aux_lemma=>unfold Func.isWrapper;first|(rw[aaM (by decide+kernel)];kernel_rfl)|(rw[aaE (by decide+kernel)];exact⟨rfl,rfl⟩))
  (λos started H enc _ F=>by rw[OpenClaim.pre_eq_preRow];exact lifted os started H enc F)
theorem plain(f:FuncId)(fn:Func)(hf:Tryz.pinned.checked.prog.funcNamed Rows.topTrialsRow.func=some f)(hfn:Tryz.pinned.checked.prog.funcs[f]?=some fn):
  false=Tryz.pinned.checked.prog.looks []/\∀(j:Nat) t,fn.params[j]?=some t->Tryz.pinned.checked.prog.wantsStandIn t=false:=by
 obtain rfl:f=5:=(abe ((show Tryz.prog.funcNamed Rows.topTrialsRow.func=some 5 by as_aux_lemma=>kernel_rfl).symm.trans hf)).symm
 obtain rfl:fn=Tryz.f5:=(abe (Tryz.func5.symm.trans hfn)).symm
 refine⟨by as_aux_lemma=>kernel_rfl,λj t ht=>?_⟩
 have bN:(Tryz.f5.params.toList.all λt=>!Tryz.prog.wantsStandIn t)=true:=by as_aux_lemma=>kernel_rfl
 have:=abc.1 bN t (by simpa using Array.mem_of_getElem? ht)
 exact(by simpa using this:Tryz.prog.wantsStandIn t=false)
theorem proved:Rows.TopTrialsCardSaid:=
 Claim7.holds_tied_plain_at .later [] _ _ _ _ over (λ_ h=>by cases h) (by as_aux_lemma=>kernel_rfl) (λ_ h=>by cases h) topTrials_row_tie rfl ⟨rfl,rfl⟩ (by as_aux_lemma=>kernel_rfl) rfl plain (by as_aux_lemma=>kernel_rfl)
end Go.Proofs.YtgcejocgnfkciaaGreatDoor.trials

import Derived.Test.YtgcejocgnfkciaaGreatDoorKc17
namespace Go.Am
set_option linter.unusedSimpArgs false
set_option linter.unusedVariables false
attribute [local congr] cd bt cg bu bw bO bg bx bz bP a7 bQ bA b9
namespace iC
open Go.Am.F
set_option maxRecDepth 10000
abbrev AX:Sh:= .cons dk (.cons LB .nil)
abbrev G3:Sh:= .cons .ref .nil
abbrev Pf:Sh:= .cons .ref (.cons LB .nil)
abbrev Wd:=BitVec 32×Bool
def AY(p:Wd):D:= .agg AX [.raw (u32 p.1),.raw (.bool p.2)]
structure pU where
 ws:List Wd
 e:Bool
 s:Bool
abbrev pU.w(c:pU):List (BitVec 32):=c.ws.map (·.1)
def Z6(c:pU):D:= .b5 (.agg G3 [.cF AX (c.ws.map AY) c.e])
def qZ(c:pU):D:= .b5 (.agg Pf [Z6 c,.raw (.bool c.s)])
theorem wdD_inj(x y:Wd)(h:AY x=AY y):x=y:=by
 unfold AY at h
 injection h with _ h
 injection h with h1 h
 injection h with h2 _
 injection h1 with h1
 injection h2 with h2
 injection h2 with h2
 exact Prod.ext (Go.Am.QA.1 h1) h2
theorem QQ{a b:List Wd}(h:a.map AY=b.map AY):a=b:=(List.map_inj_right wdD_inj).1 h
def XG(x:List Wd×Bool):D:=Z6 ⟨x.1,x.2,false⟩
theorem QR(x y:List Wd×Bool)(h:XG x=XG y):x=y:=by
 unfold XG Z6 at h
 injection h with h
 injection h with _ h
 injection h with h _
 injection h with _ h1 h2
 exact Prod.ext (QQ h1) h2
theorem D9(x y:pU)(h:qZ x=qZ y):x=y:=by
 obtain⟨xw,xe,xs⟩:=x
 obtain⟨yw,ye,ys⟩:=y
 unfold qZ Z6 at h
 injection h with h
 injection h with _ h
 injection h with h1 h
 injection h with h2 _
 injection h1 with h1
 injection h1 with _ h1
 injection h1 with h1 _
 injection h1 with _ h1 h3
 injection h2 with h2
 injection h2 with h2
 cases QQ h1
 subst h2
 subst h3
 rfl
def MD(l:List (BitVec 32)):D×Rows:=(.sl dk 0 [] 0 l.length false,[some ⟨dk,us l⟩])
theorem J5{s:Sh}{l:List D}{i:Nat}(h:i<l.length)(e:Bool)(rows:Rows)(k:D→Rows→Prop):nQ s (i:Int) rows k (.cF s l e)=k (.b5 l[i]) rows:=by
 simp only[nQ,Int.toNat_natCast,List.getElem?_eq_getElem h,bd,true_and]
 rw[eq_true (by omega:(0:Int)≤(i:Int)),eq_true (by omega:(i:Int)<(l.length:Int)),true_and,true_and]
theorem us_snoc(l:List (BitVec 32))(i:Nat)(h:i<l.length):us (l.take i)++[.raw (u32 l[i])]=us (l.take (i+1)):=by
 rw[List.take_succ_eq_append_getElem h,←OU]
 rfl
noncomputable def fWds:Fn:=lE (b8 XG) (fun x=>decide (x.1.length=64)) fun x=>MD (x.1.map (·.1))
theorem wds_ok(C:be)(hC:aI C P):aO C.aZ P 78 (Fn.run fWds):=by
 refine aH (ym C hC) fun ds rows r h=>?_
 obtain⟨d,⟨x,e⟩,rfl,rfl,hd,hp,rfl⟩:=a8 h
 cases aF hd
 simp only[decide_eq_true_eq]at hp
 refine⟨rfl,ag rfl ?_⟩
 clear h hd
 unfold o9 pb
 have hl:(x.map AY).length=64:=by rw[List.length_map,hp]
 have hm:(x.map (·.1)).length=64:=by rw[List.length_map,hp]
 simp only[XG,Z6,↓aj,ak,simprocAttr,aa,hl]
 refine bB 64 (fun i env rows=>has env [(13,.raw (it (i:Int))),(12,.raw (it 64)),(11,.cF AX (x.map AY) e)]∧∃d,look env 3=some d∧iK dk d rows (us ((x.map (·.1)).take i))) ?_ ?_ ⟨?_,_,?_,.nil⟩
 ·rintro i hi env rows ⟨hh,d,h3,hO⟩ R hR
  simp only[has]at hh
  have e0:((i:Int)<64)=True:=eq_true (by omega)
  have e1:=cE i (by omega)
  have gi:=fun rows k=>J5 (s:=AX) (l:=x.map AY) (i:=i) (by omega) e rows k
  have gx:(x.map AY)[i]'(by omega)= .agg AX [.raw (u32 (x[i]'(by omega)).1),.raw (.bool (x[i]'(by omega)).2)]:=by rw[List.getElem_map];rfl
  rw[gx]at gi
  simp only[↓aj,ak,simprocAttr,aa,aX,hh,h3,e0,gi]
  refine iX hO.push (by rw[mN,List.length_take];simp[most];omega) (by rw[mN,List.length_take];simp[most];omega) fun d2 ab F4 oD vS _=>?_
  have hs:=us_snoc (x.map (·.1)) i (by omega)
  rw[List.getElem_map]at hs
  rw[hs]at F4
  simp only[↓aj,ak,simprocAttr,aa,aX,hh,e1]
  exact hR _ _ ⟨by simp only[has,↓aj,ak,simprocAttr,aa,hh],d2,by simp only[↓aj,ak,simprocAttr,aa],F4⟩
 ·rintro env rows ⟨hh,d,h3,hO⟩ R
  simp only[has]at hh
  have e0:((64:Int)<64)=False:=eq_false (by omega)
  rw[List.take_of_length_le (by omega)]at hO
  simp only[↓aj,ak,simprocAttr,aa,hh,h3,e0,hO.mI]
  have:=iK.QM hO rfl
  rw[mN]at this
  exact this
 ·simp only[has,↓aj,ak,simprocAttr,aa]
 ·simp only[↓aj,ak,simprocAttr,aa]
theorem kWds(rows:Rows)(k:D→Rows→Prop)(c:pU)(h:c.ws.length=64):aJ fWds rows k [Z6 c]=k (.sl dk (0+rows.length) [] 0 64 false) (rows++[some ⟨dk,us c.w⟩]):=by
 refine(bi (by rfl) (ei (bV QR (c.ws,c.e)) (by simp[h]))).trans ?_
 simp[MD,shift,ae,Sh.pure,h]
noncomputable def Aw:Fn:=lE (b8 qZ) (fun c=>decide (c.ws.length=64)) fun c=>MD c.w
theorem allc_ok(C:be)(hC:aI C P)(h1:C.fn 78=some fWds):aO C.aZ P 76 (Fn.run Aw):=by
 refine aH (Fq C hC) fun ds rows r h=>?_
 obtain⟨d,c,rfl,rfl,hd,hp,rfl⟩:=a8 h
 cases aF hd
 simp only[decide_eq_true_eq]at hp
 refine⟨rfl,ag rfl ?_⟩
 clear h hd
 unfold vt vu
 have hm:c.w.length=64:=by rw[List.length_map,hp]
 have kW:=fun rows k=>kWds rows k c hp
 have f1:(Z6 c).fits .ref=true:=rfl
 simp only[qZ,↓aj,ak,simprocAttr,aa,h1,kW,f1]
 rw[MD,hm]
 exact .own _ _ 0 _ _ _ _ rfl rfl (fun h=>by cases h)
theorem Ix(rows:Rows)(k:D→Rows→Prop)(c:pU)(h:c.ws.length=64):aJ Aw rows k [qZ c]=k (.sl dk (0+rows.length) [] 0 64 false) (rows++[some ⟨dk,us c.w⟩]):=by
 refine(bi (by rfl) (ei (bV D9 c) (by simp[h]))).trans ?_
 simp[MD,shift,ae,Sh.pure,h]
def Ho(x:BitVec 8):Nat:=((List.range 8).filter fun i=>x.getLsbD i).length
def QS:Fn:=lE Z3 (fun _=>true) fun x=>(.raw (it (Ho x:Int)),[])
def popT:ByteArray:=match fN with
 | .seq _ (.seq (.region _ (_::⟨_,.sI (.const (.string b)) _,_⟩::_)) _)=>b
 | _=>⟨#[]⟩
theorem XH:∀n,n<256→popT.data.toList[n]?=some (UInt8.ofNat (Ho (BitVec.ofNat 8 n))):=by decide
theorem ones_ok(C:be)(hC:aI C P):aO C.aZ P 183 (Fn.run QS):=by
 refine aH (tn C hC) fun ds rows r h=>?_
 obtain⟨d,x,rfl,rfl,hd,hp,rfl⟩:=a8 h
 cases E8 hd
 refine⟨rfl,ag rfl ?_⟩
 clear h hd
 have hT:=XH x.toNat x.isLt
 rw[BitVec.ofNat_toNat,BitVec.setWidth_eq]at hT
 have hle:Ho x≤8:=by
  refine Nat.le_trans (List.length_filter_le _ _) ?_
  decide
 have hc:(UInt8.ofNat (Ho x)).toBitVec.toNat=Ho x:=by
  show(BitVec.ofNat 8 (Ho x)).toNat=_
  rw[BitVec.toNat_ofNat];omega
 simp only[popT,fN]at hT
 unfold fN lW
 simp only[↓aj,ak,simprocAttr,aa,hT,Int.natCast_nonneg,hc]
 exact .val _ rfl
theorem kOnes(rows:Rows)(k:D→Rows→Prop)(x:BitVec 8):aJ QS rows k [.raw (u8 x)]=k (.raw (it (Ho x:Int))) rows:=by
 refine(bi (by rfl) (ei (Jr x) rfl)).trans ?_
 simp[shift,ae]
def tzL:List (BitVec 8):=[0,1,28,2,29,14,24,3,30,22,20,15,25,17,4,8,31,27,13,23,21,19,16,7,26,12,18,6,11,5,10,9]
def tzD:D:= .agg (.ar 32 L8) (bs tzL)
def Z7(x:BitVec 32):Nat:=if x=0#32 then 32 else(tzL.getD (((x&&&-x)*125613361#32)>>>27).toNat 0#8).toNat
def fTz:Fn:=lE qN (fun _=>true) fun x=>(.raw (it (Z7 x:Int)),[])
theorem u_neg32(x:BitVec 32)(k:D→Prop):Vl .neg (u32 x) k=k (.raw (u32 (-x))):=by
 have h:(0-(x.toNat:Int)) %4294967296=((-x).toNat:Int):=by rw[BitVec.toNat_neg];omega
 show k (.raw (.int .u32 (IntKind.u32.wrap (0-(x.toNat:Int)))))=_
 rw[zo,h]
 rfl
theorem tz_ok(C:be)(hC:aI C P)(hg:C.aZ 1=some tzD):aO C.aZ P 77 (Fn.run fTz):=by
 refine aH (oz C hC) fun ds rows r h=>?_
 obtain⟨d,x,rfl,rfl,hd,hp,rfl⟩:=a8 h
 cases dL hd
 refine⟨rfl,ag rfl ?_⟩
 clear h hd
 unfold iY iZ
 by_cases hx:x=0#32
 ·have hx':(x=0#32)=True:=eq_true hx
  simp only[↓aj,ak,simprocAttr,aa,Z7,hx',decide_true,if_true]
  exact .val _ rfl
 ·have hx':(x=0#32)=False:=eq_false hx
  have hlt:(((x&&&-x)*125613361#32)>>>27).toNat<32:=by
   rw[BitVec.toNat_ushiftRight,Nat.shiftRight_eq_div_pow]
   have:=((x&&&-x)*125613361#32).isLt
   omega
  simp only[Z7,if_neg hx]
  generalize hy:((x&&&-x)*125613361#32)>>>27=y at*
  have hl:(((y.toNat:Int))<32)=True:=eq_true (by omega)
  have hb:=mJ (l:=tzL) (i:=y.toNat) hlt
  simp only[↓aj,ak,simprocAttr,aa,u_neg32,hg,tzD,hx',hy,hl,hb,decide_false,Int.natCast_nonneg,Int.toNat_natCast]
  exact .val _ rfl
theorem kTz(rows:Rows)(k:D→Rows→Prop)(x:BitVec 32):aJ fTz rows k [.raw (u32 x)]=k (.raw (it (Z7 x:Int))) rows:=by
 refine(bi (by rfl) (ei (fK x) rfl)).trans ?_
 simp[shift,ae]
theorem tz_le(x:BitVec 32):Z7 x≤32:=by
 have h:∀n,n<32→(tzL.getD n 0#8).toNat<32:=by decide
 unfold Z7
 split
 ·exact Nat.le_refl _
 ·rcases Nat.lt_or_ge (((x&&&-x)*125613361#32)>>>27).toNat 32 with c|c
  ·exact Nat.le_of_lt (h _ c)
  ·rw[List.getD_eq_getElem?_getD,List.getElem?_eq_none (by exact c)];decide
def TS(w:BitVec 32)(i:Nat):Bool:=decide (5≤Ho ((w>>>(8*i)).setWidth 8))
def fOn:Fn:=wS qN rC (fun _ i=>decide (0≤i)&&decide (i≤3)) fun w i=>(.raw (.bool (TS w i.toNat)),[])
theorem on_ok(C:be)(hC:aI C P)(h1:C.fn 183=some QS):aO C.aZ P 135 (Fn.run fOn):=by
 refine aH (W8 C hC) fun ds rows r h=>?_
 obtain⟨d,e,w,i,rfl,rfl,hd,he,hp,rfl⟩:=dq h
 cases dL hd
 cases bX he
 simp only[Bool.and_eq_true,decide_eq_true_eq]at hp
 obtain⟨n,rfl⟩:=Int.eq_ofNat_of_zero_le hp.1
 refine⟨rfl,ag rfl ?_⟩
 clear h hd he
 unfold L5 L6
 have e1:wz (8*(n:Int))=((8*n:Nat):Int):=by rw[bf (by omega)];omega
 have e2:((5:Int)≤(Ho ((w>>>(8*n)).setWidth 8):Int))=(5≤Ho ((w>>>(8*n)).setWidth 8)):=by simp;omega
 simp only[↓aj,ak,simprocAttr,aa,h1,kOnes,e1,e2,Int.natCast_nonneg,Int.toNat_natCast,TS]
 exact .val _ rfl
theorem kOn(rows:Rows)(k:D→Rows→Prop)(w:BitVec 32)(i:Nat)(h:i≤3):aJ fOn rows k [.raw (u32 w),.raw (it (i:Int))]=k (.raw (.bool (TS w i))) rows:=by
 refine(bi (by rfl) (jP (fK w) (nS i) (by simp;omega))).trans ?_
 simp[shift,ae]
def CX(w:BitVec 32):Nat→Nat
 |0=>0
 |i+1=>if TS w i then i+1 else CX w i
def dH(c:pU):Nat:=CX (c.w.getD 0 0#32) 4
noncomputable def Iy:Fn:=lE (b8 qZ) (fun c=>decide (c.ws.length=64)) fun c=>(.raw (it (dH c:Int)),[])
theorem life_ok(C:be)(hC:aI C P)(h1:C.fn 76=some Aw)(h2:C.fn 135=some fOn):aO C.aZ P 71 (Fn.run Iy):=by
 refine aH (Du C hC) fun ds rows r h=>?_
 obtain⟨d,c,rfl,rfl,hd,hp,rfl⟩:=a8 h
 cases aF hd
 simp only[decide_eq_true_eq]at hp
 refine⟨rfl,ag rfl ?_⟩
 clear h hd
 unfold tN tO
 have hm:c.w.length=64:=by rw[List.length_map,hp]
 have kA:=fun rows k=>Ix rows k c hp
 have g0:=ku (l:=c.w) (i:=0) (by omega)
 rw[dH]
 generalize c.w.getD 0 0#32=w at*
 simp only[↓aj,ak,simprocAttr,aa]
 refine bB 4 (fun i env rows=>has env [(5,.raw (it (i:Int))),(3,.raw (it (CX w i:Int))),(0,qZ c)]) ?_ ?_ ?_
 ·rintro i hi env rows hh R hR
  simp only[has]at hh
  have e0:((i:Int)<4)=True:=eq_true (by omega)
  have e1:=cE i (by omega)
  have kO:=fun rows k=>kOn rows k w i (by omega)
  cases ho:TS w i with
  |true=>
   simp only[↓aj,ak,simprocAttr,aa,aX,hh,e0,e1,h1,h2,kA,g0,kO,ho]
   exact hR _ _ (by simp only[has,↓aj,ak,simprocAttr,aa,hh,CX,ho,if_true])
  |false=>
   simp only[↓aj,ak,simprocAttr,aa,aX,hh,e0,e1,h1,h2,kA,g0,kO,ho]
   exact hR _ _ (by simp only[has,↓aj,ak,simprocAttr,aa,hh,CX,ho]<;>simp)
 ·rintro env rows hh R
  simp only[has]at hh
  have e0:((4:Int)<4)=False:=eq_false (by omega)
  simp only[↓aj,ak,simprocAttr,aa,hh,e0]
  exact .val _ rfl
 ·simp only[has,↓aj,ak,simprocAttr,aa,CX]
theorem TT{α:Type}(l:List α)(i:Nat)(z:α)(h:i<l.length):l.drop i=l.getD i z::l.drop (i+1):=by
 rw[List.drop_eq_getElem_cons h]
 simp[List.getD,h]
def Pg:List (BitVec 32)→Nat
 |[]=>0
 |w::l=>if Z7 (~~~w)<32 then Z7 (~~~w)else Z7 (~~~w)+Pg l
def iS(c:pU):Nat:=min (Pg ((c.w.drop 1).take 8)) 255
noncomputable def XI:Fn:=lE (b8 qZ) (fun c=>decide (c.ws.length=64)) fun c=>(.raw (it (iS c:Int)),[])
theorem ctr_ok(C:be)(hC:aI C P)(h1:C.fn 76=some Aw)(h2:C.fn 77=some fTz):aO C.aZ P 26 (Fn.run XI):=by
 refine aH (yj C hC) fun ds rows r h=>?_
 obtain⟨d,c,rfl,rfl,hd,hp,rfl⟩:=a8 h
 cases aF hd
 simp only[decide_eq_true_eq]at hp
 refine⟨rfl,ag rfl ?_⟩
 clear h hd
 unfold o5 o6
 have hm:c.w.length=64:=by rw[List.length_map,hp]
 have kA:=fun rows k=>Ix rows k c hp
 rw[iS]
 generalize c.w=W at*
 have hl8:((W.drop 1).take 8).length=8:=by simp;omega
 have hgw:∀i,i<8→((W.drop 1).take 8).getD i 0#32=W.getD (1+i) 0#32:=fun i hi=>by
  rw[List.getD_eq_getElem?_getD,List.getElem?_take_of_lt hi,List.getElem?_drop,←List.getD_eq_getElem?_getD]
 generalize (W.drop 1).take 8=V at*
 have fin:∀n:Nat,(bif false then max (n:Int) 255 else min (n:Int) 255)=((min n 255:Nat):Int):=fun n=>by simp;omega
 simp only[↓aj,ak,simprocAttr,aa,aX,h1,kA]
 refine bB 8 (fun i env rows=>has env [(11,.raw (it (i:Int))),(10,.raw (it 8)),(9,.sl dk 0 [] 1 8 false)]∧rows=[some ⟨dk,us W⟩]∧∃n:Nat,look env 3=some (.raw (it (n:Int)))∧n≤32*i∧Pg (V)=n+Pg (V.drop i)) ?_ ?_ ⟨?_,rfl,0,?_,by omega,by simp⟩
 ·rintro i hi env rows ⟨hh,rfl,n,h3,hn,hc⟩ R hR
  simp only[has]at hh
  have e0:((i:Int)<8)=True:=eq_true (by omega)
  have e1:=cE i (by omega)
  have hw:=TT V i 0#32 (by omega)
  have gw:(us W)[1+i]?=some (.raw (u32 (V.getD i 0#32))):=by rw[ku (by omega),hgw i hi]
  rw[hw,Pg]at hc
  generalize V.getD i 0#32=v at*
  have ht:=tz_le (~~~v)
  have kT:=fun rows k=>kTz rows k (~~~v)
  generalize Z7 (~~~v)=t at*
  have e2:wz ((n:Int)+(t:Int))=((n+t:Nat):Int):=by rw[bf (by omega)];omega
  by_cases hlt:t<32
  ·have VH:((t:Int)<32)=True:=eq_true (by omega)
   rw[if_pos hlt]at hc
   simp only[↓aj,ak,simprocAttr,aa,aX,hh,h3,e0,gw,h2,kT,e2,VH,fin,Int.natCast_nonneg,Int.toNat_natCast]
   rw[hc]
   exact .val _ rfl
  ·have VH:((t:Int)<32)=False:=eq_false (by omega)
   rw[if_neg hlt]at hc
   simp only[↓aj,ak,simprocAttr,aa,aX,hh,h3,e0,e1,gw,h2,kT,e2,VH,Int.natCast_nonneg,Int.toNat_natCast]
   exact hR _ _ ⟨by simp only[has,↓aj,ak,simprocAttr,aa,hh],rfl,n+t,by simp only[↓aj,ak,simprocAttr,aa],by omega,by omega⟩
 ·rintro env rows ⟨hh,rfl,n,h3,hn,hc⟩ R
  simp only[has]at hh
  have e0:((8:Int)<8)=False:=eq_false (by omega)
  rw[List.drop_of_length_le (Nat.le_of_eq hl8),Pg,Nat.add_zero]at hc
  simp only[↓aj,ak,simprocAttr,aa,hh,h3,e0,fin]
  rw[hc]
  exact .val _ rfl
 ·simp only[has,↓aj,ak,simprocAttr,aa];rfl
 ·simp only[↓aj,ak,simprocAttr,aa]
abbrev uD(x:BitVec 32):D:= .raw (u32 x)
theorem XJ(x y:BitVec 32)(h:uD x=uD y):x=y:=by
 injection h with h
 exact Go.Am.QA.1 h
theorem QT(l:List (BitVec 32))(n:Nat):(us l).drop n=us (l.drop n):=by simp[us]
theorem QU(l:List (BitVec 32))(n:Nat):(us l).take n=us (l.take n):=by simp[us]
theorem bT.us{rows:Rows}{r off len:Nat}{ex:Bool}{l:List (BitVec 32)}(hl:live rows r=some ⟨dk,us l⟩)(hn:off+len≤l.length):bT rows (oo dk uD) (.sl dk r [] off len ex) ((l.drop off).take len):=by
 refine⟨⟨.cF dk (iC.us ((l.drop off).take len)) ex,?_,FW XJ _ ex⟩,fun h=>by simp[aQ]at h⟩
 have:elems rows (.sl dk r [] off len ex)=some (iC.us ((l.drop off).take len)):=by
  simp only[elems,hl,QT,QU]
 have hL:((l.drop off).take len).length=len:=by rw[List.length_take,List.length_drop];omega
 simp only[view]
 rw[this]
 simp only[mN,hL]
 simp[Sh.pure]
theorem TU(l:List (BitVec 32))(i:Nat)(h:i<l.length):jQ (l.take i)++bC l[i]=jQ (l.take (i+1)):=by
 rw[List.take_succ_eq_append_getElem h,jQ,jQ,List.map_append,List.flatten_append]
 simp
noncomputable def fOct:Fn:=lE (oo dk uD) (fun l=>decide (l.length≤1000)) fun l=>ez (jQ l) false
theorem oct_ok(C:be)(hC:aI C P):aO C.aZ P 132 (Fn.run fOct):=by
 refine cr (JG C hC) fun ds rows r h=>?_
 obtain⟨d,l,rfl,rfl,hd,hp,rfl⟩:=a8 h
 obtain⟨e,hx⟩:=wB hd
 simp only[decide_eq_true_eq]at hp
 refine⟨rfl,_,.cons hx .nil,ag rfl ?_⟩
 clear h hd hx
 unfold zV zW
 have hl:(l.map uD).length=l.length:=by rw[List.length_map]
 simp only[↓aj,ak,simprocAttr,aa,hl]
 refine bB l.length (fun i env rows=>has env [(8,.raw (it (i:Int))),(7,.raw (it (l.length:Int))),(6,.cF dk (l.map uD) e)]∧∃d,look env 3=some d∧iK L8 d rows (bs (jQ (l.take i)))) ?_ ?_ ⟨?_,_,?_,.nil⟩
 ·rintro i hi env rows ⟨hh,d,h3,hO⟩ R hR
  simp only[has]at hh
  have e0:((i:Int)<(l.length:Int))=True:=eq_true (by omega)
  have e1:=cE i (by omega)
  have gi:=fun rows k=>J5 (s:=dk) (l:=l.map uD) (i:=i) (by omega) e rows k
  rw[List.getElem_map]at gi
  have hs:=TU l i hi
  generalize l[i]'hi=w at*
  simp only[↓aj,ak,simprocAttr,aa,aX,hh,h3,e0,gi]
  refine iX hO.push (by rw[aC,nC,List.length_take];simp[most];omega) (by rw[aC,nC,List.length_take];simp[most];omega) fun d2 ab F4 oD vS _=>?_
  have hO2:iK L8 d2 ab (bs (jQ (l.take (i+1)))):=by rw[←hs,←nU];exact F4
  simp only[↓aj,ak,simprocAttr,aa,aX,hh,e1]
  exact hR _ _ ⟨by simp only[has,↓aj,ak,simprocAttr,aa,hh],d2,by simp only[↓aj,ak,simprocAttr,aa],hO2⟩
 ·rintro env rows ⟨hh,d,h3,hO⟩ R
  simp only[has]at hh
  have e0:((l.length:Int)<(l.length:Int))=False:=eq_false (by omega)
  rw[List.take_length]at hO
  simp only[↓aj,ak,simprocAttr,aa,hh,h3,e0,hO.mI]
  exact hO.Jl
 ·simp only[has,↓aj,ak,simprocAttr,aa]
 ·simp only[↓aj,ak,simprocAttr,aa]
theorem kOct{rows:Rows}{d:D}{l:List (BitVec 32)}(h:bT rows (oo dk uD) d l)(hl:l.length≤1000)(k:D→Rows→Prop):aJ fOct rows k [d]=k (.sl L8 (0+rows.length) [] 0 (jQ l).length false) (rows++[some ⟨L8,bs (jQ l)⟩]):=by
 refine(cC h (by simp[hl]) rfl k).trans ?_
 simp[ez,shift,ae,Sh.pure]
def jE(c:pU):List (BitVec 8):=jQ ((c.w.drop 9).take 14)
noncomputable def QV:Fn:=lE (b8 qZ) (fun c=>decide (c.ws.length=64)) fun c=>ez (jE c) false
theorem keyc_ok(C:be)(hC:aI C P)(h1:C.fn 76=some Aw)(h2:C.fn 132=some fOct):aO C.aZ P 69 (Fn.run QV):=by
 refine aH (Fp C hC) fun ds rows r h=>?_
 obtain⟨d,c,rfl,rfl,hd,hp,rfl⟩:=a8 h
 cases aF hd
 simp only[decide_eq_true_eq]at hp
 refine⟨rfl,ag rfl ?_⟩
 clear h hd
 unfold vp vq
 have hm:c.w.length=64:=by rw[List.length_map,hp]
 have kA:=fun rows k=>Ix rows k c hp
 rw[jE]
 have hl:((c.w.drop 9).take 14).length≤1000:=by rw[List.length_take];omega
 have kO:=fun ex k=>kOct (bT.us (rows:=[some ⟨dk,us c.w⟩]) (r:=0) (off:=9) (len:=14) (ex:=ex) (l:=c.w) rfl (by omega)) hl k
 have nb:Jm (qZ c) (.raw (.pointer none))=some false:=rfl
 simp only[↓aj,ak,simprocAttr,aa,aX,h1,h2,kA,kO,nb]
 exact .own _ _ 0 _ _ _ _ rfl rfl (fun h=>by cases h)
theorem kKeyC{rows:Rows}{d:D}{c:pU}(h:bT rows (b8 qZ) d c)(hc:c.ws.length=64)(k:D→Rows→Prop):aJ QV rows k [d]=k (.sl L8 (0+rows.length) [] 0 56 false) (rows++[some ⟨L8,bs (jE c)⟩]):=by
 refine(cC h (by simp[hc]) rfl k).trans ?_
 have:(jE c).length=56:=by rw[jE,nC,List.length_take,List.length_drop,List.length_map,hc];rfl
 simp[ez,shift,ae,Sh.pure,this]
theorem XK{rows:Rows}{d:D}{c:pU}(h:bT rows (b8 qZ) d c)(hc:c.ws.length=64)(k:D→Rows→Prop):aJ Iy rows k [d]=k (.raw (it (dH c:Int))) rows:=by
 refine(cC h (by simp[hc]) rfl k).trans ?_
 simp[shift,ae]
theorem kCtr{rows:Rows}{d:D}{c:pU}(h:bT rows (b8 qZ) d c)(hc:c.ws.length=64)(k:D→Rows→Prop):aJ XI rows k [d]=k (.raw (it (iS c:Int))) rows:=by
 refine(cC h (by simp[hc]) rfl k).trans ?_
 simp[shift,ae]
theorem bT.qZ{rows:Rows}(c:pU):bT rows (b8 iC.qZ) (iC.qZ c) c:=⟨⟨_,rfl,bV D9 c⟩,fun _=>bV D9 c⟩
def QW:Fn:=lE dN (fun p=>decide (p.length≤1000)) fun p=>MD (words (p.length/4) p)
theorem numb_ok(C:be)(hC:aI C P):aO C.aZ P 106 (Fn.run QW):=by
 refine cr (JD C hC) fun ds rows r h=>?_
 obtain⟨d,p,rfl,rfl,hd,hp,rfl⟩:=a8 h
 obtain⟨e0,hx⟩:=cy hd
 simp only[decide_eq_true_eq]at hp
 refine⟨rfl,_,.cons hx .nil,ag rfl ?_⟩
 clear h hd hx
 unfold zJ zK
 simp only[↓aj,ak,simprocAttr,aa]
 refine bB (p.length/4) (fun i env rows=>(∃e,look env 0=some (.cF L8 (bs (p.drop (4*i))) e))∧∃d,look env 3=some d∧iK dk d rows (us (words i p))) ?_ ?_ ⟨⟨e0,?_⟩,_,?_,.nil⟩
 ·rintro i hi env rows ⟨⟨e,h0⟩,d,h3,hO⟩ R hR
  have hw:=yE i p
  have hq:4≤(p.drop (4*i)).length:=by rw[List.length_drop];omega
  have hdd:p.drop (4*(i+1))=(p.drop (4*i)).drop 4:=by rw[List.drop_drop];rfl
  have hb:(p.drop (4*i)).length≤1000:=by rw[List.length_drop];omega
  rw[oF _ 4 (Nat.le_refl _)]at hw
  simp only[hdd]at hR
  clear hdd
  generalize p.drop (4*i)=q at*
  have e0:((4:Int)≤((q.length:Nat):Int))=True:=eq_true (by omega)
  have gi:∀j:Nat,j<4→(bs q)[j]?=some (.raw (u8 (q.getD j 0#8))):=fun j hj=>mJ (by omega)
  have g0:=gi 0 (by decide)
  have g1:=gi 1 (by decide)
  have g2:=gi 2 (by decide)
  have g3:=gi 3 (by decide)
  have l0:((0:Int)<((q.length:Nat):Int))=True:=eq_true (by omega)
  have l1:((1:Int)<((q.length:Nat):Int))=True:=eq_true (by omega)
  have l2:((2:Int)<((q.length:Nat):Int))=True:=eq_true (by omega)
  have l3:((3:Int)<((q.length:Nat):Int))=True:=eq_true (by omega)
  have hT:(bs (q.drop 4)).take (q.length-4)=bs (q.drop 4):=List.take_of_length_le (by rw[aC,List.length_drop];omega)
  simp only[↓aj,ak,simprocAttr,aa,aX,h0,h3,aC,e0,g0,g1,g2,g3,l0,l1,l2,l3]
  refine iX hO.push (by rw[mN,eX];simp[most];omega) (by rw[mN,eX];simp[most];omega) fun d2 ab F4 oD vS _=>?_
  have hO2:iK dk d2 ab (us (words (i+1) p)):=by
   rw[hw,←OU];exact F4
  simp only[↓aj,ak,simprocAttr,aa,aX,h0,aC,fw,hT,e0,Int.toNat_natCast]
  exact hR _ _ ⟨⟨_,rfl⟩,d2,by simp only[↓aj,ak,simprocAttr,aa],hO2⟩
 ·rintro env rows ⟨⟨e,h0⟩,d,h3,hO⟩ R
  have e0:((4:Int)≤(((p.drop (4*(p.length/4))).length:Nat):Int))=False:=eq_false (by rw[List.length_drop];omega)
  simp only[↓aj,ak,simprocAttr,aa,h0,h3,aC,e0,hO.mI]
  have:=iK.QM hO rfl
  rw[mN,eX]at this
  rw[MD,eX]
  exact this
 ·simp only[↓aj,ak,simprocAttr,aa]
 ·simp only[↓aj,ak,simprocAttr,aa]
theorem kNumb(rows:Rows)(k:D→Rows→Prop)(d:D)(p:List (BitVec 8))(h:bc rows d p)(hp:p.length≤1000):aJ QW rows k [d]=k (.sl dk (0+rows.length) [] 0 (p.length/4) false) (rows++[some ⟨dk,us (words (p.length/4) p)⟩]):=by
 refine(cC (.bs h) (by simp[hp]) rfl k).trans ?_
 simp[MD,shift,ae,Sh.pure,eX]
theorem bT.usA{rows:Rows}{r n i:Nat}{q:List Nat}{ex:Bool}{row:Row}{l:List (BitVec 32)}(h:live rows r=some row)(hg:cP row.els (i::q)=some (.agg (.ar n dk) (iC.us l)))(hl:l.length=n):bT rows (oo dk uD) (.sl dk r (i::q) 0 n ex) l:=by
 refine⟨⟨.cF dk (iC.us l) ex,?_,FW XJ _ ex⟩,fun h=>by simp[aQ]at h⟩
 have:elems rows (.sl dk r (i::q) 0 n ex)=some (iC.us l):=by
  simp only[elems,h,hg]
  simp[List.take_of_length_le,mN,hl]
 simp only[view]
 rw[this]
 simp only[mN,hl]
 simp[Sh.pure]
abbrev Hp:Sh:= .cons LI (.cons dk .nil)
abbrev Wr:=Nat×BitVec 32
def wrD(p:Wr):D:= .agg Hp [.raw (it (p.1:Int)),.raw (u32 p.2)]
def ME(W:List (BitVec 32))(f:Nat)(l:List (BitVec 32))(i:Nat):List Wr:=
 if W.getD (f+i) 0#32|||l.getD i 0#32=W.getD (f+i) 0#32 then[]else[(f+i,W.getD (f+i) 0#32|||l.getD i 0#32)]
def pE(W:List (BitVec 32))(f:Nat)(l:List (BitVec 32)):Nat→List Wr
 |0=>[]
 |n+1=>pE W f l n++ME W f l n
def iT(W:List (BitVec 32))(f:Nat)(l:List (BitVec 32)):List Wr:=pE W f l l.length
theorem si(W:List (BitVec 32))(f:Nat)(l:List (BitVec 32)):∀n,(pE W f l n).length≤n
 |0=>Nat.le_refl _
 |n+1=>by
  have:=si W f l n
  rw[pE,List.length_append,ME]
  split<;>simp<;>omega
def MF(l:List Wr):D×Rows:=(.sl Hp 0 [] 0 l.length false,[some ⟨Hp,l.map wrD⟩])
noncomputable def Iz:Fn:=G2 (b8 qZ) rC (oo dk uD) (fun c f l=>decide (c.ws.length=64)&&decide (0≤f)&&decide (f+l.length≤64)) fun c f l=>MF (iT c.w f.toNat l)
theorem plan_ok(C:be)(hC:aI C P)(h1:C.fn 76=some Aw):aO C.aZ P 107 (Fn.run Iz):=by
 refine cr (Dw C hC) fun ds rows r h=>?_
 obtain⟨d0,d1,d2,c,f0,l,rfl,rfl,hd,he,hf,hp,rfl⟩:=fq h
 cases aF hd
 cases bX he
 obtain⟨e,hx⟩:=wB hf
 simp only[Bool.and_eq_true,decide_eq_true_eq]at hp
 obtain⟨⟨hc,hf0⟩,hl⟩:=hp
 obtain⟨f,rfl⟩:=Int.eq_ofNat_of_zero_le hf0
 refine⟨rfl,_,.cons (.refl _) (.cons (.refl _) (.cons hx .nil)),ag rfl ?_⟩
 clear h hd he hf hx
 unfold tR tS
 have hm:c.w.length=64:=by rw[List.length_map,hc]
 have kA:=fun rows k=>Ix rows k c hc
 have hle:(l.map uD).length=l.length:=List.length_map ..
 rw[iT,Int.toNat_natCast]
 have g0:=fun i (hi:f+i<64)=>ku (l:=c.w) (i:=f+i) (by omega)
 simp only[↓aj,ak,simprocAttr,aa,hle]
 refine bB l.length (fun i env rows=>has env [(13,.raw (it (i:Int))),(12,.raw (it (l.length:Int))),(11,.cF dk (l.map uD) e),(1,.raw (it (f:Int))),(0,qZ c)]∧∃d,look env 7=some d∧iK Hp d rows ((pE c.w f l i).map wrD)) ?_ ?_ ⟨?_,_,?_,.nil⟩
 ·rintro i hi env rows ⟨hh,d,h7,hO⟩ R hR
  simp only[has]at hh
  have e0:((i:Int)<(l.length:Int))=True:=eq_true (by omega)
  have e1:=cE i (by omega)
  have e2:wz ((f:Int)+(i:Int))=((f+i:Nat):Int):=by rw[bf (by omega)];omega
  have e3:(((f+i:Nat):Int)<64)=True:=eq_true (by omega)
  have gi:=fun rows k=>J5 (s:=dk) (l:=l.map uD) (i:=i) (by omega) e rows k
  have gx:(l.map uD)[i]'(by omega)= .raw (u32 (l.getD i 0#32)):=by simp[List.getD,hi]
  rw[gx]at gi
  have g1:=g0 i (by omega)
  have sO:=si c.w f l i
  have hps:pE c.w f l (i+1)=pE c.w f l i++ME c.w f l i:=rfl
  rw[ME]at hps
  generalize l.getD i 0#32=v at*
  generalize c.w.getD (f+i) 0#32=o at*
  by_cases hv:o|||v=o
  ·have kU:(o|||v=o)=True:=eq_true hv
   rw[if_pos hv,List.append_nil]at hps
   simp only[↓aj,ak,simprocAttr,aa,aX,hh,h7,e0,e1,e2,e3,gi,h1,kA,g1,kU,Int.natCast_nonneg,Int.toNat_natCast,decide_true]
   exact hR _ _ ⟨by simp only[has,↓aj,ak,simprocAttr,aa,hh],d,by simp only[↓aj,ak,simprocAttr,aa,h7],by rw[hps];exact hO.push⟩
  ·have kU:(o|||v=o)=False:=eq_false hv
   rw[if_neg hv]at hps
   simp only[↓aj,ak,simprocAttr,aa,aX,hh,h7,e0,e1,e2,e3,gi,h1,kA,g1,kU,Int.natCast_nonneg,Int.toNat_natCast,decide_false]
   refine iX hO.push (by rw[List.length_map];simp[most];omega) (by rw[List.length_map];simp[most];omega) fun d2 ab F4 oD vS _=>?_
   simp only[↓aj,ak,simprocAttr,aa,aX,hh,e1]
   exact hR _ _ ⟨by simp only[has,↓aj,ak,simprocAttr,aa,hh],d2,by simp only[↓aj,ak,simprocAttr,aa],by rw[hps,List.map_append];exact F4⟩
 ·rintro env rows ⟨hh,d,h7,hO⟩ R
  simp only[has]at hh
  have e0:((l.length:Int)<(l.length:Int))=False:=eq_false (by omega)
  simp only[↓aj,ak,simprocAttr,aa,hh,h7,e0,hO.mI]
  have:=iK.QM hO rfl
  rw[List.length_map]at this
  exact this
 ·simp only[has,↓aj,ak,simprocAttr,aa]
 ·simp only[↓aj,ak,simprocAttr,aa]
theorem XL{rows:Rows}{d:D}(c:pU)(f:Nat)(fi:Int)(hf:fi=(f:Int)){l:List (BitVec 32)}(h:bT rows (oo dk uD) d l)(hc:c.ws.length=64)(hl:f+l.length≤64)(k:D→Rows→Prop):
  aJ Iz rows k [qZ c,.raw (it fi),d]=k (.sl Hp (0+rows.length) [] 0 (iT c.w f l).length false) (rows++[some ⟨Hp,(iT c.w f l).map wrD⟩]):=by
 subst hf
 refine(fT (.qZ c) (.int _) h (by simp[hc];omega) rfl k).trans ?_
 simp[MF,shift,ae,Sh.pure]
noncomputable def Ea:Fn:=wS (b8 qZ) rC (fun c n=>decide (c.ws.length=64)&&decide (1≤n)&&decide (n≤4)&&decide ((dH c:Int)<n)) fun c n=>
 (.cA [.sl Hp 0 [] 0 (iT c.w 0 [255#32<<<(8*(n.toNat-1))]).length false,.raw (it 0)],(MF (iT c.w 0 [255#32<<<(8*(n.toNat-1))])).2)
theorem TV(C:be)(hC:aI C P)(h1:C.fn 71=some Iy)(h2:C.fn 107=some Iz):aO C.aZ P 49 (Fn.run Ea):=by
 refine aH (zA C hC) fun ds rows r h=>?_
 obtain⟨d,e,c,n,rfl,rfl,hd,he,hp,rfl⟩:=dq h
 cases aF hd
 cases bX he
 simp only[Bool.and_eq_true,decide_eq_true_eq]at hp
 obtain⟨⟨⟨hc,hn1⟩,Ph⟩,hl⟩:=hp
 obtain⟨m,rfl⟩:∃m:Nat,n=((m+1:Nat):Int):=⟨n.toNat-1,by omega⟩
 refine⟨rfl,ag rfl ?_⟩
 clear h hd he
 unfold qp qq
 have nb:Jm (qZ c) (.raw (.pointer none))=some false:=rfl
 have kL:=fun rows k=>XK (.qZ (rows:=rows) c) hc k
 have e1:(((m+1:Nat):Int)<1)=False:=eq_false (by omega)
 have e2:((4:Int)<((m+1:Nat):Int))=False:=eq_false (by omega)
 have e3:(((m+1:Nat):Int)≤(dH c:Int))=False:=eq_false (by omega)
 have e4:wz (((m+1:Nat):Int)-1)=(m:Int):=by rw[bf (by omega)];omega
 have e5:wz (8*(m:Int))=((8*m:Nat):Int):=by rw[bf (by omega)];omega
 have kP:=fun k=>XL (rows:=[some ⟨dk,us [255#32<<<(8*m)]⟩]) (d:= .sl dk 0 [] 0 1 true) c 0 0 rfl (l:=[255#32<<<(8*m)]) (bT.us (l:=[255#32<<<(8*m)]) rfl (by simp)) hc (by simp) k
 simp only[us,List.map_cons,List.map_nil]at kP
 simp only[Int.toNat_natCast,Nat.add_sub_cancel]
 simp only[↓aj,ak,simprocAttr,aa,aX,nb,h1,h2,kL,e1,e2,e3,e4,e5,kP,Int.natCast_nonneg,Int.toNat_natCast]
 exact .G9 _ _ _ _ _ _ _ _ rfl rfl rfl (fun h=>by cases h)
theorem kToLife{rows:Rows}{d:D}{c:pU}(h:bT rows (b8 qZ) d c)(hc:c.ws.length=64)(m:Nat)(hm:m<4)(hl:dH c≤m)(k:D→Rows→Prop):
  aJ Ea rows k [d,.raw (it ((m+1:Nat):Int))]=k (.cA [.sl Hp (0+rows.length) [] 0 (iT c.w 0 [255#32<<<(8*m)]).length false,.raw (it 0)]) (rows++[some ⟨Hp,(iT c.w 0 [255#32<<<(8*m)]).map wrD⟩]):=by
 refine(jB h (.int _) (by simp[hc];omega) rfl k).trans ?_
 simp[MF,shift,bh,ae,Sh.pure]
def p9(n:Nat):List (BitVec 32):=(List.range 8).map fun j=>BitVec.ofNat 32 (2^(min (n-32*j) 32)-1)
noncomputable def J6:Fn:=wS (b8 qZ) rC (fun c n=>decide (c.ws.length=64)&&decide (0≤n)&&decide (n≤255)&&decide ((iS c:Int)≤n)) fun c n=>
 (.cA [.sl Hp 0 [] 0 (iT c.w 1 (p9 n.toNat)).length false,.raw (it 0)],(MF (iT c.w 1 (p9 n.toNat))).2)
theorem iz(n:Nat):(p9 n).length=8:=by simp[p9]
theorem TW:∀n,n<256→(p9 n).set (n/32) ((p9 n).getD (n/32) 0#32|||1#32<<<(n %32))=p9 (n+1):=by decide
theorem XM(C:be)(hC:aI C P)(h1:C.fn 26=some XI)(h2:C.fn 107=some Iz):aO C.aZ P 48 (Fn.run J6):=by
 refine aH (vk C hC) fun ds rows r h=>?_
 obtain⟨d,e,c,n,rfl,rfl,hd,he,hp,rfl⟩:=dq h
 cases aF hd
 cases bX he
 simp only[Bool.and_eq_true,decide_eq_true_eq]at hp
 obtain⟨⟨⟨hc,hn1⟩,Ph⟩,hl⟩:=hp
 obtain⟨m,rfl⟩:=Int.eq_ofNat_of_zero_le hn1
 refine⟨rfl,ag rfl ?_⟩
 clear h hd he
 unfold ny nz
 have nb:Jm (qZ c) (.raw (.pointer none))=some false:=rfl
 have kL:=fun rows k=>kCtr (.qZ (rows:=rows) c) hc k
 have e1:((m:Int)<0)=False:=eq_false (by omega)
 have e2:((255:Int)<(m:Int))=False:=eq_false (by omega)
 have e3:((m:Int)<(iS c:Int))=False:=eq_false (by omega)
 have hz:List.replicate 8 (D.raw (u32 0#32))=us (p9 0):=rfl
 rw[Int.toNat_natCast]
 simp only[hz]
 simp only[↓aj,ak,simprocAttr,aa,aX,nb,h1,kL,e1,e2,e3]
 refine bB m (fun i env rows=>has env [(24,.raw (it (i:Int))),(23,.raw (it (m:Int))),(6,.ptr (.ar 8 dk) 0 [0]),(0,qZ c)]∧rows=[some ⟨.ar 8 dk,[.agg (.ar 8 dk) (us (p9 i))]⟩]) ?_ ?_ ⟨?_,rfl⟩
 ·rintro i hi env rows ⟨hh,rfl⟩ R hR
  simp only[has]at hh
  have e0:((i:Int)<(m:Int))=True:=eq_true (by omega)
  have e1:=cE i (by omega)
  have e2:wz (Int.tdiv (i:Int) 32)=((i/32:Nat):Int):=tdivN i 32 (by omega)
  have e3:Int.tmod (i:Int) 32=((i %32:Nat):Int):=rfl
  have e4:(((i/32:Nat):Int)<8)=True:=eq_true (by omega)
  have g:=ku (l:=p9 i) (i:=i/32) (by rw[iz];omega)
  have hs:=TW i (by omega)
  simp only[↓aj,ak,simprocAttr,aa,aX,hh,e0,e1,e2,e3,e4,g,JN,hs,Int.natCast_nonneg,Int.toNat_natCast]
  exact hR _ _ ⟨by simp only[has,↓aj,ak,simprocAttr,aa,hh],rfl⟩
 ·rintro env rows ⟨hh,rfl⟩ R
  simp only[has]at hh
  have e0:((m:Int)<(m:Int))=False:=eq_false (by omega)
  have kP:=fun ex k=>XL (rows:=[some ⟨.ar 8 dk,[.agg (.ar 8 dk) (us (p9 m))]⟩]) (d:= .sl dk 0 [0] 0 8 ex) c 1 1 rfl (l:=p9 m) (bT.usA (n:=8) rfl rfl (iz m)) hc (by rw[iz];decide) k
  simp only[↓aj,ak,simprocAttr,aa,aX,hh,e0,h2,kP]
  exact .G9 _ _ _ _ _ _ _ _ rfl rfl rfl (fun h=>by cases h)
 ·simp only[has,↓aj,ak,simprocAttr,aa]
theorem kToCtr{rows:Rows}{d:D}{c:pU}(h:bT rows (b8 qZ) d c)(hc:c.ws.length=64)(m:Nat)(hm:m≤255)(hl:iS c≤m)(k:D→Rows→Prop):
  aJ J6 rows k [d,.raw (it (m:Int))]=k (.cA [.sl Hp (0+rows.length) [] 0 (iT c.w 1 (p9 m)).length false,.raw (it 0)]) (rows++[some ⟨Hp,(iT c.w 1 (p9 m)).map wrD⟩]):=by
 refine(jB h (.int _) (by simp[hc];omega) rfl k).trans ?_
 simp[MF,shift,bh,ae,Sh.pure]
def idL:List (BitVec 8):=2#8::List.replicate 15 0#8
noncomputable def J7:Fn:=G2 (b8 qZ) dN (b8 xN) (fun c p n=>decide (c.ws.length=64)&&decide (p.length=56)&&decide (n.length=16)&&decide (dH c=0)&&(c.w.drop 9).all fun w=>decide (w=0#32)) fun c p n=>
 (.cA [.sl Hp 0 [] 0 (iT c.w 9 (words 14 p++words 4 n)).length false,.raw (it 0)],(MF (iT c.w 9 (words 14 p++words 4 n))).2)
theorem XN(C:be)(hC:aI C P)(h0:C.fn 76=some Aw)(h1:C.fn 71=some Iy)(h2:C.fn 107=some Iz)(h3:C.fn 106=some QW):aO C.aZ P 46 (Fn.run J7):=by
 refine cr (Bp C hC) fun ds rows r h=>?_
 obtain⟨d0,d1,d2,c,p,n,rfl,rfl,hd,he,hf,hp,rfl⟩:=fq h
 cases aF hd
 cases aF hf
 obtain⟨e,hx⟩:=cy he
 simp only[Bool.and_eq_true,decide_eq_true_eq]at hp
 obtain⟨⟨⟨⟨hc,hp56⟩,hn⟩,hl⟩,hz⟩:=hp
 refine⟨rfl,_,.cons (.refl _) (.cons hx (.cons (.refl _) .nil)),ag rfl ?_⟩
 clear h hd he hf hx
 unfold rM rO
 have nb:Jm (qZ c) (.raw (.pointer none))=some false:=rfl
 have hm:c.w.length=64:=by rw[List.length_map,hc]
 have kA:=fun rows k=>Ix rows k c hc
 have kL:=fun rows k=>XK (.qZ (rows:=rows) c) hc k
 rw[hl]at kL
 have w14:=eX 14 p
 have w4:=eX 4 n
 have kN1:=fun rows k=>kNumb rows k (.cF L8 (bs p) e) p (ec.to (.inr ⟨e,rfl⟩)) (by omega)
 have kN2:=fun ex k=>kNumb [some ⟨.ar 16 L8,[.agg (.ar 16 L8) (bs n)]⟩,some ⟨dk,us (words 14 p)⟩] k (.sl L8 0 [0] 0 16 ex) n (bc.r9 (n:=16) rfl rfl hn) (by omega)
 rw[hp56]at kN1
 rw[hn]at kN2
 have hsr:(us (words 4 n)).take 4=us (words 4 n):=List.take_of_length_le (by rw[mN,w4];exact Nat.le_refl _)
 have hu4:(us (words 4 n)).length=4:=by rw[mN,w4]
 have hu14:(us (words 14 p)).take 14=us (words 14 p):=List.take_of_length_le (by rw[mN,w14];exact Nat.le_refl _)
 have hv14:(us (words 14 p)).length=14:=by rw[mN,w14]
 have hwl:(words 14 p++words 4 n).length=18:=by rw[List.length_append,w14,w4]
 have hW:∀i,i<18→(us c.w)[9+i]?=some (.raw (u32 0#32)):=fun i hi=>by
  have h2:(c.w.drop 9)[i]'(by rw[List.length_drop];omega)=0#32:=of_decide_eq_true (List.all_eq_true.1 hz _ (List.getElem_mem _))
  rw[ku (by omega),List.getD_eq_getElem?_getD,List.getElem?_eq_getElem (by omega)]
  rw[List.getElem_drop]at h2
  simp[h2]
 simp only[xN,↓aj,ak,simprocAttr,aa,aX,nb,h1,kL,hp56,aC,h3,kN1,kN2,hsr,hu4,hu14,hv14]
 rw[OU]
 generalize words 14 p++words 4 n=l at*
 refine bB 18 (fun i env rows=>has env [(29,.raw (it (i:Int))),(28,.raw (it 18)),(27,.sl dk 3 [] 0 18 false),(8,.sl dk 3 [] 0 18 false),(0,qZ c)]∧live rows 3=some ⟨dk,us l⟩) ?_ ?_ ⟨?_,rfl⟩
 ·rintro i hi env rows ⟨hh,hq⟩ R hR
  simp only[has]at hh
  have e0:((i:Int)<18)=True:=eq_true (by omega)
  have e1:=cE i (by omega)
  have e2:wz (9+(i:Int))=((9+i:Nat):Int):=by rw[bf (by omega)];omega
  have e3:(((9+i:Nat):Int)<64)=True:=eq_true (by omega)
  have g:=ku (l:=l) (i:=i) (by omega)
  have g2:=hW i hi
  have z:∀v:BitVec 32,0#32&&&~~~v=0#32:=fun v=>BitVec.zero_and
  simp only[↓aj,ak,simprocAttr,aa,aX,hh,hq,e0,e1,e2,e3,g,g2,z,h0,kA,Int.natCast_nonneg,Int.toNat_natCast]
  exact hR _ _ ⟨by simp only[has,↓aj,ak,simprocAttr,aa,hh],aA hq _⟩
 ·rintro env rows ⟨hh,hq⟩ R
  simp only[has]at hh
  have e0:((18:Int)<18)=False:=eq_false (by omega)
  have hr:=bT.us (rows:=rows) (r:=3) (off:=0) (len:=18) (ex:=false) hq (by omega)
  rw[List.drop_zero,List.take_of_length_le (by omega)]at hr
  have kP:=fun k=>XL c 9 9 rfl hr hc (by omega) k
  simp only[↓aj,ak,simprocAttr,aa,aX,hh,e0,h2,kP]
  exact .G9 _ _ _ _ _ _ _ _ (by rw[b6];rfl) rfl rfl (fun h=>by cases h)
 ·simp only[has,↓aj,ak,simprocAttr,aa]
theorem kToKey{rows:Rows}{d e:D}{c:pU}{p:List (BitVec 8)}(h:bT rows (b8 qZ) d c)(hc:c.ws.length=64)(hb:bc rows e p)(hp:p.length=56)(hl:dH c=0)(hz:∀w∈c.w.drop 9,w=0#32)(k:D→Rows→Prop):
  aJ J7 rows k [d,e,.agg (.ar 16 L8) (bs idL)]=k (.cA [.sl Hp (0+rows.length) [] 0 (iT c.w 9 (words 14 p++words 4 idL)).length false,.raw (it 0)]) (rows++[some ⟨Hp,(iT c.w 9 (words 14 p++words 4 idL)).map wrD⟩]):=by
 refine(fT h (.bs hb) (D6 idL) (by simp[hc,hp,hl,idL];simpa using hz) rfl k).trans ?_
 simp[MF,shift,bh,ae,Sh.pure]
end iC
end Go.Am


import Derived.Test.YtgcejocgnfkciaaGreatDoorKc20
namespace Go.Am
set_option linter.unusedSimpArgs false
set_option linter.unusedVariables false
attribute [local congr] cd bt cg bu bw bO bg bx bz bP a7 bQ bA b9
namespace iC
open Go.Am.F
set_option maxRecDepth 10000
structure sv (rows:Rows) (q a w:Nat) (c:pU):Prop where
 ch:live rows q=some ⟨Pf,[.agg Pf [.ptr G3 a [0],.raw (.bool c.s)]]⟩
 ar:live rows a=some ⟨G3,[.agg G3 [.sl AX w [] 0 64 c.e]]⟩
 dat:live rows w=some ⟨AX,c.ws.map AY⟩
 len:c.ws.length=64
theorem sv.keep{rows ab:Rows}{q a w:Nat}{c:pU}(h:sv rows q a w c)(f:∀p row,live rows p=some row→(p=q∨p=a∨p=w)→live ab p=some row):sv ab q a w c:=
 ⟨f _ _ h.ch (.inl rfl),f _ _ h.ar (.inr (.inl rfl)),f _ _ h.dat (.inr (.inr rfl)),h.len⟩
theorem sv.push{rows:Rows}{q a w:Nat}{c:pU}(h:sv rows q a w c)(L:Rows):sv (rows++L) q a w c:=h.keep fun _ _ hq _=>bJ hq
theorem ar_view{rows:Rows}{a w:Nat}{x:List Wd}{e:Bool}(h1:live rows a=some ⟨G3,[.agg G3 [.sl AX w [] 0 64 e]]⟩)(h2:live rows w=some ⟨AX,x.map AY⟩)(hl:x.length=64)(n:Nat):view rows (n+3) (.ptr G3 a [0])=some (XG (x,e)):=by
 have he:elems rows (.sl AX w [] 0 64 e)=some (x.map AY):=by
  simp only[elems,h2]
  simp[List.take_of_length_le,hl]
 simp only[view,h1,cP,List.getElem?_cons_zero,D.get,Sh.pure,cW]
 rw[he]
 simp[cW,he,hl,XG,Z6]
theorem sv.rd{rows:Rows}{q a w:Nat}{c:pU}(h:sv rows q a w c):bT rows (b8 qZ) (.ptr Pf q [0]) c:=by
 refine⟨⟨qZ c,?_,bV D9 c⟩,fun h=>by simp[aQ]at h⟩
 have he:elems rows (.sl AX w [] 0 64 c.e)=some (c.ws.map AY):=by
  simp only[elems,h.dat]
  simp[List.take_of_length_le,h.len]
 simp only[view,h.ch,h.ar,cP,List.getElem?_cons_zero,D.get,Sh.pure,cW,Bool.and_false,Bool.and_true,cond_false,Bool.false_and]
 rw[he]
 simp[cW,he,h.len,qZ,Z6]
theorem X5{rows:Rows}{a w:Nat}{x:List Wd}{e:Bool}(h1:live rows a=some ⟨G3,[.agg G3 [.sl AX w [] 0 64 e]]⟩)(h2:live rows w=some ⟨AX,x.map AY⟩)(hl:x.length=64):bT rows (b8 XG) (.ptr G3 a [0]) (x,e):=
 ⟨⟨_,ar_view h1 h2 hl 6,bV QR _⟩,fun h=>by simp[aQ]at h⟩
noncomputable def qF:Fn:=wS (b8 XG) rC (fun x i=>decide (x.1.length=64)&&decide (0≤i)&&decide (i<64)) fun _ _=>(.raw (it 0),[])
theorem Ub(C:be)(hC:aI C P):aO C.aZ P 189 (Fn.run qF):=by
 refine aH (yB C hC) fun ds rows r h=>?_
 obtain⟨d,e,⟨x,e⟩,i,rfl,rfl,hd,he,hp,rfl⟩:=dq h
 cases aF hd
 cases bX he
 simp only[Bool.and_eq_true,decide_eq_true_eq]at hp
 obtain⟨⟨hl,h0⟩,h1⟩:=hp
 refine⟨rfl,ag rfl ?_⟩
 clear h hd he
 unfold pq pw
 have e1:(i<0)=False:=eq_false (by omega)
 have e2:((64:Int)≤i)=False:=eq_false (by omega)
 have mh:(x.map AY).length=64:=by rw[List.length_map,hl]
 simp only[XG,Z6,↓aj,ak,simprocAttr,aa,e1,e2,mh]
 exact .val _ rfl
theorem Q5{rows:Rows}{d:D}{x:List Wd×Bool}(h:bT rows (b8 XG) d x)(hl:x.1.length=64)(i:Nat)(hi:i<64)(k:D→Rows→Prop):aJ qF rows k [d,.raw (it (i:Int))]=k (.raw (it 0)) rows:=by
 refine(jB h (.int _) (by simp[hl];omega) rfl k).trans ?_
 simp[shift,ae]
theorem X6{x:List Wd}{i:Nat}(h:i<x.length):(x.map AY)[i]?=some (.agg AX [.raw (u32 x[i].1),.raw (.bool x[i].2)]):=by
 simp[h,AY]
theorem X7(x:List Wd)(i:Nat)(v:BitVec 32)(l:Bool):(x.map AY).set i (.agg AX [.raw (u32 v),.raw (.bool l)])=(x.set i (v,l)).map AY:=by
 rw[List.map_set];rfl
theorem cut_run(C:be){rows:Rows}{a w:Nat}{x:List Wd}{e:Bool}(h1:live rows a=some ⟨G3,[.agg G3 [.sl AX w [] 0 64 e]]⟩)(h2:live rows w=some ⟨AX,x.map AY⟩)(hl:x.length=64){i:Nat}(hi:i<x.length){v g:BitVec 32}
  (hok:x[i].1&&&~~~v=0#32)(hT:C.fn 189=some qF){K:D→Rows→Prop}(hk:K (.raw (it 0)) (rows.set w (some ⟨AX,(x.set i (x[i].1|||v&&&g,x[i].2)).map AY⟩))):
  aR C 4 iq ik [.ptr G3 a [0],.raw (it (i:Int)),.raw (u32 v),.raw (u32 g)] rows K:=by
 refine ag rfl ?_
 unfold ik iq
 have kT:=fun k=>Q5 (X5 h1 h2 hl) hl i (by omega) k
 have e1:((i:Int)<64)=True:=eq_true (by omega)
 have g1:=X6 hi
 simp only[↓aj,ak,simprocAttr,aa,hT,kT,h1,h2,e1,g1,X7,hok,Int.natCast_nonneg,Int.toNat_natCast]
 exact hk
def jK(x:List Wd)(l:List Wr):Nat→List Wd
 |0=>x
 | n + 1 => match l[n]? with
  |some p=>match(jK x l n)[p.1]? with
   |some o=>(jK x l n).set p.1 (o.1|||p.2,o.2)
   |none=>jK x l n
  |none=>jK x l n
theorem ID(x:List Wd)(l:List Wr):∀n,(jK x l n).length=x.length
 |0=>rfl
 | n + 1 => by
  have ih:=ID x l n
  rw[jK]
  split
  ·split
   ·rw[List.length_set,ih]
   ·exact ih
  ·exact ih
def Pr(x:List Wd)(l:List Wr):Prop:=∀j p,l[j]?=some p→∃o,(jK x l j)[p.1]?=some o∧o.1&&&~~~p.2=0#32
structure PrgC (C2 C1 C:be):Prop where
 th:C2.fn 189=some qF
 n1:C1.fn 165=none
 r1:C1.fU 165=some (aR C2 4 iq ik)
 n0:C.fn 108=none
 r0:C.fU 108=some (aR C1 3 fm fk)
theorem X8(v:BitVec 32):v&&&4294967295#32=v:=BitVec.and_allOnes
theorem prg_run(C C1 C2:be)(H:PrgC C2 C1 C){rows:Rows}{a w:Nat}{x:List Wd}{e:Bool}(h1:live rows a=some ⟨G3,[.agg G3 [.sl AX w [] 0 64 e]]⟩)(h2:live rows w=some ⟨AX,x.map AY⟩)(hl:x.length=64){i:Nat}(hi:i<x.length){v:BitVec 32}
  (hok:x[i].1&&&~~~v=0#32){K:D→Rows→Prop}(hk:K (.raw (it 0)) (rows.set w (some ⟨AX,(x.set i (x[i].1|||v,x[i].2)).map AY⟩))):
  aR C1 3 fm fk [.ptr G3 a [0],.raw (it (i:Int)),.raw (u32 v)] rows K:=by
 refine ag rfl ?_
 unfold fk fm
 simp only[↓aj,ak,simprocAttr,aa,H.n1,H.r1]
 refine cut_run C2 (e:=e) h1 h2 hl hi hok H.th ?_
 rw[X8]
 simp only[↓aj,ak,simprocAttr,aa]
 exact hk
theorem Ke(C C1 C2:be)(H:PrgC C2 C1 C){rows:Rows}{q a w ro n:Nat}{ex:Bool}{c:pU}{l:List Wr}(hc:sv rows q a w c)(hr:live rows ro=some ⟨Hp,l.map wrD⟩)(hn:l.length=n)(hn2:n≤1000)(hok:Pr c.ws l){K:D→Rows→Prop}
  (hk:∀ab,sv ab q a w ⟨jK c.ws l l.length,c.e,c.s⟩→(∀p row,live rows p=some row→p≠w→live ab p=some row)→K (.raw (it 0)) ab):
  aR C 2 jW jV [.ptr Pf q [0],.sl Hp ro [] 0 n ex] rows K:=by
 subst hn
 refine ag rfl ?_
 unfold jV jW
 have ne:ro≠w:=fun e=>by rw[e,hc.dat]at hr;cases hr
 have nq:q≠w:=fun e=>by have:=hc.ch;rw[e,hc.dat]at this;cases this
 have na:a≠w:=fun e=>by have:=hc.ar;rw[e,hc.dat]at this;cases this
 simp only[↓aj,ak,simprocAttr,aa]
 refine bB l.length (fun j env rs=>has env [(12,.raw (it (j:Int))),(11,.raw (it (l.length:Int))),(10,.sl Hp ro [] 0 l.length ex),(0,.ptr Pf q [0])]∧sv rs q a w ⟨jK c.ws l j,c.e,c.s⟩∧∀p row,live rows p=some row→p≠w→live rs p=some row) ?_ ?_ ⟨?_,hc,fun p row h _=>h⟩
 ·rintro j hj env rs ⟨hh,hC,hf⟩ R hR
  simp only[has]at hh
  have e0:((j:Int)<(l.length:Int))=True:=eq_true (by omega)
  have e1:=cE j (by omega)
  have hl:=hf _ _ hr ne
  have g:(l.map wrD)[j]?=some (.agg Hp [.raw (it (l[j].1:Int)),.raw (u32 l[j].2)]):=by simp[hj,wrD]
  obtain⟨o,ho,hz⟩:=hok j l[j] (List.getElem?_eq_getElem hj)
  have hs:jK c.ws l (j+1)=(jK c.ws l j).set l[j].1 (o.1|||l[j].2,o.2):=by
   rw[jK,List.getElem?_eq_getElem hj]
   simp only[ho]
  generalize l[j]=p at*
  have hC1:=hC.ch
  have hCa:=hC.ar
  have hC1':=fun L=>aA hC1 L
  simp only[↓aj,ak,simprocAttr,aa,aX,hh,hl,g,e0,hC1',H.n0,H.r0,Int.natCast_nonneg,Int.toNat_natCast]
  obtain⟨hlt,rfl⟩:=List.getElem?_eq_some_iff.1 ho
  refine prg_run C C1 C2 H (e:=c.e) (aA hCa _) (aA hC.dat _) hC.len hlt hz ?_
  rw[←hs]
  simp only[↓aj,ak,simprocAttr,aa,aX,hh,e1]
  have hdat:=aA hC.dat [some ⟨Hp,[.agg Hp [.raw (it (p.1:Int)),.raw (u32 p.2)]]⟩]
  refine hR _ _ ⟨by simp only[has,↓aj,ak,simprocAttr,aa,hh],⟨cK (aA hC1 _) (Ne.symm nq),cK (aA hCa _) (Ne.symm na),aG hdat,?_⟩,fun p row h hp=>cK (aA (hf p row h hp) _) (Ne.symm hp)⟩
  rw[ID];exact hc.len
 ·rintro env rs ⟨hh,hC,hf⟩ R
  simp only[has]at hh
  have e0:((l.length:Int)<(l.length:Int))=False:=eq_false (by omega)
  simp only[↓aj,ak,simprocAttr,aa,hh,e0]
  exact hk rs hC hf
 ·simp only[has,↓aj,ak,simprocAttr,aa]
theorem X9(C:be){rows:Rows}{a w:Nat}{x:List Wd}{e:Bool}(h1:live rows a=some ⟨G3,[.agg G3 [.sl AX w [] 0 64 e]]⟩)(h2:live rows w=some ⟨AX,x.map AY⟩)(hl:x.length=64){i:Nat}(hi:i<x.length)
  (hT:C.fn 189=some qF){K:D→Rows→Prop}(hk:K (.raw (it 0)) (rows.set w (some ⟨AX,(x.set i (x[i].1,true)).map AY⟩))):
  aR C 2 fy fx [.ptr G3 a [0],.raw (it (i:Int))] rows K:=by
 refine ag rfl ?_
 unfold fx fy
 have kT:=fun k=>Q5 (X5 h1 h2 hl) hl i (by omega) k
 have e1:((i:Int)<64)=True:=eq_true (by omega)
 have g1:=X6 hi
 simp only[↓aj,ak,simprocAttr,aa,hT,kT,h1,h2,e1,g1,X7,Int.natCast_nonneg,Int.toNat_natCast]
 exact hk
theorem Ya(C C1:be)(hT:C1.fn 189=some qF)(n0:C.fn 200=none)(r0:C.fU 200=some (aR C1 2 fy fx)){rows:Rows}{q a w:Nat}{c:pU}(hc:sv rows q a w c){K:D→Rows→Prop}
  (hk:∀ab c',sv ab q a w c'→c'.w=c.w→(∀p row,live rows p=some row→p≠q→p≠w→live ab p=some row)→K (.cA []) ab):
  aR C 1 iN iM [.ptr Pf q [0]] rows K:=by
 refine ag rfl ?_
 unfold iM iN
 have nq:q≠w:=fun e=>by have:=hc.ch;rw[e,hc.dat]at this;cases this
 have na:a≠w:=fun e=>by have:=hc.ar;rw[e,hc.dat]at this;cases this
 have nqa:q≠a:=fun e=>by have:=hc.ch;rw[e,hc.ar]at this;cases this
 have h1:=hc.ch
 simp only[↓aj,ak,simprocAttr,aa,h1]
 refine bB 36 (fun j env rs=>has env [(2,.raw (it ((27+j:Nat):Int))),(0,.ptr Pf q [0])]∧∃c',sv rs q a w c'∧c'.w=c.w∧∀p row,live rows p=some row→p≠q→p≠w→live rs p=some row) ?_ ?_ ⟨?_,⟨c.ws,c.e,true⟩,⟨aG h1,cK hc.ar nqa,cK hc.dat nq,hc.len⟩,rfl,fun p row h hq _=>cK h (Ne.symm hq)⟩
 ·rintro j hj env rs ⟨hh,c',hC,hw,hf⟩ R hR
  simp only[has]at hh
  have e0:(((27+j:Nat):Int)<63)=True:=eq_true (by omega)
  have e1:=cE (27+j) (by omega)
  have hC1:=hC.ch
  have hl:=hC.len
  simp only[↓aj,ak,simprocAttr,aa,hh,hC1,e0,n0,r0]
  refine X9 C1 hC.ar hC.dat hC.len (i:=27+j) (by omega) hT ?_
  simp only[↓aj,ak,simprocAttr,aa,hh,e1]
  refine hR _ _ ⟨by simp only[has,↓aj,ak,simprocAttr,aa,hh];rfl,⟨c'.ws.set (27+j) ((c'.ws[27+j]'(by omega)).1,true),c'.e,c'.s⟩,⟨cK hC1 (Ne.symm nq),cK hC.ar (Ne.symm na),aG hC.dat,by rw[List.length_set];exact hl⟩,?_,fun p row h hq hp=>cK (hf p row h hq hp) (Ne.symm hp)⟩
  rw[←hw]
  show List.map _ (List.set _ _ _)=_
  rw[List.map_set]
  have Dn:27+j<(c'.ws.map (·.1)).length:=by rw[List.length_map];omega
  have:(c'.ws.map (·.1)).set (27+j) ((c'.ws.map (·.1))[27+j])=c'.ws.map (·.1):=List.set_getElem_self Dn
  rw[List.getElem_map]at this
  exact this
 ·rintro env rs ⟨hh,c',hC,hw,hf⟩ R
  simp only[has]at hh
  have e0:(((27+36:Nat):Int)<63)=False:=eq_false (by omega)
  simp only[↓aj,ak,simprocAttr,aa,hh,e0]
  exact hk rs c' hC hw hf
 ·simp only[has,↓aj,ak,simprocAttr,aa]
def DM:pU:=⟨List.replicate 64 (0#32,false),true,false⟩
theorem Uc(C:be){rows:Rows}{K:D→Rows→Prop}(hk:K (.cA [.ptr G3 (rows.length+1) [0],.raw (it 0)]) (rows++[some ⟨AX,DM.ws.map AY⟩,some ⟨G3,[.agg G3 [.sl AX rows.length [] 0 64 true]]⟩])):
  aR C 1 mL mK [.raw (it 64)] rows K:=by
 refine ag rfl ?_
 unfold mK mL
 have hz:List.replicate 64 (D.agg AX [.raw (u32 0#32),.raw (.bool false)])=DM.ws.map AY:=rfl
 simp only[↓aj,ak,simprocAttr,aa,aX,hz]
 exact hk
theorem Yb(C C1:be)(n0:C.fn 104=none)(r0:C.fU 104=some (aR C1 1 mL mK)){rows:Rows}{K:D→Rows→Prop}
  (hk:∀ab,eJ rows ab→sv ab (rows.length+2) (rows.length+1) rows.length DM→K (.ptr Pf (rows.length+2) [0]) ab):
  aR C 0 rL rK [] rows K:=by
 refine ag rfl ?_
 unfold rK rL
 simp only[↓aj,ak,simprocAttr,aa,n0,r0]
 refine Uc C1 ?_
 simp only[↓aj,ak,simprocAttr,aa,aX]
 exact hk _ (eJ.app _ _) ⟨by rw[cD];rfl,by rw[cD];rfl,by rw[b6];rfl,rfl⟩
def ofW(W:List (BitVec 32)):pU:=⟨W.map fun v=>(v,false),true,false⟩
theorem fof_run(C C2:be)(n1:C.fn 104=none)(r1:C.fU 104=some (aR C2 1 mL mK)){rows:Rows}{r:Nat}{p:List Nat}{ex:Bool}{row:Row}{W:List (BitVec 32)}(hW:W.length=64)
  (hl:live rows r=some row)(hg:∀i,i<64→cP row.els (p++[i])=some (.raw (u32 (W.getD i 0#32)))){K:D→Rows→Prop}
  (hk:∀ab,eJ rows ab→live ab (rows.length+1)=some ⟨G3,[.agg G3 [.sl AX rows.length [] 0 64 true]]⟩→live ab rows.length=some ⟨AX,(ofW W).ws.map AY⟩→K (.cA [.ptr G3 (rows.length+1) [0],.raw (it 0)]) ab):
  aR C 1 sA qJ [.sl dk r p 0 64 ex] rows K:=by
 refine ag rfl ?_
 unfold qJ sA
 have hlt:=bn hl
 simp only[↓aj,ak,simprocAttr,aa,n1,r1]
 refine Uc C2 ?_
 have hA:live (rows++[some ⟨AX,DM.ws.map AY⟩,some ⟨G3,[.agg G3 [.sl AX rows.length [] 0 64 true]]⟩]) (rows.length+1)=some ⟨G3,[.agg G3 [.sl AX rows.length [] 0 64 true]]⟩:=by rw[cD];rfl
 have hB:live (rows++[some ⟨AX,DM.ws.map AY⟩,some ⟨G3,[.agg G3 [.sl AX rows.length [] 0 64 true]]⟩]) rows.length=some ⟨AX,DM.ws.map AY⟩:=by rw[b6];rfl
 have hK0:eJ rows (rows++[some ⟨AX,DM.ws.map AY⟩,some ⟨G3,[.agg G3 [.sl AX rows.length [] 0 64 true]]⟩]):=eJ.app _ _
 generalize rows++[some ⟨AX,DM.ws.map AY⟩,some ⟨G3,[.agg G3 [.sl AX rows.length [] 0 64 true]]⟩]=R0 at*
 simp only[↓aj,ak,simprocAttr,aa]
 refine bB 64 (fun i env rs=>has env [(19,.raw (it (i:Int))),(18,.raw (it 64)),(17,.sl dk r p 0 64 ex),(4,.ptr G3 (rows.length+1) [0])]∧eJ rows rs∧live rs (rows.length+1)=some ⟨G3,[.agg G3 [.sl AX rows.length [] 0 64 true]]⟩∧
  ∃x:List Wd,live rs rows.length=some ⟨AX,x.map AY⟩∧x.length=64∧∀j,j<64→x.getD j (0#32,true)=(if j<i then W.getD j 0#32 else 0#32,false)) ?_ ?_ ⟨?_,hK0,hA,DM.ws,hB,rfl,?_⟩
 ·rintro i hi env rs ⟨hh,hK,hA,x,hB,hx,hv⟩ R hR
  simp only[has]at hh
  have e0:((i:Int)<64)=True:=eq_true (by omega)
  have e1:=cE i (by omega)
  have mh:=hK _ _ hl
  have g:=hg i hi
  have g1:=X6 (x:=x) (i:=i) (by omega)
  have hxi:=hv i hi
  rw[if_neg (by omega)]at hxi
  have hxi2:x[i]'(by omega)=(0#32,false):=by simpa[List.getD,hx,hi]using hxi
  rw[hxi2]at g1
  generalize hWi:W.getD i 0#32=v at*
  simp only[↓aj,ak,simprocAttr,aa,aX,hh,e0,e1,mh,g,hA,hB,g1,X7,Int.natCast_nonneg,Int.toNat_natCast,Nat.zero_add]
  refine hR _ _ ⟨by simp only[has,↓aj,ak,simprocAttr,aa,hh],hK.set (Nat.le_refl _) _,cK hA (by omega),_,aG hB,by rw[List.length_set,hx],fun j hj=>?_⟩
  rw[List.getD_eq_getElem?_getD,List.getElem?_set]
  by_cases c:i=j
  ·subst c
   rw[if_pos rfl,if_pos (by omega),if_pos (by omega),hWi]
   rfl
  ·rw[if_neg c,←List.getD_eq_getElem?_getD,hv j hj]
   congr 1
   by_cases c2:j<i
   ·rw[if_pos c2,if_pos (by omega)]
   ·rw[if_neg c2,if_neg (by omega)]
 ·rintro env rs ⟨hh,hK,hA,x,hB,hx,hv⟩ R
  simp only[has]at hh
  have e0:((64:Int)<64)=False:=eq_false (by omega)
  have hxe:x=(ofW W).ws:=by
   refine List.ext_getElem (by rw[hx];simp[ofW,hW]) fun j h1 h2=>?_
   have:=hv j (by omega)
   rw[if_pos (by omega)]at this
   simpa[List.getD,h1,ofW,hW▸(hx▸h1:j<64)]using this
  subst hxe
  simp only[↓aj,ak,simprocAttr,aa,hh,e0]
  exact hk rs hK hA hB
 ·simp only[has,↓aj,ak,simprocAttr,aa]
 ·intro j hj
  rw[if_neg (by omega),DM,List.getD_eq_getElem?_getD,List.getElem?_replicate,if_pos hj]
  rfl
theorem of4_run(C C1 C2:be)(n0:C.fn 63=none)(r0:C.fU 63=some (aR C1 1 sA qJ))(n1:C1.fn 104=none)(r1:C1.fU 104=some (aR C2 1 mL mK)){rows:Rows}{r:Nat}{p:List Nat}{ex:Bool}{row:Row}{W:List (BitVec 32)}(hW:W.length=64)
  (hl:live rows r=some row)(hg:∀i,i<64→cP row.els (p++[i])=some (.raw (u32 (W.getD i 0#32)))){K:D→Rows→Prop}
  (hk:∀ab q,eJ rows ab→rows.length+1<q→sv ab q (rows.length+1) rows.length (ofW W)→K (.cA [.ptr Pf q [0],.raw (it 0)]) ab):
  aR C 1 xb xa [.sl dk r p 0 64 ex] rows K:=by
 refine ag rfl ?_
 unfold xa xb
 simp only[↓aj,ak,simprocAttr,aa,n0,r0]
 refine fof_run C1 C2 n1 r1 hW hl hg fun rs hK hA hB=>?_
 have:=bn hA
 simp only[↓aj,ak,simprocAttr,aa,aX]
 exact hk _ _ (hK.trans (eJ.app _ _)) this ⟨by rw[b6];rfl,aA hA _,aA hB _,by simp[ofW,hW]⟩
end iC
end Go.Am

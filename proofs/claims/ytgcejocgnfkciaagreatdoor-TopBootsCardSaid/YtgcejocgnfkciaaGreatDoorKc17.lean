import Derived.Test.YtgcejocgnfkciaaGreatDoorKc16
namespace Go.Am
set_option linter.unusedSimpArgs false
set_option linter.unusedVariables false
attribute [local congr] cd bt cg bu bw bO bg bx bz bP a7 bQ bA b9
namespace iC
open Go.Am.F
set_option maxRecDepth 10000
abbrev vP:Sh:= .cons (.ar 16 L8) (.cons dk .nil)
structure Site where
 id:List (BitVec 8)
 q:BitVec 32
def fb(s:Site):D:= .agg vP [.agg (.ar 16 L8) (bs s.id),.raw (u32 s.q)]
theorem TH(x y:Site)(h:fb x=fb y):x=y:=by
 obtain⟨a,b⟩:=x
 obtain⟨c,d⟩:=y
 simp only[fb,D.agg.injEq,List.cons.injEq,D.raw.injEq,true_and,and_true]at h
 rw[tu h.1,mP h.2]
theorem dw(s:Site):(fb s).fits vP=true:=rfl
theorem jC(s:Site)(rows:Rows):bT rows (b8 fb) (fb s) s:=bT.agg rfl (bV TH s)
theorem Xy(m b:Nat)(kd:IntKind)(hb:b≤64)(k:D→Prop):bE .shr (it (m:Int)) (.int kd (b:Int)) k=k (.raw (it ((m/2^b:Nat):Int))):=by
 have e:(m:Int).fdiv (2^(min (b:Int).toNat IntKind.i64.bits))=((m/2^b:Nat):Int):=by
  have:min (b:Int).toNat IntKind.i64.bits=b:=by show min (b:Int).toNat 64=b;omega
  rw[this,Int.fdiv_eq_ediv_of_nonneg _ (Int.le_of_lt (Int.pow_pos (by decide)))]
  rw[show((2:Int)^b)=((2^b:Nat):Int) by simp]
  omega
 simp only[bE,it]
 rw[e]
 simp
def O5:Fn:=lE rC (fun n=>decide (0≤n)&&decide (n<65536)) fun n=>ez (uG n.toNat) false
theorem two_ok(C:be)(hC:aI C P):aO C.aZ P 162 (Fn.run O5):=by
 refine aH (Tp C hC) fun ds rows r h=>?_
 obtain⟨d,n,rfl,rfl,hd,hp,rfl⟩:=a8 h
 cases bX hd
 simp only[Bool.and_eq_true,decide_eq_true_eq]at hp
 refine⟨rfl,ag rfl ?_⟩
 clear h hd
 obtain⟨m,rfl⟩:=Int.eq_ofNat_of_zero_le hp.1
 have hm:m<65536:=by omega
 unfold Ic Ie
 have e8:∀k,bE .shr (it (m:Int)) (u64 8#64) k=k (.raw (it ((m/256:Nat):Int))):=fun k=>Xy m 8 .u64 (by decide) k
 have e1:BitVec.ofInt 8 ((m/256:Nat):Int)=BitVec.ofNat 8 (m/256):=BitVec.ofInt_natCast _ _
 have e2:BitVec.ofInt 8 (m:Int)=BitVec.ofNat 8 m:=BitVec.ofInt_natCast _ _
 simp only[↓aj,ak,simprocAttr,aa,e8,e1,e2]
 exact .own _ 0 0 2 true false _ rfl rfl (fun h=>by cases h)
theorem kTwo(rows:Rows)(k:D→Rows→Prop)(n:Nat)(h:n<65536):aJ O5 rows k [.raw (it (n:Int))]=k (.sl L8 (0+rows.length) [] 0 2 false) (rows++[some ⟨L8,bs (uG n)⟩]):=by
 refine(cC (bT.int _) (by simp;omega) rfl k).trans ?_
 simp[ez,shift,ae,Sh.pure,uG]
def xP:Fn:=lE qN (fun _=>true) fun q=>ez (bC q) false
theorem four_ok(C:be)(hC:aI C P):aO C.aZ P 167 (Fn.run xP):=by
 refine aH (OQ C hC) fun ds rows r h=>?_
 obtain⟨d,n,rfl,rfl,hd,hp,rfl⟩:=a8 h
 cases dL hd
 refine⟨rfl,ag rfl ?_⟩
 clear h hd
 unfold FL FM
 simp only[↓aj,ak,simprocAttr,aa]
 exact .own _ 0 0 4 true false _ rfl rfl (fun h=>by cases h)
theorem Mw(rows:Rows)(k:D→Rows→Prop)(q:BitVec 32):aJ xP rows k [.raw (u32 q)]=k (.sl L8 (0+rows.length) [] 0 4 false) (rows++[some ⟨L8,bs (bC q)⟩]):=by
 refine(cC (bT.raw (fK q)) rfl rfl k).trans ?_
 simp[ez,shift,ae,Sh.pure,bC]
def stZ:St:=⟨List.replicate 8 0#32,List.replicate 64 0#8,0#64⟩
theorem O6:D.agg KM [.agg (.ar 8 dk) (List.replicate 8 (.raw (u32 0#32))),.agg (.ar 64 L8) (List.replicate 64 (.raw (u8 0#8))),.raw (u64 0#64)]=rY stZ:=rfl
def jR(s:Site):St:=feed Iq (s.id++bC s.q)
theorem oI(s:Site):(jR s).ok=true:=eD _ _ mO
noncomputable def BK:Fn:=lE (b8 fb) (fun s=>decide (s.id.length=16)) fun s=>(rY (jR s),[])
theorem Xz(C:be)(hC:aI C P)(h1:C.fn 157=some Mr)(h2:C.fn 158=some qB)(h3:C.fn 167=some xP):aO C.aZ P 161 (Fn.run BK):=by
 refine aH (L9 C hC) fun ds rows r h=>?_
 obtain⟨d,s,rfl,rfl,hd,hp,rfl⟩:=a8 h
 cases aF hd
 simp only[decide_eq_true_eq]at hp
 refine⟨rfl,ag rfl ?_⟩
 clear h hd
 unfold Cz CK
 simp only[O6]
 have NS:(fb s).get [0]=some (.agg (.ar 16 L8) (bs s.id)):=rfl
 have Sy:(fb s).get [1]=some (.raw (u32 s.q)):=rfl
 simp only[↓aj,ak,simprocAttr,aa,aX,dw,l5,h1,h2,O1]
 refine Eq.mpr (jI _ _ _ _ s.id (bc.r9 (n:=16) rfl (by simp only[↓aj,ak,simprocAttr,aa,NS]) hp) mO) ?_
 have hok1:=eD s.id Iq mO
 have oD:feed (feed Iq s.id) (bC s.q)=jR s:=(eC _ _ _).symm
 simp only[↓aj,ak,simprocAttr,aa,aX,Sy,h3,Mw,h2]
 refine Eq.mpr (jI _ _ _ _ (bC s.q) (bc.own rfl _ rfl) hok1) ?_
 rw[oD]
 simp only[↓aj,ak,simprocAttr,aa,aX,l5]
 exact .val _ rfl
theorem O7(rows:Rows)(k:D→Rows→Prop)(s:Site)(h:s.id.length=16):aJ BK rows k [fb s]=k (rY (jR s)) rows:=by
 refine(cC (jC s rows) (by simp[h]) rfl k).trans ?_
 simp[rY,shift,ae,Sh.pure]
def TI(i n:Int):Bool:=decide (0≤i)&&decide (i<n)
theorem J2{i n:Int}:TI i n=true↔0≤i∧i<n:=by simp[TI]
noncomputable def Mx:Fn:=Xu (b8 fb) rC rC (b8 aW) (fun s i j x=>decide (s.id.length=16)&&TI i 65536&&TI j 256&&decide (x.length=32)) fun s i j x=>(aW (xO s.id s.q i.toNat j.toNat x),[])
theorem step_ok(C:be)(hC:aI C P)(h1:C.fn 161=some BK)(h2:C.fn 162=some O5)(h3:C.fn 158=some qB)(h4:C.fn 159=some tw):aO C.aZ P 160 (Fn.run Mx):=by
 refine aH (OO C hC) fun ds rows r h=>?_
 obtain⟨d0,d1,d2,d3,s,i,j,x,rfl,rfl,g0,g1,g2,g3,hp,rfl⟩:=sc h
 cases aF g0
 cases bX g1
 cases bX g2
 cases aF g3
 simp only[Bool.and_eq_true,decide_eq_true_eq,J2]at hp
 obtain⟨⟨⟨gV,hi⟩,hj⟩,hx⟩:=hp
 refine⟨rfl,ag rfl ?_⟩
 clear h g0 g1 g2 g3
 obtain⟨i,rfl⟩:=Int.eq_ofNat_of_zero_le hi.1
 obtain⟨j,rfl⟩:=Int.eq_ofNat_of_zero_le hj.1
 have hi':i<65536:=by omega
 have mr:j<256:=by omega
 unfold FH FI
 simp only[dW]
 have ej:BitVec.ofInt 8 (j:Int)=BitVec.ofNat 8 j:=BitVec.ofInt_natCast _ _
 have kT:=fun rows k=>kTwo rows k i hi'
 simp only[↓aj,ak,simprocAttr,aa,aX,aW,dw,h1,O7 _ _ s gV,h2,kT,h3]
 refine Eq.mpr (jI _ _ _ _ (uG i) (bc.own rfl _ rfl) (oI s)) ?_
 simp only[↓aj,ak,simprocAttr,aa,aX,ej,h3]
 have o1:=eD (uG i) _ (oI s)
 refine Eq.mpr (jI _ _ _ _ [BitVec.ofNat 8 j] (bc.own rfl _ rfl) o1) ?_
 simp only[↓aj,ak,simprocAttr,aa,aX,h3]
 have o2:=eD [BitVec.ofNat 8 j] _ o1
 refine Eq.mpr (jI _ _ _ _ x (bc.r9 (n:=32) rfl rfl hx) o2) ?_
 have o3:=eD x _ o2
 simp only[↓aj,ak,simprocAttr,aa,aX,h4,yF _ _ _ o3]
 have e:oq (feed (feed (feed (jR s) (uG i)) [BitVec.ofNat 8 j]) x)=xO s.id s.q i j x:=by
  rw[xO,dU,jR,←eC,←eC,←eC]
  simp only[List.append_assoc]
 rw[e]
 exact .val _ rfl
theorem kStep(rows:Rows)(k:D→Rows→Prop)(s:Site)(i j:Nat)(x:List (BitVec 8))(gV:s.id.length=16)(hi:i<65536)(hj:j<256)(hx:x.length=32):
  aJ Mx rows k [fb s,.raw (it (i:Int)),.raw (it (j:Int)),.agg (.ar 32 L8) (bs x)]=k (.agg (.ar 32 L8) (bs (xO s.id s.q i j x))) rows:=by
 refine(vO (jC s rows) (bT.int _) (bT.int _) (iQ x) (by simp[gV,hx,TI];omega) rfl k).trans ?_
 simp[aW,shift,ae,Sh.pure]
noncomputable def Ap:Fn:=G2 (b8 fb) rC (b8 aW) (fun s i x=>decide (s.id.length=16)&&TI i 65536&&decide (x.length=32)) fun s i x=>(aW (DH s.id s.q i.toNat x),[])
theorem TJ(C:be)(hC:aI C P)(h1:C.fn 160=some Mx):aO C.aZ P 100 (Fn.run Ap):=by
 refine aH (JB C hC) fun ds rows r h=>?_
 obtain⟨d0,d1,d2,s,i,x,rfl,rfl,g0,g1,g2,hp,rfl⟩:=fq h
 cases aF g0
 cases bX g1
 cases aF g2
 simp only[Bool.and_eq_true,decide_eq_true_eq,J2]at hp
 obtain⟨⟨gV,hi⟩,hx⟩:=hp
 refine⟨rfl,ag rfl ?_⟩
 clear h g0 g1 g2
 obtain⟨i,rfl⟩:=Int.eq_ofNat_of_zero_le hi.1
 have hi':i<65536:=by omega
 unfold zH zI
 simp only[dW]
 have kS:=fun rows k=>kStep rows k s i 255 x gV hi' (by decide) hx
 rw[show((255:Nat):Int)=255 from rfl]at kS
 simp only[↓aj,ak,simprocAttr,aa,aX,aW,dw,h1,kS]
 exact .val _ rfl
theorem QK(rows:Rows)(k:D→Rows→Prop)(s:Site)(i:Nat)(x:List (BitVec 8))(gV:s.id.length=16)(hi:i<65536)(hx:x.length=32):
  aJ Ap rows k [fb s,.raw (it (i:Int)),.agg (.ar 32 L8) (bs x)]=k (.agg (.ar 32 L8) (bs (DH s.id s.q i x))) rows:=by
 refine(fT (jC s rows) (bT.int _) (iQ x) (by simp[gV,hx,TI];omega) rfl k).trans ?_
 simp[aW,shift,ae,Sh.pure]
noncomputable def BL:Fn:=gn5 (b8 fb) rC rC rC (b8 aW) (fun s i a b x=>decide (s.id.length=16)&&TI i 65536&&TI a 257&&TI b 257&&decide (x.length=32)) fun s i a b x=>(aW (Hn s.id s.q i.toNat (b.toNat-a.toNat) a.toNat x),[])
theorem XA(C:be)(hC:aI C P)(h1:C.fn 160=some Mx):aO C.aZ P 98 (Fn.run BL):=by
 refine aH (L4 C hC) fun ds rows r h=>?_
 obtain⟨d0,d1,d2,d3,d4,s,i,a,b,x,rfl,rfl,g0,g1,g2,g3,g4,hp,rfl⟩:=Mu h
 cases aF g0
 cases bX g1
 cases bX g2
 cases bX g3
 cases aF g4
 simp only[Bool.and_eq_true,decide_eq_true_eq,J2]at hp
 obtain⟨⟨⟨⟨gV,hi⟩,ha⟩,hb⟩,hx⟩:=hp
 refine⟨rfl,ag rfl ?_⟩
 clear h g0 g1 g2 g3 g4
 obtain⟨i,rfl⟩:=Int.eq_ofNat_of_zero_le hi.1
 obtain⟨a,rfl⟩:=Int.eq_ofNat_of_zero_le ha.1
 obtain⟨b,rfl⟩:=Int.eq_ofNat_of_zero_le hb.1
 have hi':i<65536:=by omega
 unfold Cv Cw
 simp only[dW]
 simp only[↓aj,ak,simprocAttr,aa,aX,aW,dw,h1]
 have em:max (a:Int) 0=(a:Int):=by omega
 have eb:min (b:Int) 256=(b:Int):=by omega
 simp only[em]
 refine bB (b-a) (fun j env rows=>has env [(11,.raw (it ((a+j:Nat):Int))),(10,.ptr (.ar 32 L8) 2 [0]),(9,.ptr (.ar 32 L8) 1 [0]),(5,.ptr vP 0 [0]),(1,.raw (it (i:Int))),(3,.raw (it (b:Int)))]∧
  rows=[some ⟨vP,[fb s]⟩,some ⟨.ar 32 L8,[.agg (.ar 32 L8) (bs (Hn s.id s.q i j a x))]⟩,some ⟨.ar 32 L8,[.agg (.ar 32 L8) (bs ug)]⟩]) ?_ ?_ ⟨?_,rfl⟩
 ·rintro j hj env rows ⟨hh,rfl⟩ R hR
  simp only[has]at hh
  have e0:(((a+j:Nat):Int)<(b:Int))=True:=eq_true (by omega)
  have e1:wz (((a+j:Nat):Int)+1)=((a+(j+1):Nat):Int):=by rw[bf (by omega)];omega
  have kS:=fun rows k=>kStep rows k s i (a+j) _ gV hi' (by omega) (wD s.id s.q i j a x hx)
  simp only[↓aj,ak,simprocAttr,aa,aX,hh,eb,e0,e1,dw,h1,kS,←Xs]
  exact hR _ _ ⟨by simp only[has,↓aj,ak,simprocAttr,aa,hh],rfl⟩
 ·rintro env rows ⟨hh,rfl⟩ R
  simp only[has]at hh
  have e0:(((a+(b-a):Nat):Int)<(b:Int))=False:=eq_false (by omega)
  simp only[↓aj,ak,simprocAttr,aa,aX,hh,eb,e0]
  exact .val _ rfl
 ·simp only[has,↓aj,ak,simprocAttr,aa]
  simp
theorem O8(rows:Rows)(k:D→Rows→Prop)(s:Site)(i a b:Nat)(x:List (BitVec 8))(gV:s.id.length=16)(hi:i<65536)(ha:a≤256)(hb:b≤256)(hx:x.length=32):
  aJ BL rows k [fb s,.raw (it (i:Int)),.raw (it (a:Int)),.raw (it (b:Int)),.agg (.ar 32 L8) (bs x)]=k (.agg (.ar 32 L8) (bs (Hn s.id s.q i (b-a) a x))) rows:=by
 refine(Mv (jC s rows) (bT.int _) (bT.int _) (bT.int _) (iQ x) (by simp[gV,hx,TI];omega) rfl k).trans ?_
 simp[aW,shift,ae,Sh.pure]
def jJ(id:List (BitVec 8))(q:BitVec 32)(c msg:List (BitVec 8)):List (BitVec 8):=dU (id++bC q++uG 33153++c++msg)
noncomputable def Iv:Fn:=G2 (b8 fb) (b8 aW) dN (fun s c _=>decide (s.id.length=16)&&decide (c.length=32)) fun s c m=>(aW (jJ s.id s.q c m),[])
theorem mash_ok(C:be)(hC:aI C P)(h1:C.fn 161=some BK)(h2:C.fn 162=some O5)(h3:C.fn 158=some qB)(h4:C.fn 159=some tw):aO C.aZ P 111 (Fn.run Iv):=by
 refine aH (OH C hC) fun ds rows r h=>?_
 obtain⟨d0,d1,d2,s,c,m,rfl,rfl,g0,g1,g2,hp,rfl⟩:=fq h
 cases aF g0
 cases aF g1
 have gm:=eU g2
 simp only[Bool.and_eq_true,decide_eq_true_eq]at hp
 obtain⟨gV,hc⟩:=hp
 refine⟨rfl,ag rfl ?_⟩
 clear h g0 g1 g2
 unfold Fy Fz
 simp only[dW]
 have kT:=fun rows k=>kTwo rows k 33153 (by decide)
 rw[show((33153:Nat):Int)=33153 from rfl]at kT
 simp only[↓aj,ak,simprocAttr,aa,aX,aW,dw,h1,O7 _ _ s gV,h2,kT,h3]
 refine Eq.mpr (jI _ _ _ _ (uG 33153) (bc.own rfl _ rfl) (oI s)) ?_
 simp only[↓aj,ak,simprocAttr,aa,aX,h3]
 have o1:=eD (uG 33153) _ (oI s)
 refine Eq.mpr (jI _ _ _ _ c (bc.r9 (n:=32) rfl rfl hc) o1) ?_
 simp only[↓aj,ak,simprocAttr,aa,aX,h3]
 have o2:=eD c _ o1
 refine Eq.mpr (jI _ _ _ _ m gm.to o2) ?_
 have o3:=eD m _ o2
 simp only[↓aj,ak,simprocAttr,aa,aX,h4,yF _ _ _ o3]
 have e:oq (feed (feed (feed (jR s) (uG 33153)) c) m)=jJ s.id s.q c m:=by
  rw[jJ,dU,jR,←eC,←eC,←eC]
  simp only[List.append_assoc]
 rw[e]
 exact .val _ rfl
theorem XB(rows:Rows)(k:D→Rows→Prop)(s:Site)(c m:List (BitVec 8))(d:D)(hd:bc rows d m)(gV:s.id.length=16)(hc:c.length=32):
  aJ Iv rows k [fb s,.agg (.ar 32 L8) (bs c),d]=k (.agg (.ar 32 L8) (bs (jJ s.id s.q c m))) rows:=by
 refine(fT (jC s rows) (iQ c) (.bs hd) (by simp[gV,hc]) rfl k).trans ?_
 simp[aW,shift,ae,Sh.pure]
theorem bT.dl{rows:Rows}{r n:Nat}{ex:Bool}{l:List (List (BitVec 8))}(hl:live rows r=some ⟨.ar 32 L8,l.map aW⟩)(hn:l.length=n):bT rows (oo (.ar 32 L8) aW) (.sl (.ar 32 L8) r [] 0 n ex) l:=by
 refine⟨⟨.cF (.ar 32 L8) (l.map aW) ex,?_,FW Al l ex⟩,fun h=>by simp[aQ]at h⟩
 have:elems rows (.sl (.ar 32 L8) r [] 0 n ex)=some (l.map aW):=by
  simp only[elems,hl];simp[List.take_of_length_le,hn]
 simp only[view]
 rw[this]
 simp[Sh.pure,hn]
noncomputable def My:Fn:=wS (b8 fb) (oo (.ar 32 L8) aW) (fun s l=>decide (s.id.length=16)&&It l&&decide (l.length≤1000000)) fun s l=>(aW (CW s.id s.q l),[])
theorem fold_ok(C:be)(hC:aI C P)(h1:C.fn 161=some BK)(h2:C.fn 162=some O5)(h3:C.fn 158=some qB)(h4:C.fn 159=some tw):aO C.aZ P 101 (Fn.run My):=by
 refine cr (OE C hC) fun ds rows r h=>?_
 obtain⟨d0,d1,s,l,rfl,rfl,g0,g1,hp,rfl⟩:=dq h
 cases aF g0
 obtain⟨ex,hx⟩:=wB g1
 simp only[Bool.and_eq_true,decide_eq_true_eq,sa]at hp
 obtain⟨⟨gV,p8⟩,HE⟩:=hp
 refine⟨rfl,_,.cons (.refl _) (.cons hx .nil),ag rfl ?_⟩
 clear h g0 g1 hx
 unfold Fs Ft
 simp only[dW,O6]
 have kT:=fun rows k=>kTwo rows k 32896 (by decide)
 rw[show((32896:Nat):Int)=32896 from rfl]at kT
 simp only[↓aj,ak,simprocAttr,aa,aX,aW,dw,l5,h1,O7 _ _ s gV,h2,kT,h3]
 refine Eq.mpr (jI _ _ _ _ (uG 32896) (bc.own rfl _ rfl) (oI s)) ?_
 have o1:=eD (uG 32896) _ (oI s)
 simp only[↓aj,ak,simprocAttr,aa,aX,l5,List.length_map]
 have hok:∀i,(feed (feed (jR s) (uG 32896)) (l.take i).flatten).ok=true:=fun i=>eD _ _ o1
 have e:oq (feed (feed (jR s) (uG 32896)) (l.take l.length).flatten)=CW s.id s.q l:=by
  rw[List.take_length,CW,dU,jR,←eC,←eC]
  simp only[List.append_assoc]
 have hst:feed (feed (jR s) (uG 32896)) (l.take 0).flatten=feed (jR s) (uG 32896):=by rw[List.take_zero];rfl
 rw[←hst]
 have XC:∀i (h:i<l.length),feed (feed (feed (jR s) (uG 32896)) (l.take i).flatten) l[i]=feed (feed (jR s) (uG 32896)) (l.take (i+1)).flatten:=fun i h=>by
  rw[←eC,List.take_succ_eq_append_getElem h,List.flatten_append];simp
 generalize feed (jR s) (uG 32896)=B at*
 refine bB l.length (fun i env rows=>has env [(14,.raw (it (i:Int))),(13,.raw (it (l.length:Int))),(12,.cF (.ar 32 L8) (l.map aW) ex),(5,.ptr KM 3 [0]),(4,.ptr (.ar 32 L8) 1 [0])]∧
  live rows 3=some ⟨KM,[rY (feed B (l.take i).flatten)]⟩∧live rows 1=some ⟨.ar 32 L8,[.agg (.ar 32 L8) (bs ug)]⟩) ?_ ?_ ⟨?_,rfl,rfl⟩
 ·rintro i hi env rows ⟨hh,r3,r1⟩ R hR
  simp only[has]at hh
  have e0:((i:Int)<(l.length:Int))=True:=eq_true (by omega)
  have b0:∀n:Nat,((0:Int)≤(n:Int))=True:=fun n=>eq_true (by omega)
  have e1:=cE i (by omega)
  have hx:=p8 _ (List.getElem_mem hi)
  have g:(l.map aW)[i]?=some (.agg (.ar 32 L8) (bs l[i])):=by simp[aW,hi]
  have hs:=XC i hi
  generalize l[i]=xi at*
  have r3A:=fun L=>aA r3 L
  simp only[↓aj,ak,simprocAttr,aa,aX,hh,e0,e1,b0,List.length_map,g,r3A,h3]
  refine Eq.mpr (jI _ _ _ _ xi (bc.r9 (n:=32) (by rw[b6];rfl) rfl hx) (hok i)) ?_
  rw[hs]
  simp only[↓aj,ak,simprocAttr,aa,aX,hh,e1,r3A,l5]
  exact hR _ _ ⟨by simp only[has,↓aj,ak,simprocAttr,aa,hh],aG (r3A _),cK (aA r1 _) (by decide)⟩
 ·rintro env rows ⟨hh,r3,r1⟩ R
  simp only[has]at hh
  have e0:((l.length:Int)<(l.length:Int))=False:=eq_false (by omega)
  have w1:=fun x=>aG (y:=x) r1
  simp only[↓aj,ak,simprocAttr,aa,aX,hh,e0,r3,r1,h4,yF _ _ _ (hok _),e,w1]
  exact .val _ rfl
 ·simp only[has,↓aj,ak,simprocAttr,aa]
theorem kFold(rows:Rows)(k:D→Rows→Prop)(s:Site)(d:D)(l:List (List (BitVec 8)))(hd:bT rows (oo (.ar 32 L8) aW) d l)(gV:s.id.length=16)(p8:∀x∈l,x.length=32)(HE:l.length≤1000000):
  aJ My rows k [fb s,d]=k (.agg (.ar 32 L8) (bs (CW s.id s.q l))) rows:=by
 refine(jB (jC s rows) hd (by simp[gV,sa.2 p8,HE]) rfl k).trans ?_
 simp[aW,shift,ae,Sh.pure]
theorem Mz(m b:Nat)(kd:IntKind)(hb:b≤64)(hm:m*2^b<9223372036854775808)(k:D→Prop):bE .shl (it (m:Int)) (.int kd (b:Int)) k=k (.raw (it ((m*2^b:Nat):Int))):=by
 have e:IntKind.i64.wrap ((m:Int)*2^(min (b:Int).toNat IntKind.i64.bits))=((m*2^b:Nat):Int):=by
  have:min (b:Int).toNat IntKind.i64.bits=b:=by show min (b:Int).toNat 64=b;omega
  rw[this,show((2:Int)^b)=((2^b:Nat):Int) by simp,←Int.natCast_mul]
  exact bf (by omega)
 simp only[bE,it]
 rw[e]
 simp
def w4(w:Nat):Bool:=decide (w=1)||decide (w=2)||decide (w=4)||decide (w=8)
theorem Iw{w:Nat}:w4 w=true↔w=1∨w=2∨w=4∨w=8:=by simp[w4];omega
noncomputable def TL:Fn:=lE (b8 iR) (fun x=>w4 x.w) fun x=>(.raw (it ((2^x.w-1:Nat):Int)),[])
theorem end_ok(C:be)(hC:aI C P):aO C.aZ P 99 (Fn.run TL):=by
 refine aH (Dv C hC) fun ds rows r h=>?_
 obtain⟨d,x,rfl,rfl,hd,hp,rfl⟩:=a8 h
 cases aF hd
 have hp:=Iw.1 hp
 refine⟨rfl,ag rfl ?_⟩
 clear h hd
 unfold tP tQ
 obtain⟨w,p,l⟩:=x
 have hf:∀x,(iR x).fits pD=true:=fun x=>rfl
 have NS:∀w p l,(iR ⟨w,p,l⟩).get [0]=some (.raw (it (w:Int))):=fun w p l=>rfl
 have s1:∀k,bE .shl (it 1) (it 1) k=k (.raw (it 2)):=fun k=>Mz 1 1 .i64 (by decide) (by decide) k
 have s2:∀k,bE .shl (it 1) (it 2) k=k (.raw (it 4)):=fun k=>Mz 1 2 .i64 (by decide) (by decide) k
 have s4:∀k,bE .shl (it 1) (it 4) k=k (.raw (it 16)):=fun k=>Mz 1 4 .i64 (by decide) (by decide) k
 have s8:∀k,bE .shl (it 1) (it 8) k=k (.raw (it 256)):=fun k=>Mz 1 8 .i64 (by decide) (by decide) k
 rcases hp with rfl|rfl|rfl|rfl
 ·simp only[↓aj,ak,simprocAttr,aa,aX,hf,NS,s1]
  exact .val _ rfl
 ·simp only[↓aj,ak,simprocAttr,aa,aX,hf,NS,s2]
  exact .val _ rfl
 ·simp only[↓aj,ak,simprocAttr,aa,aX,hf,NS,s4]
  exact .val _ rfl
 ·simp only[↓aj,ak,simprocAttr,aa,aX,hf,NS,s8]
  exact .val _ rfl
theorem kEnd(rows:Rows)(k:D→Rows→Prop)(x:Z5)(h:w4 x.w=true):aJ TL rows k [iR x]=k (.raw (it ((2^x.w-1:Nat):Int))) rows:=by
 refine(cC (Xx x) h rfl k).trans ?_
 simp[shift,ae]
def qC(p:List (BitVec 8))(i w:Nat):Nat:=((p.getD (i/(8/w)) 0#8>>>(8-w*(i %(8/w))-w))&&&BitVec.ofNat 8 (2^w-1)).toNat
def gj(p:List (BitVec 8))(i w:Int):Int:=if(w=1∨w=2∨w=4∨w=8)∧0≤i∧i<(p.length*(8/w.toNat):Nat)then(qC p i.toNat w.toNat:Int)else 0
def MA:Fn:=G2 dN rC rC (fun p _ _=>decide (p.length≤1099511627776)) fun p i w=>(.raw (it (gj p i w)),[])
theorem coef_ok(C:be)(hC:aI C P):aO C.aZ P 166 (Fn.run MA):=by
 refine aH (OP C hC) fun ds rows r h=>?_
 obtain⟨d,d1,d2,p,i,w,rfl,rfl,g0,g1,g2,hp,rfl⟩:=fq h
 have gb:=eU g0
 cases bX g1
 cases bX g2
 simp only[decide_eq_true_eq]at hp
 refine⟨rfl,ag rfl ?_⟩
 clear h g0 g1 g2
 have jO:=gb.dK
 unfold FJ FK
 have hfit:d.fits .ref=true:=by rcases gb with⟨rfl,_⟩|⟨e,rfl⟩<;>rfl
 by_cases c4:w=4
 ·subst c4
  by_cases h0:i<0
  ·have Aq:(i<0)=True:=eq_true h0
   have hz:gj p i 4=0:=by rw[gj,if_neg (fun h=>by omega)]
   rw[hz]
   simp only[↓aj,ak,simprocAttr,aa,jO,Aq,decide_true]
   exact .val _ rfl
  have Aq:(i<0)=False:=eq_false h0
  obtain⟨i,rfl⟩:=Int.eq_ofNat_of_zero_le (Int.not_lt.1 h0)
  have h84:wz (Int.tdiv 8 4)=2:=by decide
  have hm:wz ((p.length:Int)*2)=((p.length*2:Nat):Int):=by rw[bf (by omega)];omega
  by_cases hc:i<p.length*2
  ·have dZ:(((p.length*2:Nat):Int)≤(i:Int))=False:=eq_false (by omega)
   have hz:gj p (i:Int) 4=(qC p i 4:Int):=by
    rw[gj,if_pos ⟨by decide,by omega,by show(i:Int)<((p.length*2:Nat):Int);omega⟩]
    rfl
   have hr:i %2<2:=Nat.mod_lt _ (by decide)
   have q1:wz ((i:Int).tdiv 2)=((i/2:Nat):Int):=by rw[Int.tdiv_eq_ediv_of_nonneg (by omega),bf (by omega)];omega
   have q2:(i:Int).tmod 2=((i %2:Nat):Int):=by rw[Int.tmod_eq_emod_of_nonneg (by omega)];omega
   have q3:wz (4*((i %2:Nat):Int))=((4*(i %2):Nat):Int):=by rw[bf (by omega)];omega
   have q4:wz (8-((4*(i %2):Nat):Int))=((8-4*(i %2):Nat):Int):=by rw[bf (by omega)];omega
   have q5:wz (((8-4*(i %2):Nat):Int)-4)=((8-4*(i %2)-4:Nat):Int):=by rw[bf (by omega)];omega
   have b0:∀n:Nat,((0:Int)≤(n:Int))=True:=fun n=>eq_true (by omega)
   have ki:=fun k=>gh (k:=k) (rows:=([]:Rows)) (n:=((i/2:Nat):Int)) gb (by have:i/2<p.length:=Nat.div_lt_of_lt_mul (by rw[Nat.mul_comm];exact hc);omega)
   rw[hz]
   simp only[↓aj,ak,simprocAttr,aa,jO,Aq,h84,hm,dZ,q1,q2,q3,q4,q5,b0,ki,decide_false,Int.toNat_natCast]
   exact .val _ rfl
  ·have dZ:(((p.length*2:Nat):Int)≤(i:Int))=True:=eq_true (by omega)
   have hz:gj p (i:Int) 4=0:=by
    rw[gj,if_neg (fun h=>by have h2:(i:Int)<((p.length*2:Nat):Int):=h.2.2;omega)]
   rw[hz]
   simp only[↓aj,ak,simprocAttr,aa,jO,Aq,h84,hm,dZ,decide_true,decide_false]
   exact .val _ rfl
 have n4:(w=4)=False:=eq_false c4
 by_cases c1:w=1
 ·subst c1
  by_cases h0:i<0
  ·have Aq:(i<0)=True:=eq_true h0
   have hz:gj p i 1=0:=by rw[gj,if_neg (fun h=>by omega)]
   rw[hz]
   simp only[↓aj,ak,simprocAttr,aa,jO,Aq,decide_true]
   exact .val _ rfl
  have Aq:(i<0)=False:=eq_false h0
  obtain⟨i,rfl⟩:=Int.eq_ofNat_of_zero_le (Int.not_lt.1 h0)
  have h81:wz (Int.tdiv 8 1)=8:=by decide
  have hm:wz ((p.length:Int)*8)=((p.length*8:Nat):Int):=by rw[bf (by omega)];omega
  by_cases hc:i<p.length*8
  ·have dZ:(((p.length*8:Nat):Int)≤(i:Int))=False:=eq_false (by omega)
   have hz:gj p (i:Int) 1=(qC p i 1:Int):=by
    rw[gj,if_pos ⟨by decide,by omega,by show(i:Int)<((p.length*8:Nat):Int);omega⟩]
    rfl
   have hr:i %8<8:=Nat.mod_lt _ (by decide)
   have q1:wz ((i:Int).tdiv 8)=((i/8:Nat):Int):=by rw[Int.tdiv_eq_ediv_of_nonneg (by omega),bf (by omega)];omega
   have q2:(i:Int).tmod 8=((i %8:Nat):Int):=by rw[Int.tmod_eq_emod_of_nonneg (by omega)];omega
   have q3:wz (1*((i %8:Nat):Int))=((1*(i %8):Nat):Int):=by rw[bf (by omega)];omega
   have q4:wz (8-((1*(i %8):Nat):Int))=((8-1*(i %8):Nat):Int):=by rw[bf (by omega)];omega
   have q5:wz (((8-1*(i %8):Nat):Int)-1)=((8-1*(i %8)-1:Nat):Int):=by rw[bf (by omega)];omega
   have b0:∀n:Nat,((0:Int)≤(n:Int))=True:=fun n=>eq_true (by omega)
   have ki:=fun k=>gh (k:=k) (rows:=([]:Rows)) (n:=((i/8:Nat):Int)) gb (by have:i/8<p.length:=Nat.div_lt_of_lt_mul (by rw[Nat.mul_comm];exact hc);omega)
   rw[hz]
   simp only[↓aj,ak,simprocAttr,aa,jO,Aq,h81,hm,dZ,q1,q2,q3,q4,q5,b0,ki,decide_false,Int.toNat_natCast]
   exact .val _ rfl
  ·have dZ:(((p.length*8:Nat):Int)≤(i:Int))=True:=eq_true (by omega)
   have hz:gj p (i:Int) 1=0:=by
    rw[gj,if_neg (fun h=>by have h2:(i:Int)<((p.length*8:Nat):Int):=h.2.2;omega)]
   rw[hz]
   simp only[↓aj,ak,simprocAttr,aa,jO,Aq,h81,hm,dZ,decide_true,decide_false]
   exact .val _ rfl
 have n1:(w=1)=False:=eq_false c1
 by_cases c2:w=2
 ·subst c2
  by_cases h0:i<0
  ·have Aq:(i<0)=True:=eq_true h0
   have hz:gj p i 2=0:=by rw[gj,if_neg (fun h=>by omega)]
   rw[hz]
   simp only[↓aj,ak,simprocAttr,aa,jO,Aq,decide_true]
   exact .val _ rfl
  have Aq:(i<0)=False:=eq_false h0
  obtain⟨i,rfl⟩:=Int.eq_ofNat_of_zero_le (Int.not_lt.1 h0)
  have h82:wz (Int.tdiv 8 2)=4:=by decide
  have hm:wz ((p.length:Int)*4)=((p.length*4:Nat):Int):=by rw[bf (by omega)];omega
  by_cases hc:i<p.length*4
  ·have dZ:(((p.length*4:Nat):Int)≤(i:Int))=False:=eq_false (by omega)
   have hz:gj p (i:Int) 2=(qC p i 2:Int):=by
    rw[gj,if_pos ⟨by decide,by omega,by show(i:Int)<((p.length*4:Nat):Int);omega⟩]
    rfl
   have hr:i %4<4:=Nat.mod_lt _ (by decide)
   have q1:wz ((i:Int).tdiv 4)=((i/4:Nat):Int):=by rw[Int.tdiv_eq_ediv_of_nonneg (by omega),bf (by omega)];omega
   have q2:(i:Int).tmod 4=((i %4:Nat):Int):=by rw[Int.tmod_eq_emod_of_nonneg (by omega)];omega
   have q3:wz (2*((i %4:Nat):Int))=((2*(i %4):Nat):Int):=by rw[bf (by omega)];omega
   have q4:wz (8-((2*(i %4):Nat):Int))=((8-2*(i %4):Nat):Int):=by rw[bf (by omega)];omega
   have q5:wz (((8-2*(i %4):Nat):Int)-2)=((8-2*(i %4)-2:Nat):Int):=by rw[bf (by omega)];omega
   have b0:∀n:Nat,((0:Int)≤(n:Int))=True:=fun n=>eq_true (by omega)
   have ki:=fun k=>gh (k:=k) (rows:=([]:Rows)) (n:=((i/4:Nat):Int)) gb (by have:i/4<p.length:=Nat.div_lt_of_lt_mul (by rw[Nat.mul_comm];exact hc);omega)
   rw[hz]
   simp only[↓aj,ak,simprocAttr,aa,jO,Aq,h82,hm,dZ,q1,q2,q3,q4,q5,b0,ki,decide_false,Int.toNat_natCast]
   exact .val _ rfl
  ·have dZ:(((p.length*4:Nat):Int)≤(i:Int))=True:=eq_true (by omega)
   have hz:gj p (i:Int) 2=0:=by
    rw[gj,if_neg (fun h=>by have h2:(i:Int)<((p.length*4:Nat):Int):=h.2.2;omega)]
   rw[hz]
   simp only[↓aj,ak,simprocAttr,aa,jO,Aq,h82,hm,dZ,decide_true,decide_false]
   exact .val _ rfl
 have n2:(w=2)=False:=eq_false c2
 by_cases c8:w=8
 ·subst c8
  by_cases h0:i<0
  ·have Aq:(i<0)=True:=eq_true h0
   have hz:gj p i 8=0:=by rw[gj,if_neg (fun h=>by omega)]
   rw[hz]
   simp only[↓aj,ak,simprocAttr,aa,jO,Aq,decide_true]
   exact .val _ rfl
  have Aq:(i<0)=False:=eq_false h0
  obtain⟨i,rfl⟩:=Int.eq_ofNat_of_zero_le (Int.not_lt.1 h0)
  have h88:wz (Int.tdiv 8 8)=1:=by decide
  have hm:wz ((p.length:Int)*1)=((p.length*1:Nat):Int):=by rw[bf (by omega)];omega
  by_cases hc:i<p.length*1
  ·have dZ:(((p.length*1:Nat):Int)≤(i:Int))=False:=eq_false (by omega)
   have hz:gj p (i:Int) 8=(qC p i 8:Int):=by
    rw[gj,if_pos ⟨by decide,by omega,by show(i:Int)<((p.length*1:Nat):Int);omega⟩]
    rfl
   have hr:i %1<1:=Nat.mod_lt _ (by decide)
   have q1:wz ((i:Int).tdiv 1)=((i/1:Nat):Int):=by rw[Int.tdiv_eq_ediv_of_nonneg (by omega),bf (by omega)];omega
   have q2:(i:Int).tmod 1=((i %1:Nat):Int):=by rw[Int.tmod_eq_emod_of_nonneg (by omega)];omega
   have q3:wz (8*((i %1:Nat):Int))=((8*(i %1):Nat):Int):=by rw[bf (by omega)];omega
   have q4:wz (8-((8*(i %1):Nat):Int))=((8-8*(i %1):Nat):Int):=by rw[bf (by omega)];omega
   have q5:wz (((8-8*(i %1):Nat):Int)-8)=((8-8*(i %1)-8:Nat):Int):=by rw[bf (by omega)];omega
   have b0:∀n:Nat,((0:Int)≤(n:Int))=True:=fun n=>eq_true (by omega)
   have ki:=fun k=>gh (k:=k) (rows:=([]:Rows)) (n:=((i/1:Nat):Int)) gb (by have:i/1<p.length:=Nat.div_lt_of_lt_mul (by rw[Nat.mul_comm];exact hc);omega)
   rw[hz]
   simp only[↓aj,ak,simprocAttr,aa,jO,Aq,h88,hm,dZ,q1,q2,q3,q4,q5,b0,ki,decide_false,Int.toNat_natCast]
   exact .val _ rfl
  ·have dZ:(((p.length*1:Nat):Int)≤(i:Int))=True:=eq_true (by omega)
   have hz:gj p (i:Int) 8=0:=by
    rw[gj,if_neg (fun h=>by have h2:(i:Int)<((p.length*1:Nat):Int):=h.2.2;omega)]
   rw[hz]
   simp only[↓aj,ak,simprocAttr,aa,jO,Aq,h88,hm,dZ,decide_true,decide_false]
   exact .val _ rfl
 have n8:(w=8)=False:=eq_false c8
 have hz:gj p i w=0:=by rw[gj,if_neg (fun h=>by omega)]
 rw[hz]
 simp only[↓aj,ak,simprocAttr,aa,n1,n2,n4,n8,decide_false,Bool.not_false]
 exact .val _ rfl
theorem TM{p:List (BitVec 8)}{i w:Nat}(hw:w4 w=true)(hi:i<p.length*(8/w)):gj p (i:Int) (w:Int)=(qC p i w:Int):=by
 have h:=Iw.1 hw
 rw[gj,if_pos ⟨by omega,by omega,by rw[Int.toNat_natCast];omega⟩]
 simp
theorem kCoef(rows:Rows)(k:D→Rows→Prop)(d:D)(p:List (BitVec 8))(i w:Int)(hd:bc rows d p)(hp:p.length≤1099511627776):aJ MA rows k [d,.raw (it i),.raw (it w)]=k (.raw (it (gj p i w))) rows:=by
 refine(fT (.bs hd) (bT.int i) (bT.int w) (by simp[hp]) rfl k).trans ?_
 simp[shift,ae]
theorem XD(rows:Rows)(k:D→Rows→Prop)(d:D)(p:List (BitVec 8))(i w:Nat)(hd:bc rows d p)(hp:p.length≤1099511627776)(hw:w4 w=true)(hi:i<p.length*(8/w)):aJ MA rows k [d,.raw (it (i:Int)),.raw (it (w:Int))]=k (.raw (it (qC p i w:Int))) rows:=by
 rw[kCoef rows k d p i w hd hp,TM hw hi]
theorem MB(p:List (BitVec 8))(i w:Nat)(hw:w4 w=true):qC p i w≤2^w-1:=by
 have h:∀x:BitVec 8,(x&&&BitVec.ofNat 8 (2^w-1)).toNat≤2^w-1:=fun x=>by
  rw[BitVec.toNat_and,BitVec.toNat_ofNat]
  refine Nat.le_trans Nat.and_le_right ?_
  exact Nat.mod_le _ _
 exact h _
def Ar(d:List (BitVec 8))(w:Nat):Nat→Nat
 |0=>0
 |n+1=>Ar d w n+(2^w-1-qC d n w)
theorem QL(d:List (BitVec 8))(w n:Nat):Ar d w n≤n*(2^w-1):=by
 induction n with
 |zero=>simp[Ar]
 |succ n ih=>rw[Ar,Nat.add_mul];omega
def F3(x:Z5)(d:List (BitVec 8)):List (BitVec 8):=d++uG (Ar d x.w (256/x.w)*2^x.l)
def vQ(x:Z5)(d:List (BitVec 8))(n:Nat):List Nat:=(List.range n).map fun i=>qC (F3 x d) i x.w
def fz(t:Nat)(d:List (BitVec 8)):List Nat:=vQ (uB t) d (pT t)
def vR(n:Nat):D:= .raw (it (n:Int))
def outI(l:List Nat):D×Rows:=(.sl LI 0 [] 0 l.length false,[some ⟨LI,l.map vR⟩])
def parOK(x:Z5):Prop:=w4 x.w=true∧x.p≤34*(8/x.w)∧x.p≤265∧256/x.w*(2^x.w-1)*2^x.l<65536∧x.l≤7∧256/x.w≤32*(8/x.w)
theorem j8{t:Nat}(h:sH t=true):parOK (uB t):=by
 simp only[sH,Bool.and_eq_true,decide_eq_true_eq]at h
 have:t=1∨t=2∨t=3∨t=4:=by omega
 rcases this with rfl|rfl|rfl|rfl<;>exact⟨by decide,by decide,by decide,by decide,by decide,by decide⟩
theorem tdivN(a b:Nat)(ha:a<9223372036854775808):wz ((a:Int).tdiv (b:Int))=((a/b:Nat):Int):=by
 have h:a/b≤a:=Nat.div_le_self _ _
 rw[Int.tdiv_eq_ediv_of_nonneg (by omega),←Int.natCast_ediv]
 generalize a/b=c at*
 exact bf (by omega)
theorem iK.QM{s:Sh}{d:D}{rows:Rows}{els:List D}(h:iK s d rows els)(hs:s.pure=true):wR rows d (.sl s 0 [] 0 els.length false) [some ⟨s,els⟩]:=by
 rcases h with⟨rfl,rfl⟩|⟨r,ex,rfl,h⟩
 ·exact .Wl s
 ·exact .own s r 0 _ ex false _ h hs (fun h=>by cases h)
theorem app_arr{rows:Rows}{r i len:Nat}{q:List Nat}{old news:List D}{k:D→Rows→Prop}(he:elems rows (.sl L8 r (i::q) 0 len true)=some old)(hn:old.length=len)(hne:news.length≠0)(hb:len+news.length≤most)
  (hk:k (.sl L8 rows.length [] 0 (len+news.length) false) (rows++[some ⟨L8,old++news⟩])):uL rows L8 1 (.sl L8 r (i::q) 0 len true) news k:=by
 unfold uL
 rw[he]
 refine⟨rfl,hn,by rw[Nat.mul_one];exact hb,hb,?_⟩
 exact⟨rfl,fun h=>absurd h hne,fun _=>hk⟩
noncomputable def wE:Fn:=wS qN (b8 aW) (fun _ d=>decide (d.length=32)) fun t d=>outI (bif sH t.toNat then fz t.toNat d else[])
theorem TN(C:be)(hC:aI C P)(h1:C.fn 37=some l6)(h2:C.fn 99=some TL)(h3:C.fn 166=some MA)(h4:C.fn 162=some O5):aO C.aZ P 110 (Fn.run wE):=by
 refine aH (JE C hC) fun ds rows r h=>?_
 obtain⟨d0,d1,t,d,rfl,rfl,g0,g1,hp,rfl⟩:=dq h
 cases dL g0
 cases aF g1
 simp only[decide_eq_true_eq]at hp
 refine⟨rfl,ag rfl ?_⟩
 clear h g0 g1
 unfold zN zO
 have hz:D.agg pD [.raw (it 0),.raw (it 0),.raw (it 0)]=iR ⟨0,0,0⟩:=rfl
 simp only[hz]
 cases hk:sH t.toNat
 ·have kP:=fun rows k=>mY rows k t
  rw[hk]at kP
  simp only[↓aj,ak,simprocAttr,aa,aX,aW,h1,kP,cQ,Bool.not_false,cond_false]
  exact .Wl _
 ·have kP:=fun rows k=>mY rows k t
  have hx:=j8 hk
  have hpt:pT t.toNat=(uB t.toNat).p:=rfl
  rw[fz,hpt]
  rw[hk]at kP
  generalize uB t.toNat=x at*
  obtain⟨hw,Mj,sG,hs,hl,p8⟩:=hx
  have kE:=fun rows k=>kEnd rows k x hw
  have g0:(iR x).get [0]=some (.raw (it (x.w:Int))):=rfl
  have g1:(iR x).get [1]=some (.raw (it (x.p:Int))):=rfl
  have g2:(iR x).get [2]=some (.raw (it (x.l:Int))):=rfl
  have q1:wz (Int.tdiv 256 (x.w:Int))=((256/x.w:Nat):Int):=tdivN 256 x.w (by decide)
  have hw0:((x.w:Int)=0)=False:=eq_false (by have:=Iw.1 hw;omega)
  have hw0':((x.w:Int)≠0)=True:=eq_true (by have:=Iw.1 hw;omega)
  simp only[↓aj,ak,simprocAttr,aa,aX,aW,h1,kP,cQ,g0,q1,hw0,hw0',Bool.not_true,cond_true]
  have hpw:2^x.w≤256:=by rcases Iw.1 hw with h|h|h|h<;>rw[h]<;>decide
  have h256:256/x.w≤256:=Nat.div_le_self _ _
  have b0:∀n:Nat,((0:Int)≤(n:Int))=True:=fun n=>eq_true (by omega)
  refine bB (256/x.w) (fun i env rows=>has env [(22,.raw (it (i:Int))),(21,.raw (it ((256/x.w:Nat):Int))),(7,.raw (it (Ar d x.w i:Int))),(5,.ptr pD 1 [0]),(3,.ptr (.ar 32 L8) 0 [0])]∧
   rows=[some ⟨.ar 32 L8,[.agg (.ar 32 L8) (bs d)]⟩,some ⟨pD,[iR x]⟩]) ?_ ?_ ⟨?_,rfl⟩
  ·rintro i hi env rows ⟨hh,rfl⟩ R hR
   simp only[has]at hh
   have e0:((i:Int)<((256/x.w:Nat):Int))=True:=eq_true (by omega)
   have e1:=cE i (by omega)
   have hc:=MB d i x.w hw
   have jO:=QL d x.w i
   have hsl2:i*(2^x.w-1)≤256*255:=Nat.mul_le_mul (by omega) (by omega)
   have kc:=fun k=>XD [some ⟨.ar 32 L8,[.agg (.ar 32 L8) (bs d)]⟩,some ⟨pD,[iR x]⟩] k (.sl L8 0 [0] 0 32 true) d i x.w (bc.r9 (n:=32) rfl rfl hp) (by omega) hw (by rw[hp];omega)
   have q2:wz (((2^x.w-1:Nat):Int)-(qC d i x.w:Int))=((2^x.w-1-qC d i x.w:Nat):Int):=by rw[bf (by omega)];omega
   have q3:wz ((Ar d x.w i:Int)+((2^x.w-1-qC d i x.w:Nat):Int))=(Ar d x.w (i+1):Int):=by rw[bf (by omega),Ar];omega
   simp only[↓aj,ak,simprocAttr,aa,aX,hh,e0,e1,cQ,h2,kE,g0,h3,kc,q2,q3]
   exact hR _ _ ⟨by simp only[has,↓aj,ak,simprocAttr,aa,hh],rfl⟩
  ·rintro env rows ⟨hh,rfl⟩ R
   simp only[has]at hh
   have e0:(((256/x.w:Nat):Int)<((256/x.w:Nat):Int))=False:=eq_false (by omega)
   have jO:=QL d x.w (256/x.w)
   have hbd:Ar d x.w (256/x.w)*2^x.l<65536:=Nat.lt_of_le_of_lt (Nat.mul_le_mul_right _ jO) hs
   have kS:=fun k=>Mz (Ar d x.w (256/x.w)) x.l .i64 (by omega) (by omega) k
   have kS':∀k,bE .shl (it (Ar d x.w (256/x.w):Int)) (it (x.l:Int)) k=k (.raw (it ((Ar d x.w (256/x.w)*2^x.l:Nat):Int))):=kS
   have kT:=fun rows k=>kTwo rows k _ hbd
   have lz:(F3 x d).length=34:=by rw[F3,List.length_append,hp];rfl
   have hfd:bs d++bs (uG (Ar d x.w (256/x.w)*2^x.l))=bs (F3 x d):=nU _ _
   have ea:∀L ex,elems ([some ⟨.ar 32 L8,[.agg (.ar 32 L8) (bs d)]⟩,some ⟨pD,[iR x]⟩]++L) (.sl L8 0 [0] 0 32 ex)=some (bs d):=fun L ex=>oG (n:=32) rfl rfl hp
   simp only[↓aj,ak,simprocAttr,aa,aX,hh,e0,cQ,g2,kS',h4,kT]
   have tk:∀m,List.take 2 (bs (uG m))=bs (uG m):=fun m=>rfl
   have bl:∀m,(bs (uG m)).length=2:=fun m=>rfl
   rw[tk]
   refine⟨rfl,app_arr (oG (n:=32) rfl rfl hp) (by rw[aC];exact hp) (by rw[bl];decide) (by rw[bl];decide) ?_⟩
   rw[hfd,bl]
   simp only[↓aj,ak,simprocAttr,aa,aX,hh,cQ,g1]
   refine⟨by omega,by omega,by omega,?_⟩
   have qY:∀i,(vQ x d i).length=i:=fun i=>by simp[vQ]
   have hds:∀i,(vQ x d i).map vR++[.raw (it (qC (F3 x d) i x.w:Int))]=(vQ x d (i+1)).map vR:=fun i=>by simp[vQ,List.range_succ,vR]
   refine bB x.p (fun i env rows=>has env [(48,.raw (it (i:Int))),(47,.raw (it (x.p:Int))),(9,.sl L8 3 [] 0 34 false),(5,.ptr pD 1 [0])]∧
    live rows 3=some ⟨L8,bs (F3 x d)⟩∧live rows 1=some ⟨pD,[iR x]⟩∧∃d',look env 10=some d'∧iK LI d' rows ((vQ x d i).map vR)) ?_ ?_ ⟨?_,rfl,rfl,.sl LI 4 [] 0 0 (decide (0=(x.p:Int))),?_,.inr ⟨4,_,rfl,rfl⟩⟩
   ·clear hh
    rintro i hi env rows ⟨hh,r3,r1,d',h10,hO⟩ R hR
    simp only[has]at hh
    have e0:((i:Int)<(x.p:Int))=True:=eq_true (by omega)
    have e1:=cE i (by omega)
    have kc:=fun k=>XD rows k (.sl L8 3 [] 0 34 false) (F3 x d) i x.w (bc.own r3 _ lz.symm) (by omega) hw (by rw[lz];omega)
    have eb:∀v ex,elems (rows++[some ⟨LI,[.raw (it v)]⟩]) (.sl LI rows.length [] 0 1 ex)=some [.raw (it v)]:=fun v ex=>by
     have:live (rows++[some ⟨LI,[.raw (it v)]⟩]) rows.length=some ⟨LI,[.raw (it v)]⟩:=by rw[b6];rfl
     simp only[elems,this];rfl
    simp only[↓aj,ak,simprocAttr,aa,aX,hh,e0,e1,h10,cQ,r1,g0,h3,kc,eb]
    refine iX hO.push (by rw[List.length_map,qY];simp[most];omega) (by rw[List.length_map,qY];simp[most];omega) fun d2 ab F4 oD vS _=>?_
    rw[hds]at F4
    have r3':=oD 3 _ (aA r3 _) (fun ex=>ia hO r3 (by decide) ex _)
    have r1':=oD 1 _ (aA r1 _) (fun ex=>ia hO r1 (by decide) ex _)
    simp only[↓aj,ak,simprocAttr,aa,aX,hh,e1]
    exact hR _ _ ⟨by simp only[has,↓aj,ak,simprocAttr,aa,hh],r3',r1',d2,by simp only[↓aj,ak,simprocAttr,aa],F4⟩
   ·clear hh
    rintro env rows ⟨hh,r3,r1,d',h10,hO⟩ R
    simp only[has]at hh
    have e0:((x.p:Int)<(x.p:Int))=False:=eq_false (by omega)
    simp only[↓aj,ak,simprocAttr,aa,aX,hh,e0,h10,hO.mI]
    have:=iK.QM hO rfl
    rw[List.length_map]at this
    exact this
   ·simp only[has,↓aj,ak,simprocAttr,aa,hh]
   ·simp only[↓aj,ak,simprocAttr,aa]
  ·simp only[has,↓aj,ak,simprocAttr,aa]
   rfl
theorem J3(rows:Rows)(k:D→Rows→Prop)(t:BitVec 32)(d:List (BitVec 8))(hd:d.length=32)(ht:sH t.toNat=true):
  aJ wE rows k [.raw (u32 t),.agg (.ar 32 L8) (bs d)]=k (.sl LI (0+rows.length) [] 0 (pT t.toNat) false) (rows++[some ⟨LI,(fz t.toNat d).map vR⟩]):=by
 refine(jB (bT.raw (fK t)) (iQ d) (by simp[hd]) rfl k).trans ?_
 have hl:(fz t.toNat d).length=pT t.toNat:=by simp[fz,vQ]
 simp[ht,outI,shift,ae,Sh.pure,hl]
def DI(t:Nat)(s:Site)(aL:List (BitVec 8)):List (BitVec 8):=CW s.id s.q (vN s.id s.q aL (2^wT t-1) (pT t))
theorem bT.dlOwn{rows:Rows}{d:D}{l:List (List (BitVec 8))}(h:iK (.ar 32 L8) d rows (l.map aW)):bT rows (oo (.ar 32 L8) aW) d l:=by
 rcases h with⟨h,rfl⟩|⟨r,ex,rfl,h⟩
 ·have:l=[]:=by cases l with|nil=>rfl|cons x l=>cases h
  subst this
  exact bT.raw (by rfl)
 ·exact bT.dl h (by rw[List.length_map])
theorem O9{w:Nat}(h:w4 w=true):2^w≤256:=by rcases Iw.1 h with h|h|h|h<;>rw[h]<;>decide
theorem TO{s:Sh}{rows:Rows}{d:D}(ex:Bool):elems (rows++[some ⟨s,[d]⟩]) (.sl s rows.length [] 0 1 ex)=some [d]:=by
 have:live (rows++[some ⟨s,[d]⟩]) rows.length=some ⟨s,[d]⟩:=by rw[b6];rfl
 simp only[elems,this];rfl
noncomputable def D7:Fn:=G2 qN (b8 fb) (b8 aW) (fun _ s x=>decide (s.id.length=16)&&decide (x.length=32)) fun t s x=>bif sH t.toNat then(.cA [aW (DI t.toNat s x),.raw (it 0)],[])else(.cA [aW ug,.raw (it 6)],[])
theorem TP(C:be)(hC:aI C P)(h1:C.fn 37=some l6)(h2:C.fn 99=some TL)(h3:C.fn 100=some Ap)(h4:C.fn 98=some BL)(h5:C.fn 101=some My):aO C.aZ P 39 (Fn.run D7):=by
 refine aH (Jx C hC) fun ds rows r h=>?_
 obtain⟨d0,d1,d2,t,s,aL,rfl,rfl,g0,g1,g2,hp,rfl⟩:=fq h
 cases dL g0
 cases aF g1
 cases aF g2
 simp only[Bool.and_eq_true,decide_eq_true_eq]at hp
 obtain⟨gV,qX⟩:=hp
 clear h g0 g1 g2
 have hz:D.agg pD [.raw (it 0),.raw (it 0),.raw (it 0)]=iR ⟨0,0,0⟩:=rfl
 have kP:=fun rows k=>mY rows k t
 cases hk:sH t.toNat
 ·rw[hk]at kP
  refine⟨rfl,ag rfl ?_⟩
  unfold tc td
  simp only[hz,dW]
  simp only[↓aj,ak,simprocAttr,aa,aX,aW,h1,kP,cQ,dw,Bool.not_false,cond_false]
  exact .val _ rfl
 ·have hx:=j8 hk
  have ew:wT t.toNat=(uB t.toNat).w:=rfl
  have ep:pT t.toNat=(uB t.toNat).p:=rfl
  have hps:DI t.toNat s aL=CW s.id s.q (vN s.id s.q aL (2^(uB t.toNat).w-1) (uB t.toNat).p):=rfl
  rw[hps]
  rw[hk]at kP
  refine⟨rfl,ag rfl ?_⟩
  unfold tc td
  simp only[hz,dW]
  generalize uB t.toNat=x at*
  obtain⟨hw,Mj,sG,hs,hl,p8⟩:=hx
  have hpw:=O9 hw
  have kE:=fun rows k=>kEnd rows k x hw
  have g1:(iR x).get [1]=some (.raw (it (x.p:Int))):=rfl
  simp only[↓aj,ak,simprocAttr,aa,aX,aW,h1,kP,cQ,dw,g1,Bool.not_true,cond_true]
  refine⟨by omega,by omega,by omega,?_⟩
  have hds:∀i,(vN s.id s.q aL (2^x.w-1) i).map aW++[.agg (.ar 32 L8) (bs (Hn s.id s.q i (2^x.w-1-0) 0 (DH s.id s.q i aL)))]=(vN s.id s.q aL (2^x.w-1) (i+1)).map aW:=fun i=>by simp[vN,List.range_succ,aW]
  have qY:∀i,(vN s.id s.q aL (2^x.w-1) i).length=i:=fun i=>by simp[vN]
  refine bB x.p (fun i env rows=>has env [(25,.raw (it (i:Int))),(24,.raw (it (x.p:Int))),(8,.ptr pD 3 [0]),(6,.ptr (.ar 32 L8) 2 [0]),(5,.ptr (.ar 32 L8) 1 [0]),(4,.ptr vP 0 [0])]∧
   live rows 0=some ⟨vP,[fb s]⟩∧live rows 1=some ⟨.ar 32 L8,[.agg (.ar 32 L8) (bs aL)]⟩∧live rows 2=some ⟨.ar 32 L8,[.agg (.ar 32 L8) (bs ug)]⟩∧live rows 3=some ⟨pD,[iR x]⟩∧
   ∃d',look env 10=some d'∧iK (.ar 32 L8) d' rows ((vN s.id s.q aL (2^x.w-1) i).map aW)∧(∀r ex n,d'= .sl (.ar 32 L8) r [] 0 n ex→4≤r)) ?_ ?_ ⟨?_,rfl,rfl,rfl,rfl,.sl (.ar 32 L8) 4 [] 0 0 (decide (0=(x.p:Int))),?_,.inr ⟨4,_,rfl,rfl⟩,fun r ex n h=>?_⟩
  ·rintro i hi env rows ⟨hh,r0,r1,r2,r3,d',h10,hO,hne⟩ R hR
   simp only[has]at hh
   have e0:((i:Int)<(x.p:Int))=True:=eq_true (by omega)
   have e1:=cE i (by omega)
   have kS:=fun rows k=>QK rows k s i aL gV (by omega) qX
   have kC:=fun rows k=>O8 rows k s i 0 (2^x.w-1) (DH s.id s.q i aL) gV (by omega) (by decide) (by omega) (oH _ _ _ _ _)
   rw[show((0:Nat):Int)=0 from rfl]at kC
   have lt3:=bn r3
   simp only[↓aj,ak,simprocAttr,aa,aX,hh,e0,e1,h10,cQ,dw,r0,r1,r3,h2,kE,h3,kS,h4,kC,TO]
   refine Ao hO.push (by rw[List.length_map,qY];simp[most];omega) (by rw[List.length_map,qY];simp[most];omega) fun ab mh oD vS=>?_
   rw[hds,List.length_append]at mh
   have mh:live ab (rows.length+1)=_:=mh
   have hfr':∀r row,r<4→live rows r=some row→live ab r=some row:=fun r row hr hl=>oD r row (aA hl _) (fun ex n e=>by have:=hne _ _ _ e;omega)
   simp only[↓aj,ak,simprocAttr,aa,aX,hh,e1]
   exact hR _ _ ⟨by simp only[has,↓aj,ak,simprocAttr,aa,hh],hfr' 0 _ (by omega) r0,hfr' 1 _ (by omega) r1,hfr' 2 _ (by omega) r2,hfr' 3 _ (by omega) r3,.sl (.ar 32 L8) (rows.length+1) [] 0 ((vN s.id s.q aL (2^x.w-1) i).length+1) false,by simp only[↓aj,ak,simprocAttr,aa],.inr ⟨_,false,by rw[List.length_map,qY,qY],mh⟩,fun r ex n e=>by injection e with _ e;omega⟩
  ·rintro env rows ⟨hh,r0,r1,r2,r3,d',h10,hO,hne⟩ R
   simp only[has]at hh
   have e0:((x.p:Int)<(x.p:Int))=False:=eq_false (by omega)
   have w2:=fun y=>aG (y:=y) r2
   simp only[↓aj,ak,simprocAttr,aa,aX,hh,e0,h10,r0,dw,h5]
   refine Eq.mpr (kFold _ _ s _ _ (bT.dlOwn hO) gV (Xt _ _ _ _ _) (by rw[qY];omega)) ?_
   simp only[↓aj,ak,simprocAttr,aa,aX,hh,r2,w2]
   exact .val _ rfl
  ·simp only[has,↓aj,ak,simprocAttr,aa]
  ·simp only[↓aj,ak,simprocAttr,aa]
  ·injection h with _ h;omega
theorem kPublic(rows:Rows)(k:D→Rows→Prop)(t:BitVec 32)(s:Site)(x:List (BitVec 8))(gV:s.id.length=16)(hx:x.length=32)(ht:sH t.toNat=true):
  aJ D7 rows k [.raw (u32 t),fb s,.agg (.ar 32 L8) (bs x)]=k (.cA [.agg (.ar 32 L8) (bs (DI t.toNat s x)),.raw (it 0)]) rows:=by
 refine(fT (bT.raw (fK t)) (jC s rows) (iQ x) (by simp[gV,hx]) (by simp[ht,bZ,fI,aW,Sh.pure,aS]) k).trans ?_
 simp[ht,aW,shift,bh,ae,Sh.pure]
def F5:Fn:=wS dN dN (fun a b=>Nat.ble a.length most&&Nat.ble b.length most) fun a b=>(.raw (.bool (decide (a=b))),[])
theorem XE(C:be)(hC:aI C P):aO C.aZ P 94 (Fn.run F5):=by
 refine cr (Hg C hC) fun ds rows r h=>?_
 obtain⟨d,e,a,b,rfl,rfl,hd,he,hp,rfl⟩:=dq h
 obtain⟨x,hx⟩:=cy hd
 obtain⟨y,hy⟩:=cy he
 refine⟨rfl,_,.cons hx (.cons hy .nil),ag rfl ?_⟩
 unfold xB xC
 simp only[↓aj,ak,simprocAttr,aa,amC]
 refine⟨ec.eK (.inr ⟨x,rfl⟩),?_⟩
 simp only[QE,↓aj,ak,simprocAttr,aa]
 refine⟨ec.eK (.inr ⟨y,rfl⟩),?_⟩
 simp only[ByteArray.toList_eq,List.toList_toArray,ub_beq]
 exact .val _ rfl
theorem Pa(rows:Rows)(k:D→Rows→Prop)(d e:D)(p q:List (BitVec 8))(h:bc rows d p)(h':bc rows e q)(hp:p.length≤1099511627776)(hq:q.length≤1099511627776):aJ F5 rows k [d,e]=k (.raw (.bool (decide (p=q)))) rows:=by
 refine(Bl h h' (by simpa[most]using⟨hp,hq⟩) rfl).trans ?_
 simp[shift,ae]
structure JS where
 q:BitVec 32
 a:Int
 t:Int
 n:Int
 deriving DecidableEq
abbrev SJ:Sh:= .cons dk (.cons LI (.cons LI (.cons LI .nil)))
def jD(s:JS):D:= .agg SJ [.raw (u32 s.q),.raw (it s.a),.raw (it s.t),.raw (it s.n)]
theorem yG(x y:JS)(h:jD x=jD y):x=y:=by
 obtain⟨a,b,c,d⟩:=x
 obtain⟨a',b',c',d'⟩:=y
 simp only[jD,D.agg.injEq,List.cons.injEq,D.raw.injEq,E9,QA,and_true,true_and]at h
 obtain⟨rfl,rfl,rfl,rfl⟩:=h
 rfl
theorem Pb(s:JS):aQ (jD s)=false:=rfl
theorem cw(s:JS):(jD s).fits SJ=true:=rfl
theorem F6(n:Nat)(s:JS):shift n (jD s)=jD s:=by simp[jD,shift,Sh.pure]
theorem F7(s:JS):(jD s).get [0]=some (.raw (u32 s.q)):=rfl
theorem uh(s:JS):(jD s).get [1]=some (.raw (it s.a)):=rfl
theorem As(s:JS):(jD s).get [2]=some (.raw (it s.t)):=rfl
theorem QN(s:JS):(jD s).get [3]=some (.raw (it s.n)):=rfl
theorem Pc(a b:JS):eqA SJ (jD a) (jD b)=some (decide (a=b)):=by
 obtain⟨q,x,y,z⟩:=a
 obtain⟨q',x',y',z'⟩:=b
 have p8:∀p p':BitVec 32,(p.toNat:Int)=(p'.toNat:Int)↔p=p':=fun p p'=>⟨fun h=>BitVec.eq_of_toNat_eq (by omega),fun h=>by rw[h]⟩
 simp only[jD,eqA,beq_self_eq_true,Bool.and_self,cond_true,yV,sK,gW,u32,it,JS.mk.injEq]
 by_cases h1:q=q'<;>by_cases h2:x=x'<;>by_cases h3:y=y'<;>by_cases h4:z=z'<;>simp[h1,h2,h3,h4,p8]
def iE(i:Int):Bool:=decide (i=0)||decide (i=1)
def Au:Fn:=lE rC (fun _=>true) fun i=>(.raw (.bool (iE i)),[])
theorem slot_ok(C:be)(hC:aI C P):aO C.aZ P 120 (Fn.run Au):=by
 refine aH (FA C hC) fun ds rows r h=>?_
 obtain⟨d,i,rfl,rfl,hd,hp,rfl⟩:=a8 h
 cases bX hd
 refine⟨rfl,ag rfl ?_⟩
 clear h hd
 unfold vD vE iE
 by_cases c:i=0
 ·have c1:(i=0)=True:=eq_true c
  simp only[↓aj,ak,simprocAttr,aa,c1,decide_true,Bool.true_or]
  exact .val _ rfl
 ·have c1:(i=0)=False:=eq_false c
  simp only[↓aj,ak,simprocAttr,aa,c1,decide_false,Bool.false_or]
  exact .val _ rfl
theorem XF(rows:Rows)(k:D→Rows→Prop)(i:Int):aJ Au rows k [.raw (it i)]=k (.raw (.bool (iE i))) rows:=by
 refine(bi rfl (ei (nS i) rfl)).trans ?_
 simp[shift,ae]
def bK(s:JS):Bool:=iE s.a&&(iE s.t||(decide (s.t=-1)&&decide (s.n=0)))&&decide (0≤s.n)&&decide (s.n≤3)
noncomputable def mZ:Fn:=lE (b8 jD) (fun _=>true) fun s=>(.raw (.bool (bK s)),[])
set_option maxHeartbeats 1000000 in
theorem TQ(C:be)(hC:aI C P)(hs:C.fn 120=some Au):aO C.aZ P 59 (Fn.run mZ):=by
 refine aH (uw C hC) fun ds rows r h=>?_
 obtain⟨d,s,rfl,rfl,hd,hp,rfl⟩:=a8 h
 cases aF hd
 refine⟨rfl,ag rfl ?_⟩
 clear h hd
 obtain⟨q,a,t,n⟩:=s
 unfold mu mw
 rcases Classical.em (t=-1)with c1|c1<;>rcases Classical.em (n=0)with c2|c2<;>rcases Classical.em (0≤n)with c3|c3<;>rcases Classical.em (n≤3)with c4|c4<;>
  (have e1:=c1;have e2:=c2;have e3:=c3;have e4:=c4
   first|replace e1:=eq_false e1|replace e1:=eq_true e1
   first|replace e2:=eq_false e2|replace e2:=eq_true e2
   first|replace e3:=eq_false e3|replace e3:=eq_true e3
   first|replace e4:=eq_false e4|replace e4:=eq_true e4
   clear c1 c2 c3 c4
   cases h1:iE t<;>cases h2:iE a<;>
    (simp only[↓aj,ak,simprocAttr,aa,jD,bK,hs,XF,h1,h2,e1,e2,e3,e4,decide_true,decide_false];exact .val _ rfl))
theorem Pe(C:be)(hC:aI C P):aO C.aZ P 16 (Fn.run mZ):=by
 refine aH (Ha C hC) fun ds rows r h=>?_
 obtain⟨d,s,rfl,rfl,hd,hp,rfl⟩:=a8 h
 cases aF hd
 refine⟨rfl,ag rfl ?_⟩
 clear h hd
 obtain⟨q,a,t,n⟩:=s
 unfold xj xk
 rcases Classical.em (a<0)with c0|c0
 ·have e0:=eq_true c0
  have h2:iE a=false:=by unfold iE;rw[decide_eq_false (by omega),decide_eq_false (by omega)];rfl
  simp only[↓aj,ak,simprocAttr,aa,jD,bK,h2,e0,decide_true,decide_false]
  exact .val _ rfl
 rcases Classical.em (1<a)with c1|c1
 ·have e0:=eq_false c0
  have e1:=eq_true c1
  have h2:iE a=false:=by unfold iE;rw[decide_eq_false (by omega),decide_eq_false (by omega)];rfl
  simp only[↓aj,ak,simprocAttr,aa,jD,bK,h2,e0,e1,decide_true,decide_false]
  exact .val _ rfl
 have e0:=eq_false c0
 have e1:=eq_false c1
 have h2:iE a=true:=by
  unfold iE
  have:a=0∨a=1:=by omega
  rcases this with rfl|rfl<;>rfl
 rcases Classical.em (n<0)with c3|c3
 ·have e3:=eq_true c3
  have e4:(0≤n)=False:=eq_false (by omega)
  simp only[↓aj,ak,simprocAttr,aa,jD,bK,h2,e0,e1,e3,e4,decide_true,decide_false]
  try simp only[Bool.and_false,Bool.false_and]
  exact .val _ rfl
 rcases Classical.em (3<n)with c5|c5
 ·have e3:=eq_false c3
  have e4:(0≤n)=True:=eq_true (by omega)
  have e5:=eq_true c5
  have e6:(n≤3)=False:=eq_false (by omega)
  simp only[↓aj,ak,simprocAttr,aa,jD,bK,h2,e0,e1,e3,e4,e5,e6,decide_true,decide_false]
  try simp only[Bool.and_false,Bool.false_and]
  exact .val _ rfl
 have e3:=eq_false c3
 have e4:(0≤n)=True:=eq_true (by omega)
 have e5:=eq_false c5
 have e6:(n≤3)=True:=eq_true (by omega)
 have hR:∀b:Bool,((iE t||(decide (t=-1)&&decide (n=0)))=b)→bK ⟨q,a,t,n⟩=b:=fun b hb=>by
  simp only[bK,h2,hb]
  rw[decide_eq_true (by omega:0≤n),decide_eq_true (by omega:n≤3)]
  cases b<;>rfl
 rcases(by omega:t=-1∨t=0∨t=1∨(t≠-1∧t≠0∧t≠1))with rfl|rfl|rfl|⟨g1,g2,g3⟩
 ·rcases Classical.em (n=0)with c2|c2
  ·have f2:=eq_true c2
   have:=hR true (by rw[decide_eq_true c2];rfl)
   simp only[↓aj,ak,simprocAttr,aa,jD,this,e0,e1,e3,e5,f2,decide_true,decide_false]
   exact .val _ rfl
  ·have f2:=eq_false c2
   have:=hR false (by rw[decide_eq_false c2];rfl)
   simp only[↓aj,ak,simprocAttr,aa,jD,this,e0,e1,e3,e5,f2,decide_true,decide_false]
   exact .val _ rfl
 ·have:=hR true rfl
  simp only[↓aj,ak,simprocAttr,aa,jD,this,e0,e1,e3,e5,decide_true,decide_false]
  exact .val _ rfl
 ·have:=hR true rfl
  simp only[↓aj,ak,simprocAttr,aa,jD,this,e0,e1,e3,e5,decide_true,decide_false]
  exact .val _ rfl
 ·have f1:=eq_false g1
  have f2:=eq_false g2
  have f3:=eq_false g3
  have:=hR false (by unfold iE;rw[decide_eq_false g1,decide_eq_false g2,decide_eq_false g3];rfl)
  simp only[↓aj,ak,simprocAttr,aa,jD,this,e0,e1,e3,e5,f1,f2,f3,decide_true,decide_false]
  exact .val _ rfl
theorem J4(rows:Rows)(k:D→Rows→Prop)(s:JS):aJ mZ rows k [jD s]=k (.raw (.bool (bK s))) rows:=by
 refine(bi (by simp[aN,Pb]) (r:=(.raw (.bool (bK s)),[])) ?_).trans ?_
 ·rw[mZ,ei (bV yG s) rfl]
 ·simp[shift,ae]
theorem MC{s:JS}(h:bK s=true):∃a t n:Nat,s.a=a∧s.t=(t:Int)-1∧s.n=n∧a≤1∧t≤2∧n≤3:=by
 simp only[bK,iE,Bool.and_eq_true,Bool.or_eq_true,decide_eq_true_eq]at h
 obtain⟨⟨⟨h1,h2⟩,h3⟩,h4⟩:=h
 exact⟨s.a.toNat,(s.t+1).toNat,s.n.toNat,by omega,by omega,by omega,by omega,by omega,by omega⟩
def bctl:List (BitVec 8):=[66#8,67#8,84#8,76#8]
def tailJ(s:JS):List (BitVec 8):=[BitVec.ofInt 8 s.a,BitVec.ofInt 8 (s.t+1),BitVec.ofInt 8 s.n,0#8]
def Av(s:JS):List (BitVec 8):=bctl++(bC s.q++tailJ s)
def cU(s:JS):List (BitVec 8):=Av s++(dU (Av s)).take 20
theorem D8(s:JS):(Av s).length=12:=rfl
theorem QO(p:List (BitVec 8)):((dU p).take 20).length=20:=by rw[List.length_take,dh];rfl
theorem eY(s:JS):(cU s).length=32:=by rw[cU,List.length_append,D8,QO]
noncomputable def qD:Fn:=lE (b8 jD) (fun _=>true) fun s=>bif bK s then ez (cU s) false else(.raw (.slice none 0 0),[])
theorem TR(C:be)(hC:aI C P)(hr:C.fn 59=some mZ)(hs:C.fn 95=some BI):aO C.aZ P 60 (Fn.run qD):=by
 refine aH (ux C hC) fun ds rows r h=>?_
 obtain⟨d,s,rfl,rfl,hd,hp,rfl⟩:=a8 h
 cases aF hd
 refine⟨rfl,ag rfl ?_⟩
 clear h hd hp
 unfold my mz
 have kr:=fun rows k=>J4 rows k s
 cases hk:bK s
 ·rw[hk]at kr
  simp only[↓aj,ak,simprocAttr,aa,cw,hr,kr,cond_false]
  exact .val _ rfl
 ·rw[hk]at kr
  obtain⟨a,t,n,ha,ht,hn,b1,b2,b3⟩:=MC hk
  have w:wz (s.t+1)=s.t+1:=bf (by omega)
  simp only[↓aj,ak,simprocAttr,aa,aX,cw,F7,uh,As,QN,w,hr,kr,cond_true]
  have hpre:[D.raw (u8 66#8),D.raw (u8 67#8),D.raw (u8 84#8),D.raw (u8 76#8),.raw (u8 ((s.q>>>24).setWidth 8)),.raw (u8 ((s.q>>>16).setWidth 8)),.raw (u8 ((s.q>>>8).setWidth 8)),.raw (u8 (s.q.setWidth 8)),.raw (u8 (BitVec.ofInt 8 s.a)),.raw (u8 (BitVec.ofInt 8 (s.t+1))),.raw (u8 (BitVec.ofInt 8 s.n)),.raw (u8 0#8)]=bs (Av s):=rfl
  rw[hpre]
  have pl:(bs (Av s)).length=12:=rfl
  have lz:[Av s].flatten=Av s:=by simp
  simp only[hs]
  refine Eq.mpr (O2 _ _ 4 1 _ _ [Av s] rfl rfl (.cons (bc.own (l:=Av s) rfl 12 rfl) .nil) (by simp) (by rw[lz,D8];omega)) ?_
  rw[lz]
  have jO:(bs (dU (Av s))).length=32:=by rw[aC,dh]
  have JW:cU s=Av s++(dU (Av s)).take 20:=rfl
  have Ow:=eY s
  have hp0:=D8 s
  generalize cU s=B at JW Ow⊢
  generalize Av s=p at JW jO pl hp0⊢
  have e20:(bs ((dU p).take 20)).length=20:=by rw[aC,QO]
  have t12:p.take 12=p:=List.take_of_length_le (by omega)
  simp only[↓aj,ak,simprocAttr,aa,jO,el_sp,Mm,List.drop_zero,ey,e20,t12,pl]
  rw[nU,←JW]
  have hO:ez B false=(.sl L8 0 [] 0 32 false,[some ⟨L8,bs B⟩]):=by rw[ez,Ow]
  rw[hO]
  exact .own L8 6 0 32 false false _ rfl rfl id
theorem QP(rows:Rows)(k:D→Rows→Prop)(s:JS)(h:bK s=true):aJ qD rows k [jD s]=k (.sl L8 (0+rows.length) [] 0 32 false) (rows++[some ⟨L8,bs (cU s)⟩]):=by
 refine(bi (by simp[aN,Pb]) (r:=ez (cU s) false) ?_).trans ?_
 ·rw[qD,ei (bV yG s) rfl,h];rfl
 ·simp[ez,shift,ae,eY,Sh.pure]
theorem kBytesN(rows:Rows)(k:D→Rows→Prop)(s:JS)(h:bK s=false):aJ qD rows k [jD s]=k (.raw (.slice none 0 0)) rows:=by
 refine(bi (by simp[aN,Pb]) (r:=(.raw (.slice none 0 0),[])) ?_).trans ?_
 ·rw[qD,ei (bV yG s) rfl,h];rfl
 ·simp[shift,ae]
end iC
end Go.Am

import Derived.Test.YtgcejocgnfkciaaGreatDoorKr17
namespace Go.Am
set_option linter.unusedSimpArgs false
set_option linter.unusedVariables false
attribute [local congr] cd bt cg bu bw bO bg bx bz bP a7 bQ bA b9
namespace iC
open Go.Am.F
set_option maxRecDepth 10000
def QW:Fn:=lE dN (fun p=>decide (p.length≤1000)) fun p=>MD (words (p.length/4) p)
theorem numb_ok(C:be)(hC:aI C P):aO C.aZ P 106 (Fn.run QW):=by
 refine cr (JD C hC) fun ds rows r h=>?_
 obtain⟨d,p,rfl,rfl,hd,hp,rfl⟩:=a8 h
 obtain⟨e0,hx⟩:=cy hd
 simp only[decide_eq_true_eq]at hp
 refine⟨rfl,_,.cons hx .nil,ag rfl ?_⟩
 clear h hd hx
 unfold zJ zK
 simp only[↓aj,ak,simprocAttr,aa]
 refine bB (p.length/4) (fun i env rows=>(∃e,look env 0=some (.cF L8 (bs (p.drop (4*i))) e))∧∃d,look env 3=some d∧iK dk d rows (us (words i p))) ?_ ?_ ⟨⟨e0,?_⟩,_,?_,.nil⟩
 ·rintro i hi env rows ⟨⟨e,h0⟩,d,h3,hO⟩ R hR
  have hw:=yE i p
  have hq:4≤(p.drop (4*i)).length:=by rw[List.length_drop];omega
  have hdd:p.drop (4*(i+1))=(p.drop (4*i)).drop 4:=by rw[List.drop_drop];rfl
  have hb:(p.drop (4*i)).length≤1000:=by rw[List.length_drop];omega
  rw[oF _ 4 (Nat.le_refl _)]at hw
  simp only[hdd]at hR
  clear hdd
  generalize p.drop (4*i)=q at*
  have e0:((4:Int)≤((q.length:Nat):Int))=True:=eq_true (by omega)
  have gi:∀j:Nat,j<4→(bs q)[j]?=some (.raw (u8 (q.getD j 0#8))):=fun j hj=>mJ (by omega)
  have g0:=gi 0 (by decide)
  have g1:=gi 1 (by decide)
  have g2:=gi 2 (by decide)
  have g3:=gi 3 (by decide)
  have l0:((0:Int)<((q.length:Nat):Int))=True:=eq_true (by omega)
  have l1:((1:Int)<((q.length:Nat):Int))=True:=eq_true (by omega)
  have l2:((2:Int)<((q.length:Nat):Int))=True:=eq_true (by omega)
  have l3:((3:Int)<((q.length:Nat):Int))=True:=eq_true (by omega)
  have hT:(bs (q.drop 4)).take (q.length-4)=bs (q.drop 4):=List.take_of_length_le (by rw[aC,List.length_drop];omega)
  simp only[↓aj,ak,simprocAttr,aa,aX,h0,h3,aC,e0,g0,g1,g2,g3,l0,l1,l2,l3]
  refine iX hO.push (by rw[mN,eX];simp[most];omega) (by rw[mN,eX];simp[most];omega) fun d2 ab F4 oD vS _=>?_
  have hO2:iK dk d2 ab (us (words (i+1) p)):=by
   rw[hw,←OU];exact F4
  simp only[↓aj,ak,simprocAttr,aa,aX,h0,aC,fw,hT,e0,Int.toNat_natCast]
  exact hR _ _ ⟨⟨_,rfl⟩,d2,by simp only[↓aj,ak,simprocAttr,aa],hO2⟩
 ·rintro env rows ⟨⟨e,h0⟩,d,h3,hO⟩ R
  have e0:((4:Int)≤(((p.drop (4*(p.length/4))).length:Nat):Int))=False:=eq_false (by rw[List.length_drop];omega)
  simp only[↓aj,ak,simprocAttr,aa,h0,h3,aC,e0,hO.mI]
  have:=iK.QM hO rfl
  rw[mN,eX]at this
  rw[MD,eX]
  exact this
 ·simp only[↓aj,ak,simprocAttr,aa]
 ·simp only[↓aj,ak,simprocAttr,aa]
theorem kNumb(rows:Rows)(k:D→Rows→Prop)(d:D)(p:List (BitVec 8))(h:bc rows d p)(hp:p.length≤1000):aJ QW rows k [d]=k (.sl dk (0+rows.length) [] 0 (p.length/4) false) (rows++[some ⟨dk,us (words (p.length/4) p)⟩]):=by
 refine(cC (.bs h) (by simp[hp]) rfl k).trans ?_
 simp[MD,shift,ae,Sh.pure,eX]
theorem bT.usA{rows:Rows}{r n i:Nat}{q:List Nat}{ex:Bool}{row:Row}{l:List (BitVec 32)}(h:live rows r=some row)(hg:cP row.els (i::q)=some (.agg (.ar n dk) (iC.us l)))(hl:l.length=n):bT rows (oo dk uD) (.sl dk r (i::q) 0 n ex) l:=by
 refine⟨⟨.cF dk (iC.us l) ex,?_,FW XJ _ ex⟩,fun h=>by simp[aQ]at h⟩
 have:elems rows (.sl dk r (i::q) 0 n ex)=some (iC.us l):=by
  simp only[elems,h,hg]
  simp[List.take_of_length_le,mN,hl]
 simp only[view]
 rw[this]
 simp only[mN,hl]
 simp[Sh.pure]
abbrev Hp:Sh:= .cons LI (.cons dk .nil)
abbrev Wr:=Nat×BitVec 32
def wrD(p:Wr):D:= .agg Hp [.raw (it (p.1:Int)),.raw (u32 p.2)]
def ME(W:List (BitVec 32))(f:Nat)(l:List (BitVec 32))(i:Nat):List Wr:=
 if W.getD (f+i) 0#32|||l.getD i 0#32=W.getD (f+i) 0#32 then[]else[(f+i,W.getD (f+i) 0#32|||l.getD i 0#32)]
def pE(W:List (BitVec 32))(f:Nat)(l:List (BitVec 32)):Nat→List Wr
 |0=>[]
 |n+1=>pE W f l n++ME W f l n
def iT(W:List (BitVec 32))(f:Nat)(l:List (BitVec 32)):List Wr:=pE W f l l.length
theorem si(W:List (BitVec 32))(f:Nat)(l:List (BitVec 32)):∀n,(pE W f l n).length≤n
 |0=>Nat.le_refl _
 |n+1=>by
  have:=si W f l n
  rw[pE,List.length_append,ME]
  split<;>simp<;>omega
def MF(l:List Wr):D×Rows:=(.sl Hp 0 [] 0 l.length false,[some ⟨Hp,l.map wrD⟩])
noncomputable def Iz:Fn:=G2 (b8 qZ) rC (oo dk uD) (fun c f l=>decide (c.ws.length=64)&&decide (0≤f)&&decide (f+l.length≤64)) fun c f l=>MF (iT c.w f.toNat l)
theorem plan_ok(C:be)(hC:aI C P)(h1:C.fn 76=some Aw):aO C.aZ P 107 (Fn.run Iz):=by
 refine cr (Dw C hC) fun ds rows r h=>?_
 obtain⟨d0,d1,d2,c,f0,l,rfl,rfl,hd,he,hf,hp,rfl⟩:=fq h
 cases aF hd
 cases bX he
 obtain⟨e,hx⟩:=wB hf
 simp only[Bool.and_eq_true,decide_eq_true_eq]at hp
 obtain⟨⟨hc,hf0⟩,hl⟩:=hp
 obtain⟨f,rfl⟩:=Int.eq_ofNat_of_zero_le hf0
 refine⟨rfl,_,.cons (.refl _) (.cons (.refl _) (.cons hx .nil)),ag rfl ?_⟩
 clear h hd he hf hx
 unfold tR tS
 have hm:c.w.length=64:=by rw[List.length_map,hc]
 have kA:=fun rows k=>Ix rows k c hc
 have hle:(l.map uD).length=l.length:=List.length_map ..
 rw[iT,Int.toNat_natCast]
 have g0:=fun i (hi:f+i<64)=>ku (l:=c.w) (i:=f+i) (by omega)
 simp only[↓aj,ak,simprocAttr,aa,hle]
 refine bB l.length (fun i env rows=>has env [(13,.raw (it (i:Int))),(12,.raw (it (l.length:Int))),(11,.cF dk (l.map uD) e),(1,.raw (it (f:Int))),(0,qZ c)]∧∃d,look env 7=some d∧iK Hp d rows ((pE c.w f l i).map wrD)) ?_ ?_ ⟨?_,_,?_,.nil⟩
 ·rintro i hi env rows ⟨hh,d,h7,hO⟩ R hR
  simp only[has]at hh
  have e0:((i:Int)<(l.length:Int))=True:=eq_true (by omega)
  have e1:=cE i (by omega)
  have e2:wz ((f:Int)+(i:Int))=((f+i:Nat):Int):=by rw[bf (by omega)];omega
  have e3:(((f+i:Nat):Int)<64)=True:=eq_true (by omega)
  have gi:=fun rows k=>J5 (s:=dk) (l:=l.map uD) (i:=i) (by omega) e rows k
  have gx:(l.map uD)[i]'(by omega)= .raw (u32 (l.getD i 0#32)):=by simp[List.getD,hi]
  rw[gx]at gi
  have g1:=g0 i (by omega)
  have sO:=si c.w f l i
  have hps:pE c.w f l (i+1)=pE c.w f l i++ME c.w f l i:=rfl
  rw[ME]at hps
  generalize l.getD i 0#32=v at*
  generalize c.w.getD (f+i) 0#32=o at*
  by_cases hv:o|||v=o
  ·have kU:(o|||v=o)=True:=eq_true hv
   rw[if_pos hv,List.append_nil]at hps
   simp only[↓aj,ak,simprocAttr,aa,aX,hh,h7,e0,e1,e2,e3,gi,h1,kA,g1,kU,Int.natCast_nonneg,Int.toNat_natCast,decide_true]
   exact hR _ _ ⟨by simp only[has,↓aj,ak,simprocAttr,aa,hh],d,by simp only[↓aj,ak,simprocAttr,aa,h7],by rw[hps];exact hO.push⟩
  ·have kU:(o|||v=o)=False:=eq_false hv
   rw[if_neg hv]at hps
   simp only[↓aj,ak,simprocAttr,aa,aX,hh,h7,e0,e1,e2,e3,gi,h1,kA,g1,kU,Int.natCast_nonneg,Int.toNat_natCast,decide_false]
   refine iX hO.push (by rw[List.length_map];simp[most];omega) (by rw[List.length_map];simp[most];omega) fun d2 ab F4 oD vS _=>?_
   simp only[↓aj,ak,simprocAttr,aa,aX,hh,e1]
   exact hR _ _ ⟨by simp only[has,↓aj,ak,simprocAttr,aa,hh],d2,by simp only[↓aj,ak,simprocAttr,aa],by rw[hps,List.map_append];exact F4⟩
 ·rintro env rows ⟨hh,d,h7,hO⟩ R
  simp only[has]at hh
  have e0:((l.length:Int)<(l.length:Int))=False:=eq_false (by omega)
  simp only[↓aj,ak,simprocAttr,aa,hh,h7,e0,hO.mI]
  have:=iK.QM hO rfl
  rw[List.length_map]at this
  exact this
 ·simp only[has,↓aj,ak,simprocAttr,aa]
 ·simp only[↓aj,ak,simprocAttr,aa]
theorem XL{rows:Rows}{d:D}(c:pU)(f:Nat)(fi:Int)(hf:fi=(f:Int)){l:List (BitVec 32)}(h:bT rows (oo dk uD) d l)(hc:c.ws.length=64)(hl:f+l.length≤64)(k:D→Rows→Prop):
  aJ Iz rows k [qZ c,.raw (it fi),d]=k (.sl Hp (0+rows.length) [] 0 (iT c.w f l).length false) (rows++[some ⟨Hp,(iT c.w f l).map wrD⟩]):=by
 subst hf
 refine(fT (.qZ c) (.int _) h (by simp[hc];omega) rfl k).trans ?_
 simp[MF,shift,ae,Sh.pure]
noncomputable def Ea:Fn:=wS (b8 qZ) rC (fun c n=>decide (c.ws.length=64)&&decide (1≤n)&&decide (n≤4)&&decide ((dH c:Int)<n)) fun c n=>
 (.cA [.sl Hp 0 [] 0 (iT c.w 0 [255#32<<<(8*(n.toNat-1))]).length false,.raw (it 0)],(MF (iT c.w 0 [255#32<<<(8*(n.toNat-1))])).2)
theorem TV(C:be)(hC:aI C P)(h1:C.fn 71=some Iy)(h2:C.fn 107=some Iz):aO C.aZ P 49 (Fn.run Ea):=by
 refine aH (zA C hC) fun ds rows r h=>?_
 obtain⟨d,e,c,n,rfl,rfl,hd,he,hp,rfl⟩:=dq h
 cases aF hd
 cases bX he
 simp only[Bool.and_eq_true,decide_eq_true_eq]at hp
 obtain⟨⟨⟨hc,hn1⟩,Ph⟩,hl⟩:=hp
 obtain⟨m,rfl⟩:∃m:Nat,n=((m+1:Nat):Int):=⟨n.toNat-1,by omega⟩
 refine⟨rfl,ag rfl ?_⟩
 clear h hd he
 unfold qp qq
 have nb:Jm (qZ c) (.raw (.pointer none))=some false:=rfl
 have kL:=fun rows k=>XK (.qZ (rows:=rows) c) hc k
 have e1:(((m+1:Nat):Int)<1)=False:=eq_false (by omega)
 have e2:((4:Int)<((m+1:Nat):Int))=False:=eq_false (by omega)
 have e3:(((m+1:Nat):Int)≤(dH c:Int))=False:=eq_false (by omega)
 have e4:wz (((m+1:Nat):Int)-1)=(m:Int):=by rw[bf (by omega)];omega
 have e5:wz (8*(m:Int))=((8*m:Nat):Int):=by rw[bf (by omega)];omega
 have kP:=fun k=>XL (rows:=[some ⟨dk,us [255#32<<<(8*m)]⟩]) (d:= .sl dk 0 [] 0 1 true) c 0 0 rfl (l:=[255#32<<<(8*m)]) (bT.us (l:=[255#32<<<(8*m)]) rfl (by simp)) hc (by simp) k
 simp only[us,List.map_cons,List.map_nil]at kP
 simp only[Int.toNat_natCast,Nat.add_sub_cancel]
 simp only[↓aj,ak,simprocAttr,aa,aX,nb,h1,h2,kL,e1,e2,e3,e4,e5,kP,Int.natCast_nonneg,Int.toNat_natCast]
 exact .G9 _ _ _ _ _ _ _ _ rfl rfl rfl (fun h=>by cases h)
theorem kToLife{rows:Rows}{d:D}{c:pU}(h:bT rows (b8 qZ) d c)(hc:c.ws.length=64)(m:Nat)(hm:m<4)(hl:dH c≤m)(k:D→Rows→Prop):
  aJ Ea rows k [d,.raw (it ((m+1:Nat):Int))]=k (.cA [.sl Hp (0+rows.length) [] 0 (iT c.w 0 [255#32<<<(8*m)]).length false,.raw (it 0)]) (rows++[some ⟨Hp,(iT c.w 0 [255#32<<<(8*m)]).map wrD⟩]):=by
 refine(jB h (.int _) (by simp[hc];omega) rfl k).trans ?_
 simp[MF,shift,bh,ae,Sh.pure]
def p9(n:Nat):List (BitVec 32):=(List.range 8).map fun j=>BitVec.ofNat 32 (2^(min (n-32*j) 32)-1)
noncomputable def J6:Fn:=wS (b8 qZ) rC (fun c n=>decide (c.ws.length=64)&&decide (0≤n)&&decide (n≤255)&&decide ((iS c:Int)≤n)) fun c n=>
 (.cA [.sl Hp 0 [] 0 (iT c.w 1 (p9 n.toNat)).length false,.raw (it 0)],(MF (iT c.w 1 (p9 n.toNat))).2)
theorem iz(n:Nat):(p9 n).length=8:=by simp[p9]
theorem TW:∀n,n<256→(p9 n).set (n/32) ((p9 n).getD (n/32) 0#32|||1#32<<<(n %32))=p9 (n+1):=by decide
theorem XM(C:be)(hC:aI C P)(h1:C.fn 26=some XI)(h2:C.fn 107=some Iz):aO C.aZ P 48 (Fn.run J6):=by
 refine aH (vk C hC) fun ds rows r h=>?_
 obtain⟨d,e,c,n,rfl,rfl,hd,he,hp,rfl⟩:=dq h
 cases aF hd
 cases bX he
 simp only[Bool.and_eq_true,decide_eq_true_eq]at hp
 obtain⟨⟨⟨hc,hn1⟩,Ph⟩,hl⟩:=hp
 obtain⟨m,rfl⟩:=Int.eq_ofNat_of_zero_le hn1
 refine⟨rfl,ag rfl ?_⟩
 clear h hd he
 unfold ny nz
 have nb:Jm (qZ c) (.raw (.pointer none))=some false:=rfl
 have kL:=fun rows k=>kCtr (.qZ (rows:=rows) c) hc k
 have e1:((m:Int)<0)=False:=eq_false (by omega)
 have e2:((255:Int)<(m:Int))=False:=eq_false (by omega)
 have e3:((m:Int)<(iS c:Int))=False:=eq_false (by omega)
 have hz:List.replicate 8 (D.raw (u32 0#32))=us (p9 0):=rfl
 rw[Int.toNat_natCast]
 simp only[hz]
 simp only[↓aj,ak,simprocAttr,aa,aX,nb,h1,kL,e1,e2,e3]
 refine bB m (fun i env rows=>has env [(24,.raw (it (i:Int))),(23,.raw (it (m:Int))),(6,.ptr (.ar 8 dk) 0 [0]),(0,qZ c)]∧rows=[some ⟨.ar 8 dk,[.agg (.ar 8 dk) (us (p9 i))]⟩]) ?_ ?_ ⟨?_,rfl⟩
 ·rintro i hi env rows ⟨hh,rfl⟩ R hR
  simp only[has]at hh
  have e0:((i:Int)<(m:Int))=True:=eq_true (by omega)
  have e1:=cE i (by omega)
  have e2:wz (Int.tdiv (i:Int) 32)=((i/32:Nat):Int):=tdivN i 32 (by omega)
  have e3:Int.tmod (i:Int) 32=((i %32:Nat):Int):=rfl
  have e4:(((i/32:Nat):Int)<8)=True:=eq_true (by omega)
  have g:=ku (l:=p9 i) (i:=i/32) (by rw[iz];omega)
  have hs:=TW i (by omega)
  simp only[↓aj,ak,simprocAttr,aa,aX,hh,e0,e1,e2,e3,e4,g,JN,hs,Int.natCast_nonneg,Int.toNat_natCast]
  exact hR _ _ ⟨by simp only[has,↓aj,ak,simprocAttr,aa,hh],rfl⟩
 ·rintro env rows ⟨hh,rfl⟩ R
  simp only[has]at hh
  have e0:((m:Int)<(m:Int))=False:=eq_false (by omega)
  have kP:=fun ex k=>XL (rows:=[some ⟨.ar 8 dk,[.agg (.ar 8 dk) (us (p9 m))]⟩]) (d:= .sl dk 0 [0] 0 8 ex) c 1 1 rfl (l:=p9 m) (bT.usA (n:=8) rfl rfl (iz m)) hc (by rw[iz];decide) k
  simp only[↓aj,ak,simprocAttr,aa,aX,hh,e0,h2,kP]
  exact .G9 _ _ _ _ _ _ _ _ rfl rfl rfl (fun h=>by cases h)
 ·simp only[has,↓aj,ak,simprocAttr,aa]
theorem kToCtr{rows:Rows}{d:D}{c:pU}(h:bT rows (b8 qZ) d c)(hc:c.ws.length=64)(m:Nat)(hm:m≤255)(hl:iS c≤m)(k:D→Rows→Prop):
  aJ J6 rows k [d,.raw (it (m:Int))]=k (.cA [.sl Hp (0+rows.length) [] 0 (iT c.w 1 (p9 m)).length false,.raw (it 0)]) (rows++[some ⟨Hp,(iT c.w 1 (p9 m)).map wrD⟩]):=by
 refine(jB h (.int _) (by simp[hc];omega) rfl k).trans ?_
 simp[MF,shift,bh,ae,Sh.pure]
def idL:List (BitVec 8):=2#8::List.replicate 15 0#8
noncomputable def J7:Fn:=G2 (b8 qZ) dN (b8 xN) (fun c p n=>decide (c.ws.length=64)&&decide (p.length=56)&&decide (n.length=16)&&decide (dH c=0)&&(c.w.drop 9).all fun w=>decide (w=0#32)) fun c p n=>
 (.cA [.sl Hp 0 [] 0 (iT c.w 9 (words 14 p++words 4 n)).length false,.raw (it 0)],(MF (iT c.w 9 (words 14 p++words 4 n))).2)
theorem XN(C:be)(hC:aI C P)(h0:C.fn 76=some Aw)(h1:C.fn 71=some Iy)(h2:C.fn 107=some Iz)(h3:C.fn 106=some QW):aO C.aZ P 46 (Fn.run J7):=by
 refine cr (Bp C hC) fun ds rows r h=>?_
 obtain⟨d0,d1,d2,c,p,n,rfl,rfl,hd,he,hf,hp,rfl⟩:=fq h
 cases aF hd
 cases aF hf
 obtain⟨e,hx⟩:=cy he
 simp only[Bool.and_eq_true,decide_eq_true_eq]at hp
 obtain⟨⟨⟨⟨hc,hp56⟩,hn⟩,hl⟩,hz⟩:=hp
 refine⟨rfl,_,.cons (.refl _) (.cons hx (.cons (.refl _) .nil)),ag rfl ?_⟩
 clear h hd he hf hx
 unfold rM rO
 have nb:Jm (qZ c) (.raw (.pointer none))=some false:=rfl
 have hm:c.w.length=64:=by rw[List.length_map,hc]
 have kA:=fun rows k=>Ix rows k c hc
 have kL:=fun rows k=>XK (.qZ (rows:=rows) c) hc k
 rw[hl]at kL
 have w14:=eX 14 p
 have w4:=eX 4 n
 have kN1:=fun rows k=>kNumb rows k (.cF L8 (bs p) e) p (ec.to (.inr ⟨e,rfl⟩)) (by omega)
 have kN2:=fun ex k=>kNumb [some ⟨.ar 16 L8,[.agg (.ar 16 L8) (bs n)]⟩,some ⟨dk,us (words 14 p)⟩] k (.sl L8 0 [0] 0 16 ex) n (bc.r9 (n:=16) rfl rfl hn) (by omega)
 rw[hp56]at kN1
 rw[hn]at kN2
 have hsr:(us (words 4 n)).take 4=us (words 4 n):=List.take_of_length_le (by rw[mN,w4];exact Nat.le_refl _)
 have hu4:(us (words 4 n)).length=4:=by rw[mN,w4]
 have hu14:(us (words 14 p)).take 14=us (words 14 p):=List.take_of_length_le (by rw[mN,w14];exact Nat.le_refl _)
 have hv14:(us (words 14 p)).length=14:=by rw[mN,w14]
 have hwl:(words 14 p++words 4 n).length=18:=by rw[List.length_append,w14,w4]
 have hW:∀i,i<18→(us c.w)[9+i]?=some (.raw (u32 0#32)):=fun i hi=>by
  have h2:(c.w.drop 9)[i]'(by rw[List.length_drop];omega)=0#32:=of_decide_eq_true (List.all_eq_true.1 hz _ (List.getElem_mem _))
  rw[ku (by omega),List.getD_eq_getElem?_getD,List.getElem?_eq_getElem (by omega)]
  rw[List.getElem_drop]at h2
  simp[h2]
 simp only[xN,↓aj,ak,simprocAttr,aa,aX,nb,h1,kL,hp56,aC,h3,kN1,kN2,hsr,hu4,hu14,hv14]
 rw[OU]
 generalize words 14 p++words 4 n=l at*
 refine bB 18 (fun i env rows=>has env [(29,.raw (it (i:Int))),(28,.raw (it 18)),(27,.sl dk 3 [] 0 18 false),(8,.sl dk 3 [] 0 18 false),(0,qZ c)]∧live rows 3=some ⟨dk,us l⟩) ?_ ?_ ⟨?_,rfl⟩
 ·rintro i hi env rows ⟨hh,hq⟩ R hR
  simp only[has]at hh
  have e0:((i:Int)<18)=True:=eq_true (by omega)
  have e1:=cE i (by omega)
  have e2:wz (9+(i:Int))=((9+i:Nat):Int):=by rw[bf (by omega)];omega
  have e3:(((9+i:Nat):Int)<64)=True:=eq_true (by omega)
  have g:=ku (l:=l) (i:=i) (by omega)
  have g2:=hW i hi
  have z:∀v:BitVec 32,0#32&&&~~~v=0#32:=fun v=>BitVec.zero_and
  simp only[↓aj,ak,simprocAttr,aa,aX,hh,hq,e0,e1,e2,e3,g,g2,z,h0,kA,Int.natCast_nonneg,Int.toNat_natCast]
  exact hR _ _ ⟨by simp only[has,↓aj,ak,simprocAttr,aa,hh],aA hq _⟩
 ·rintro env rows ⟨hh,hq⟩ R
  simp only[has]at hh
  have e0:((18:Int)<18)=False:=eq_false (by omega)
  have hr:=bT.us (rows:=rows) (r:=3) (off:=0) (len:=18) (ex:=false) hq (by omega)
  rw[List.drop_zero,List.take_of_length_le (by omega)]at hr
  have kP:=fun k=>XL c 9 9 rfl hr hc (by omega) k
  simp only[↓aj,ak,simprocAttr,aa,aX,hh,e0,h2,kP]
  exact .G9 _ _ _ _ _ _ _ _ (by rw[b6];rfl) rfl rfl (fun h=>by cases h)
 ·simp only[has,↓aj,ak,simprocAttr,aa]
theorem kToKey{rows:Rows}{d e:D}{c:pU}{p:List (BitVec 8)}(h:bT rows (b8 qZ) d c)(hc:c.ws.length=64)(hb:bc rows e p)(hp:p.length=56)(hl:dH c=0)(hz:∀w∈c.w.drop 9,w=0#32)(k:D→Rows→Prop):
  aJ J7 rows k [d,e,.agg (.ar 16 L8) (bs idL)]=k (.cA [.sl Hp (0+rows.length) [] 0 (iT c.w 9 (words 14 p++words 4 idL)).length false,.raw (it 0)]) (rows++[some ⟨Hp,(iT c.w 9 (words 14 p++words 4 idL)).map wrD⟩]):=by
 refine(fT h (.bs hb) (D6 idL) (by simp[hc,hp,hl,idL];simpa using hz) rfl k).trans ?_
 simp[MF,shift,bh,ae,Sh.pure]
end iC
end Go.Am

namespace Go.Am
set_option linter.unusedSimpArgs false
set_option linter.unusedVariables false
attribute [local congr] cd bt cg bu bw bO bg bx bz bP a7 bQ bA b9
namespace iC
open Go.Am.F
set_option maxRecDepth 10000
def BM(t:Nat)(s:Site)(c msg:List (BitVec 8)):List Nat:=fz t (jJ s.id s.q c msg)
theorem J8(t:Nat)(s:Site)(c msg:List (BitVec 8)):(BM t s c msg).length=pT t:=by simp[BM,fz,vQ]
theorem J9{t:Nat}(h:sH t=true)(d:List (BitVec 8))(i:Nat):(fz t d).getD i 0≤2^wT t-1:=by
 by_cases c:i<(fz t d).length
 ·have hc:=c
  simp only[fz,vQ,List.length_map,List.length_range]at hc
  simp only[fz,vQ,List.getD,List.getElem?_map,List.getElem?_range hc,Option.map_some,Option.getD_some]
  exact MB _ _ _ (j8 h).1
 ·rw[List.getD,List.getElem?_eq_none (by omega)];exact Nat.zero_le _
def js(t:Nat)(s:Site)(aL c msg:List (BitVec 8))(n:Nat):List (List (BitVec 8)):=(List.range n).map fun i=>Hn s.id s.q i ((BM t s c msg).getD i 0) 0 (DH s.id s.q i aL)
theorem BN(t:Nat)(s:Site)(aL c msg:List (BitVec 8))(n:Nat):∀x∈js t s aL c msg n,x.length=32:=by
 intro x hx
 obtain⟨i,-,rfl⟩:=List.mem_map.1 hx
 exact wD _ _ _ _ _ _ (oH _ _ _ _ _)
def lq(t:BitVec 32)(s:Site)(aL c msg:List (BitVec 8)):List (BitVec 8):=bC t++c++(js t.toNat s aL c msg (pT t.toNat)).flatten
theorem sj(t:BitVec 32)(s:Site)(aL c msg:List (BitVec 8))(hc:c.length=32):(lq t s aL c msg).length=36+32*pT t.toNat:=by
 rw[lq,List.length_append,List.length_append,r8 (BN _ _ _ _ _ _),hc,js,List.length_map,List.length_range];rfl
noncomputable def QX:Fn:=gn5 qN (b8 fb) (b8 aW) (b8 aW) dN (fun _ s x c _=>decide (s.id.length=16)&&decide (x.length=32)&&decide (c.length=32)) fun t s x c m=>bif sH t.toNat then(.cA [.sl L8 0 [] 0 (36+32*pT t.toNat) false,.raw (it 0)],[some ⟨L8,bs (lq t s x c m)⟩])else(.cA [.raw (.slice none 0 0),.raw (it 6)],[])
theorem sign_ok(C:be)(hC:aI C P)(h1:C.fn 37=some l6)(h2:C.fn 167=some xP)(h3:C.fn 100=some Ap)(h4:C.fn 98=some BL)(h5:C.fn 111=some Iv)(h6:C.fn 110=some wE):aO C.aZ P 112 (Fn.run QX):=by
 refine aH (OI C hC) fun ds rows r h=>?_
 obtain⟨d0,d1,d2,d3,d4,t,s,aL,c,msg,rfl,rfl,g0,g1,g2,g3,g4,hp,rfl⟩:=Mu h
 cases dL g0
 cases aF g1
 cases aF g2
 cases aF g3
 have gm:=eU g4
 simp only[Bool.and_eq_true,decide_eq_true_eq]at hp
 obtain⟨⟨gV,qX⟩,ja⟩:=hp
 clear h g0 g1 g2 g3 g4
 have hz:D.agg pD [.raw (it 0),.raw (it 0),.raw (it 0)]=iR ⟨0,0,0⟩:=rfl
 have kP:=fun rows k=>mY rows k t
 cases hk:sH t.toNat
 ·rw[hk]at kP
  refine⟨rfl,ag rfl ?_⟩
  unfold yn yo
  simp only[hz,dW]
  simp only[↓aj,ak,simprocAttr,aa,aX,aW,h1,kP,cQ,dw,Bool.not_false,cond_false]
  exact .val _ rfl
 ·have hpt:pT t.toNat≤265:=(j8 hk).2.2.1
  have hpw:2^wT t.toNat≤256:=O9 (j8 hk).1
  have hsg:lq t s aL c msg=bC t++c++(js t.toNat s aL c msg (pT t.toNat)).flatten:=rfl
  have yT:=J9 hk (jJ s.id s.q c msg)
  have qY:=J8 t.toNat s c msg
  have hml:(jJ s.id s.q c msg).length=32:=dh _
  have kD:=fun rows k=>J3 rows k t (jJ s.id s.q c msg) hml hk
  have Lb:∀i,(js t.toNat s aL c msg i).flatten++Hn s.id s.q i ((BM t.toNat s c msg).getD i 0-0) 0 (DH s.id s.q i aL)=(js t.toNat s aL c msg (i+1)).flatten:=fun i=>by simp[js,List.range_succ]
  have lz:∀i,(bC t++c++(js t.toNat s aL c msg i).flatten).length=36+32*i:=fun i=>by
   rw[List.length_append,List.length_append,r8 (BN _ _ _ _ _ _),ja,js,List.length_map,List.length_range];rfl
  rw[hk]at kP
  refine⟨rfl,ag rfl ?_⟩
  unfold yn yo
  simp only[hz,dW]
  simp only[↓aj,ak,simprocAttr,aa,aX,aW,h1,kP,cQ,dw,h2,Mw,Bool.not_true,cond_true]
  rw[oG (n:=32) rfl rfl ja]
  have tk:List.take 4 (bs (bC t))=bs (bC t):=rfl
  refine⟨by rw[aC];exact ja,rfl,by rw[aC];omega,by rw[aC];omega,?_⟩
  rw[tk,nU,aC,ja]
  simp only[↓aj,ak,simprocAttr,aa,aX,h5]
  refine Eq.mpr (XB _ _ s c msg d4 (gm.to) gV ja) ?_
  simp only[↓aj,ak,simprocAttr,aa,aX,h6,kD]
  have hf0:bC t++c++(js t.toNat s aL c msg 0).flatten=bC t++c:=by simp[js]
  refine bB (pT t.toNat) (fun i env rows=>has env [(36,.raw (it (i:Int))),(35,.raw (it (pT t.toNat:Int))),(34,.sl LI 6 [] 0 (pT t.toNat) false),(7,.ptr (.ar 32 L8) 1 [0]),(6,.ptr vP 0 [0])]∧
   live rows 0=some ⟨vP,[fb s]⟩∧live rows 1=some ⟨.ar 32 L8,[.agg (.ar 32 L8) (bs aL)]⟩∧live rows 6=some ⟨LI,(fz t.toNat (jJ s.id s.q c msg)).map vR⟩∧
   ∃d',look env 14=some d'∧iK L8 d' rows (bs (bC t++c++(js t.toNat s aL c msg i).flatten))) ?_ ?_ ⟨?_,rfl,rfl,rfl,.sl L8 5 [] 0 36 false,?_,.inr ⟨5,false,by rw[aC,lz 0],by rw[hf0];rfl⟩⟩
  ·rintro i hi env rows ⟨hh,r0,r1,r6,d',h14,hO⟩ R hR
   simp only[has]at hh
   have e0:((i:Int)<(pT t.toNat:Int))=True:=eq_true (by omega)
   have e1:=cE i (by omega)
   have b0:∀n:Nat,((0:Int)≤(n:Int))=True:=fun n=>eq_true (by omega)
   have hai:=yT i
   have gi:((fz t.toNat (jJ s.id s.q c msg)).map vR)[i]?=some (.raw (it ((BM t.toNat s c msg).getD i 0:Int))):=by
    have hl:i<(fz t.toNat (jJ s.id s.q c msg)).length:=by rw[show(fz t.toNat (jJ s.id s.q c msg)).length=pT t.toNat from qY];exact hi
    simp[vR,BM,List.getD,hl]
   have hai:(BM t.toNat s c msg).getD i 0≤255:=by have:(BM t.toNat s c msg).getD i 0≤2^wT t.toNat-1:=hai;omega
   have hs:=Lb i
   generalize (BM t.toNat s c msg).getD i 0=ai at*
   have kS:=fun rows k=>QK rows k s i aL gV (by omega) qX
   have kC:=fun rows k=>O8 rows k s i 0 ai (DH s.id s.q i aL) gV (by omega) (by decide) (by omega) (oH _ _ _ _ _)
   have hx:=wD s.id s.q i (ai-0) 0 (DH s.id s.q i aL) (oH _ _ _ _ _)
   rw[show((0:Nat):Int)=0 from rfl]at kC
   generalize Hn s.id s.q i (ai-0) 0 (DH s.id s.q i aL)=xi at*
   have ea:∀ex,elems (rows++[some ⟨.ar 32 L8,[.agg (.ar 32 L8) (bs xi)]⟩]) (.sl L8 rows.length [0] 0 32 ex)=some (bs xi):=fun ex=>oG (n:=32) (by rw[b6];rfl) rfl hx
   simp only[↓aj,ak,simprocAttr,aa,aX,hh,e0,e1,b0,h14,dw,r0,r1,r6,gi,h3,kS,h4,kC,ea,aC,hx]
   refine iX hO.push (by rw[aC,aC,hx,lz];simp[most];omega) (by rw[aC,aC,hx,lz];simp[most];omega) fun d2 ab F4 oD vS _=>?_
   rw[nU,List.append_assoc _ _ xi,hs]at F4
   have r0':=oD 0 _ (aA r0 _) (fun ex=>ia hO r0 (by decide) ex _)
   have r1':=oD 1 _ (aA r1 _) (fun ex=>ia hO r1 (by decide) ex _)
   have r6':=oD 6 _ (aA r6 _) (fun ex=>ia hO r6 (by decide) ex _)
   simp only[↓aj,ak,simprocAttr,aa,aX,hh,e1]
   exact hR _ _ ⟨by simp only[has,↓aj,ak,simprocAttr,aa,hh],r0',r1',r6',d2,by simp only[↓aj,ak,simprocAttr,aa],F4⟩
  ·rintro env rows ⟨hh,r0,r1,r6,d',h14,hO⟩ R
   simp only[has]at hh
   have e0:((pT t.toNat:Int)<(pT t.toNat:Int))=False:=eq_false (by omega)
   rw[←hsg]at hO
   simp only[↓aj,ak,simprocAttr,aa,aX,hh,e0,h14,hO.mI]
   have hl:=sj t s aL c msg ja
   rcases hO with⟨h,_⟩|⟨r,ex,rfl,hlv⟩
   ·have:=congrArg List.length h;rw[aC,hl]at this;simp at this
   ·rw[aC,hl]
    exact .G9 L8 r 0 _ ex false _ _ hlv rfl rfl (fun h=>by cases h)
  ·simp only[has,↓aj,ak,simprocAttr,aa]
  ·simp only[↓aj,ak,simprocAttr,aa]
theorem kSign(rows:Rows)(k:D→Rows→Prop)(t:BitVec 32)(s:Site)(x c m:List (BitVec 8))(d:D)(hd:bc rows d m)(gV:s.id.length=16)(hx:x.length=32)(hc:c.length=32)(ht:sH t.toNat=true):
  aJ QX rows k [.raw (u32 t),fb s,.agg (.ar 32 L8) (bs x),.agg (.ar 32 L8) (bs c),d]=k (.cA [.sl L8 (0+rows.length) [] 0 (36+32*pT t.toNat) false,.raw (it 0)]) (rows++[some ⟨L8,bs (lq t s x c m)⟩]):=by
 refine(Mv (bT.raw (fK t)) (jC s rows) (iQ x) (iQ c) (.bs hd) (by simp[gV,hx,hc]) (by simp[ht,bZ,fI,aW,Sh.pure,aS]) k).trans ?_
 simp[ht,shift,bh,ae,Sh.pure]
def dj(p:List (BitVec 8)):BitVec 32:=cY p
def gy(p:List (BitVec 8)):Int:=if p.length<4 then 2 else bif !sH (dj p).toNat then 6 else if p.length=36+32*pT (dj p).toNat then 0 else 2
def chunk(p:List (BitVec 8))(i:Nat):List (BitVec 8):=(p.drop (36+32*i)).take 32
def chunks(p:List (BitVec 8))(n:Nat):List (List (BitVec 8)):=(List.range n).map (chunk p)
def lB(p:List (BitVec 8)):List (BitVec 8):=(p.drop 4).take 32
def F8:Fn:=lE dN (fun p=>decide (p.length≤1099511627776)) fun p=>if gy p=0 then(.cA [.raw (u32 (dj p)),aW (lB p),.sl (.ar 32 L8) 0 [] 0 (pT (dj p).toNat) false,.raw (it 0)],[some ⟨.ar 32 L8,(chunks p (pT (dj p).toNat)).map aW⟩])
 else(.cA [.raw (u32 0#32),aW ug,.raw (.slice none 0 0),.raw (it (gy p))],[])
set_option maxHeartbeats 1000000 in
theorem XO(C:be)(hC:aI C P)(h1:C.fn 37=some l6):aO C.aZ P 147 (Fn.run F8):=by
 refine cr (L7 C hC) fun ds rows r h=>?_
 obtain⟨d,p,rfl,rfl,g0,hp,rfl⟩:=a8 h
 obtain⟨ex,hx⟩:=cy g0
 simp only[decide_eq_true_eq]at hp
 refine⟨rfl,_,.cons hx .nil,ag rfl ?_⟩
 clear h g0 hx
 have hz:D.agg pD [.raw (it 0),.raw (it 0),.raw (it 0)]=iR ⟨0,0,0⟩:=rfl
 unfold Cx Cy
 simp only[hz,dW]
 by_cases c4:p.length<4
 ·have c4':((p.length:Int)<4)=True:=eq_true (by omega)
  have he:gy p=2:=by rw[gy,if_pos c4]
  rw[he,if_neg (by decide)]
  simp only[↓aj,ak,simprocAttr,aa,aX,aC,c4',decide_true]
  exact .val _ rfl
 have c4':((p.length:Int)<4)=False:=eq_false (by omega)
 have b0:∀n:Nat,((0:Int)≤(n:Int))=True:=fun n=>eq_true (by omega)
 have b1:((1:Int)<(p.length:Int))=True:=eq_true (by omega)
 have b2:((2:Int)<(p.length:Int))=True:=eq_true (by omega)
 have b3:((3:Int)<(p.length:Int))=True:=eq_true (by omega)
 have b4:((0:Int)<(p.length:Int))=True:=eq_true (by omega)
 have t0:(bs p)[0]?=some (.raw (u8 (p.getD 0 0#8))):=mJ (by omega)
 have t1:(bs p)[1]?=some (.raw (u8 (p.getD 1 0#8))):=mJ (by omega)
 have t2:(bs p)[2]?=some (.raw (u8 (p.getD 2 0#8))):=mJ (by omega)
 have t3:(bs p)[3]?=some (.raw (u8 (p.getD 3 0#8))):=mJ (by omega)
 have hsT:(p.getD 0 0#8).setWidth 32<<<24|||(p.getD 1 0#8).setWidth 32<<<16|||(p.getD 2 0#8).setWidth 32<<<8|||(p.getD 3 0#8).setWidth 32=dj p:=rfl
 have kP:=fun rows k=>mY rows k (dj p)
 cases hk:sH (dj p).toNat
 ·have he:gy p=6:=by rw[gy,if_neg c4,hk];rfl
  rw[he,if_neg (by decide)]
  rw[hk]at kP
  simp only[↓aj,ak,simprocAttr,aa,aX,aC,c4',b0,b1,b2,b3,b4,t0,t1,t2,t3,decide_false,h1,hsT,kP,cQ,Bool.not_false]
  exact .val _ rfl
 have hpt:pT (dj p).toNat≤265:=(j8 hk).2.2.1
 have g1:(iR (uB (dj p).toNat)).get [1]=some (.raw (it (pT (dj p).toNat:Int))):=rfl
 have q1:wz ((pT (dj p).toNat:Int)+1)=((pT (dj p).toNat+1:Nat):Int):=cE _ (by omega)
 have q2:wz (32*((pT (dj p).toNat+1:Nat):Int))=((32*(pT (dj p).toNat+1):Nat):Int):=by rw[bf (by omega)];omega
 have q3:wz (4+((32*(pT (dj p).toNat+1):Nat):Int))=((36+32*pT (dj p).toNat:Nat):Int):=by rw[bf (by omega)];omega
 rw[hk]at kP
 by_cases cl:p.length=36+32*pT (dj p).toNat
 ·have cl':((p.length:Int)=((36+32*pT (dj p).toNat:Nat):Int))=True:=eq_true (by omega)
  have he:gy p=0:=by rw[gy,if_neg c4,hk,if_pos cl];rfl
  rw[if_pos he]
  have g36:((36:Int)≤(p.length:Int))=True:=eq_true (by omega)
  simp only[↓aj,ak,simprocAttr,aa,aX,aC,c4',b0,b1,b2,b3,b4,t0,t1,t2,t3,decide_false,decide_true,h1,hsT,kP,cQ,Bool.not_true,g1,q1,q2,q3,cl',g36,fw,ey]
  have hd0:(p.drop 36).take (p.length-36)=p.drop 36:=List.take_of_length_le (by rw[List.length_drop];omega)
  rw[hd0]
  generalize oM none p.length p.length p.length ex=ex0
  have hp0:1≤pT (dj p).toNat:=by rcases Iu hk with e|e|e|e<;>rw[e]<;>decide
  generalize pT (dj p).toNat=NP at*
  generalize dj p=T at*
  have ja:∀i,i<NP→(chunk p i).length=32:=fun i hi=>by rw[chunk,List.length_take,List.length_drop];omega
  have hds:∀i,(chunks p i).map aW++[.agg (.ar 32 L8) (bs (chunk p i))]=(chunks p (i+1)).map aW:=fun i=>by simp[chunks,List.range_succ,aW]
  have qY:∀i,(chunks p i).length=i:=fun i=>by simp[chunks]
  refine bB NP (fun i env rows=>has env [(6,.raw (u32 T)),(0,.cF L8 (bs p) ex),(3,.ptr (.ar 32 L8) 0 [0])]∧live rows 0=some ⟨.ar 32 L8,[.agg (.ar 32 L8) (bs ug)]⟩∧
   (∃e',look env 10=some (.cF L8 (bs (p.drop (36+32*i))) e'))∧∃d',look env 9=some d'∧iK (.ar 32 L8) d' rows ((chunks p i).map aW)∧(∀r ex n,d'= .sl (.ar 32 L8) r [] 0 n ex→1≤r)) ?_ ?_ ⟨?_,rfl,⟨ex0,?_⟩,.raw (.slice none 0 0),?_,.inl ⟨rfl,rfl⟩,fun r ex n h=>?_⟩
  ·rintro i hi env rows ⟨hh,r0,⟨e',h10⟩,d',h9,hO,hne⟩ R hR
   simp only[has]at hh
   have Ax:(p.drop (36+32*i)).length=32*(NP-i):=by rw[List.length_drop];omega
   have e0:((0:Int)<((32*(NP-i):Nat):Int))=True:=eq_true (by omega)
   have e1:((32:Int)≤((32*(NP-i):Nat):Int))=True:=eq_true (by omega)
   have lt0:=bn r0
   simp only[↓aj,ak,simprocAttr,aa,aX,hh,h10,h9,aC,Ax,e0,e1,fw,ey,decide_true]
   have CY:List.take 32 (List.drop (36+32*i) p)=chunk p i:=rfl
   have hch2:List.take 32 (chunk p i)=chunk p i:=List.take_of_length_le (by rw[ja i hi];exact Nat.le_refl _)
   simp only[CY,hch2]
   refine⟨by rw[ja i hi];exact Nat.le_refl _,Ao hO.push (by rw[List.length_map,qY];simp[most];omega) (by rw[List.length_map,qY];simp[most];omega) fun ab mh oD vS=>?_⟩
   rw[hds,List.length_append]at mh
   have mh:live ab (rows.length+1)=_:=mh
   have r0':=oD 0 _ (aA r0 _) (fun ex n e=>by have:=hne _ _ _ e;omega)
   have Lx:List.take (32*(NP-i)-32) (List.drop 32 (List.drop (36+32*i) p))=p.drop (36+32*(i+1)):=by
    rw[List.drop_drop,show 36+32*i+32=36+32*(i+1) by omega,List.take_of_length_le (by rw[List.length_drop];omega)]
   simp only[↓aj,ak,simprocAttr,aa,aX,hh,h10,aC,Ax,e1,fw,ey,Lx]
   refine hR _ _ ⟨by simp only[has,↓aj,ak,simprocAttr,aa,hh],r0',⟨oM none (32*(NP-i)) (32*(NP-i)) (32*(NP-i)) e',by simp only[↓aj,ak,simprocAttr,aa]⟩,.sl (.ar 32 L8) (rows.length+1) [] 0 ((chunks p i).length+1) false,by simp only[↓aj,ak,simprocAttr,aa,List.length_map],.inr ⟨_,false,by rw[List.length_map,qY,qY],mh⟩,fun r ex n e=>by injection e with _ e;omega⟩
  ·rintro env rows ⟨hh,r0,⟨e',h10⟩,d',h9,hO,hne⟩ R
   simp only[has]at hh
   have Ax:(p.drop (36+32*NP)).length=0:=by rw[List.length_drop];omega
   have g36:((36:Int)≤(p.length:Int))=True:=eq_true (by omega)
   have w0:=fun y=>aG (y:=y) r0
   simp only[↓aj,ak,simprocAttr,aa,aX,hh,h10,h9,aC,Ax,g36,fw,ey,hO.mI,r0]
   have hsc:List.take 32 (List.drop 4 p)=lB p:=rfl
   have jO:(lB p).length=32:=by rw[lB,List.length_take,List.length_drop];omega
   have hsc2:List.take 32 (lB p)=lB p:=List.take_of_length_le (by rw[jO];exact Nat.le_refl _)
   simp only[hsc,hsc2,w0]
   refine⟨by rw[jO];exact Nat.le_refl _,?_⟩
   rcases hO with⟨h,_⟩|⟨r,Pj,rfl,hlv⟩
   ·have:=congrArg List.length h;rw[List.length_map,qY]at this;simp at this;omega
   ·have hr0:=hne r Pj _ rfl
    have hlv2:=cK (y:=⟨.ar 32 L8,[.agg (.ar 32 L8) (bs (lB p))]⟩) hlv (q:=0) (by omega)
    rw[List.length_map,qY]
    exact .ownU [.raw (u32 T),aW (lB p)] (.ar 32 L8) r 0 _ Pj false _ [.raw (it 0)] hlv2 rfl rfl rfl (fun h=>by cases h)
  ·simp only[has,↓aj,ak,simprocAttr,aa]
  ·simp only[↓aj,ak,simprocAttr,aa]
  ·simp only[↓aj,ak,simprocAttr,aa]
  ·cases h
 ·have cl':((p.length:Int)=((36+32*pT (dj p).toNat:Nat):Int))=False:=eq_false (by omega)
  have he:gy p=2:=by rw[gy,if_neg c4,hk,if_neg cl];rfl
  rw[he,if_neg (by decide)]
  simp only[↓aj,ak,simprocAttr,aa,aX,aC,c4',b0,b1,b2,b3,b4,t0,t1,t2,t3,decide_false,h1,hsT,kP,cQ,Bool.not_true,g1,q1,q2,q3,cl']
  exact .val _ rfl
theorem kSplit(rows:Rows)(k:D→Rows→Prop)(d:D)(p:List (BitVec 8))(hd:bc rows d p)(hp:p.length≤1099511627776)(he:gy p=0):
  aJ F8 rows k [d]=k (.cA [.raw (u32 (dj p)),.agg (.ar 32 L8) (bs (lB p)),.sl (.ar 32 L8) (0+rows.length) [] 0 (pT (dj p).toNat) false,.raw (it 0)]) (rows++[some ⟨.ar 32 L8,(chunks p (pT (dj p).toNat)).map aW⟩]):=by
 refine(cC (.bs hd) (by simp[hp]) (by simp[he,bZ,fI,aW,Sh.pure,aS]) k).trans ?_
 simp[he,aW,shift,bh,ae,Sh.pure]
theorem kSplitE(rows:Rows)(k:D→Rows→Prop)(d:D)(p:List (BitVec 8))(hd:bc rows d p)(hp:p.length≤1099511627776)(he:¬gy p=0):
  aJ F8 rows k [d]=k (.cA [.raw (u32 0#32),.agg (.ar 32 L8) (bs ug),.raw (.slice none 0 0),.raw (it (gy p))]) rows:=by
 refine(cC (.bs hd) (by simp[hp]) (by simp[he,bZ,fI,aW,Sh.pure,aS]) k).trans ?_
 simp[he,aW,shift,bh,ae,Sh.pure]
theorem split_0{p:List (BitVec 8)}(h:gy p=0):4≤p.length∧sH (dj p).toNat=true∧p.length=36+32*pT (dj p).toNat:=by
 unfold gy at h
 split at h
 ·cases h
 ·cases hk:sH (dj p).toNat with
  |false=>rw[hk]at h;cases h
  |true=>
   rw[hk]at h
   simp only[Bool.not_true,cond_false]at h
   split at h
   ·exact⟨by omega,rfl,by assumption⟩
   ·cases h
def clE(s:Site)(p msg:List (BitVec 8))(i:Nat):List (BitVec 8):=
 Hn s.id s.q i (2^wT (dj p).toNat-1-(BM (dj p).toNat s (lB p) msg).getD i 0) ((BM (dj p).toNat s (lB p) msg).getD i 0) (chunk p i)
def KN(s:Site)(p msg:List (BitVec 8))(n i:Nat):List (List (BitVec 8)):=(List.range n).map fun j=>if j<i then clE s p msg j else chunk p j
def pF(s:Site)(p msg:List (BitVec 8)):List (BitVec 8):=CW s.id s.q ((List.range (pT (dj p).toNat)).map (clE s p msg))
theorem clL_0(s:Site)(p msg:List (BitVec 8))(n:Nat):KN s p msg n 0=chunks p n:=by simp[KN,chunks]
theorem clL_n(s:Site)(p msg:List (BitVec 8))(n:Nat):KN s p msg n n=(List.range n).map (clE s p msg):=by
 apply List.map_congr_left
 intro j hj
 rw[if_pos (List.mem_range.1 hj)]
theorem clL_set(s:Site)(p msg:List (BitVec 8))(n i:Nat)(h:i<n):(KN s p msg n i).set i (clE s p msg i)=KN s p msg n (i+1):=by
 apply List.ext_getElem (by simp[KN])
 intro j h1 h2
 have hj:j<n:=by simpa[KN]using h2
 rw[List.getElem_set]
 by_cases c:i=j
 ·subst c;simp[KN]
 ·rw[if_neg c]
  simp only[KN,List.getElem_map,List.getElem_range]
  by_cases c2:j<i
  ·rw[if_pos c2,if_pos (by omega)]
  ·rw[if_neg c2,if_neg (by omega)]
theorem clE_len{s:Site}{p msg:List (BitVec 8)}{i:Nat}(h:(chunk p i).length=32):(clE s p msg i).length=32:=wD _ _ _ _ _ _ h
noncomputable def Ka:Fn:=G2 (b8 fb) dN dN (fun s p m=>decide (s.id.length=16)&&decide (p.length≤1099511627776)) fun s p m=>if gy p=0 then(.cA [aW (pF s p m),.raw (it 0)],[])else(.cA [aW ug,.raw (it (gy p))],[])
set_option maxHeartbeats 1000000 in
theorem XP(C:be)(hC:aI C P)(h1:C.fn 37=some l6)(h2:C.fn 99=some TL)(h4:C.fn 98=some BL)(h5:C.fn 111=some Iv)(h6:C.fn 110=some wE)(h7:C.fn 147=some F8)(h8:C.fn 101=some My):aO C.aZ P 90 (Fn.run Ka):=by
 refine aH (L3 C hC) fun ds rows r h=>?_
 obtain⟨d0,d1,d2,s,p,msg,rfl,rfl,g0,g1,g2,hp,rfl⟩:=fq h
 cases aF g0
 have gp:=eU g1
 have gm:=eU g2
 simp only[Bool.and_eq_true,decide_eq_true_eq]at hp
 obtain⟨gV,sO⟩:=hp
 clear h g0 g1 g2
 have hz:D.agg pD [.raw (it 0),.raw (it 0),.raw (it 0)]=iR ⟨0,0,0⟩:=rfl
 refine⟨rfl,ag rfl ?_⟩
 unfold Ct Cu
 simp only[hz,dW]
 by_cases he:gy p=0
 ·rw[if_pos he]
  obtain⟨h4l,hk,hl⟩:=split_0 he
  have kSp:=fun rows k=>kSplit rows k d1 p gp.to sO he
  have hcS:pF s p msg=CW s.id s.q (KN s p msg (pT (dj p).toNat) (pT (dj p).toNat)):=by rw[clL_n,pF]
  have uu:=clL_set s p msg (pT (dj p).toNat)
  have h00:=clL_0 s p msg (pT (dj p).toNat)
  have hcE:∀i,clE s p msg i=Hn s.id s.q i (2^wT (dj p).toNat-1-(BM (dj p).toNat s (lB p) msg).getD i 0) ((BM (dj p).toNat s (lB p) msg).getD i 0) (chunk p i):=fun i=>rfl
  have hpt:pT (dj p).toNat≤265:=(j8 hk).2.2.1
  have hpw:2^wT (dj p).toNat≤256:=O9 (j8 hk).1
  have kP:=fun rows k=>mY rows k (dj p)
  have kE:=fun rows k=>kEnd rows k (uB (dj p).toNat) (j8 hk).1
  have hew:(uB (dj p).toNat).w=wT (dj p).toNat:=rfl
  rw[hk]at kP
  rw[hew]at kE
  have hc32:(lB p).length=32:=by rw[lB,List.length_take,List.length_drop];omega
  have CY:∀i,i<pT (dj p).toNat→(chunk p i).length=32:=fun i hi=>by rw[chunk,List.length_take,List.length_drop];omega
  have kM:=fun rows k=>XB rows k s (lB p) msg d2 (gm.to) gV hc32
  have hml:(jJ s.id s.q (lB p) msg).length=32:=dh _
  have kD:=fun rows k=>J3 rows k (dj p) (jJ s.id s.q (lB p) msg) hml hk
  have qY:=J8 (dj p).toNat s (lB p) msg
  have yT:=J9 hk (jJ s.id s.q (lB p) msg)
  simp only[↓aj,ak,simprocAttr,aa,aX,aW,dw,cQ,h7,kSp,h1,kP,h5,kM,h6,kD]
  rw[←h00]
  have jz:∀i,i<pT (dj p).toNat→((KN s p msg (pT (dj p).toNat) i).map aW)[i]?=some (.agg (.ar 32 L8) (bs (chunk p i))):=fun i hi=>by
   simp[KN,aW,hi]
  have HE:∀i,(KN s p msg (pT (dj p).toNat) i).length=pT (dj p).toNat:=fun i=>by simp[KN]
  have hsm:∀i,i<pT (dj p).toNat→((KN s p msg (pT (dj p).toNat) i).map aW).set i (.agg (.ar 32 L8) (bs (clE s p msg i)))=(KN s p msg (pT (dj p).toNat) (i+1)).map aW:=fun i hi=>by
   rw[←uu i hi,List.map_set];rfl
  have p8:∀x∈KN s p msg (pT (dj p).toNat) (pT (dj p).toNat),x.length=32:=by
   intro x hx
   rw[clL_n]at hx
   obtain⟨i,hi,rfl⟩:=List.mem_map.1 hx
   exact clE_len (CY i (List.mem_range.1 hi))
  have g0':∀i,i<pT (dj p).toNat→((fz (dj p).toNat (jJ s.id s.q (lB p) msg)).map vR)[i]?=some (.raw (it ((BM (dj p).toNat s (lB p) msg).getD i 0:Int))):=fun i hi=>by
   have hl:i<(fz (dj p).toNat (jJ s.id s.q (lB p) msg)).length:=by rw[show(fz (dj p).toNat (jJ s.id s.q (lB p) msg)).length=pT (dj p).toNat from qY];exact hi
   simp[vR,BM,List.getD,hl]
  have b0:∀n:Nat,((0:Int)≤(n:Int))=True:=fun n=>eq_true (by omega)
  have hdg':∀i,(BM (dj p).toNat s (lB p) msg).getD i 0≤2^wT (dj p).toNat-1:=yT
  generalize fz (dj p).toNat (jJ s.id s.q (lB p) msg)=DG at*
  generalize pT (dj p).toNat=n at*
  refine bB n (fun i env rows=>has env [(39,.raw (it (i:Int))),(38,.raw (it (n:Int))),(37,.sl LI 5 [] 0 n false),(12,.ptr pD 4 [0]),(10,.sl (.ar 32 L8) 2 [] 0 n false),(6,.ptr (.ar 32 L8) 1 [0]),(3,.ptr vP 0 [0])]∧
   rows=[some ⟨vP,[fb s]⟩,some ⟨.ar 32 L8,[.agg (.ar 32 L8) (bs ug)]⟩,some ⟨.ar 32 L8,(KN s p msg n i).map aW⟩,some ⟨.ar 32 L8,[.agg (.ar 32 L8) (bs (lB p))]⟩,some ⟨pD,[iR (uB (dj p).toNat)]⟩,some ⟨LI,DG.map vR⟩]) ?_ ?_ ⟨?_,rfl⟩
  ·rintro i hi env rows ⟨hh,rfl⟩ R hR
   simp only[has]at hh
   have e0:((i:Int)<(n:Int))=True:=eq_true (by omega)
   have e1:=cE i (by omega)
   have hx:=CY i hi
   have kC:=fun rows k=>O8 rows k s i ((BM (dj p).toNat s (lB p) msg).getD i 0) (2^wT (dj p).toNat-1) (chunk p i) gV (by omega) (by have:=hdg' i;omega) (by omega) hx
   rw[←hcE i]at kC
   have gi:=g0' i hi
   have gl:=jz i hi
   have gs:=hsm i hi
   simp only[↓aj,ak,simprocAttr,aa,aX,hh,e0,e1,b0,dw,cQ,gi,h2,kE,gl,h4,kC,gs]
   exact hR _ _ ⟨by simp only[has,↓aj,ak,simprocAttr,aa,hh],rfl⟩
  ·rintro env rows ⟨hh,rfl⟩ R
   simp only[has]at hh
   have e0:((n:Int)<(n:Int))=False:=eq_false (by omega)
   simp only[↓aj,ak,simprocAttr,aa,aX,hh,e0,dw,h8]
   refine Eq.mpr (kFold _ _ s _ _ (bT.dl rfl (HE n)) gV p8 (by rw[HE];omega)) ?_
   rw[←hcS]
   simp only[↓aj,ak,simprocAttr,aa,aX,hh]
   exact .val _ rfl
  ·simp only[has,↓aj,ak,simprocAttr,aa]
 ·rw[if_neg he]
  have kSp:=fun rows k=>kSplitE rows k d1 p gp.to sO he
  have he':(gy p=0)=False:=eq_false he
  simp only[↓aj,ak,simprocAttr,aa,aX,aW,dw,h7,kSp,he',decide_false,Bool.not_false]
  exact .val _ rfl
theorem kClaim(rows:Rows)(k:D→Rows→Prop)(s:Site)(d e:D)(p m:List (BitVec 8))(hd:bc rows d p)(hm:bc rows e m)(gV:s.id.length=16)(hp:p.length≤1099511627776)(he:gy p=0):
  aJ Ka rows k [fb s,d,e]=k (.cA [.agg (.ar 32 L8) (bs (pF s p m)),.raw (it 0)]) rows:=by
 refine(fT (jC s rows) (.bs hd) (.bs hm) (by simp[gV,hp]) (by simp[he,bZ,fI,aW,Sh.pure,aS]) k).trans ?_
 simp[he,aW,shift,bh,ae,Sh.pure]
theorem F9(t:BitVec 32):cY (bC t)=t:=by
 apply BitVec.eq_of_toNat_eq
 have h:=TF ((t>>>24).setWidth 8) ((t>>>16).setWidth 8) ((t>>>8).setWidth 8) (t.setWidth 8)
 rw[show cY (bC t)=cY [(t>>>24).setWidth 8,(t>>>16).setWidth 8,(t>>>8).setWidth 8,t.setWidth 8]from rfl,←h]
 exact O3 t
theorem Ga{l:List (List (BitVec 8))}(h:∀x∈l,x.length=32):∀i (hi:i<l.length),(l.flatten.drop (32*i)).take 32=l[i]:=by
 induction l with
 |nil=>intro i hi;simp at hi
 | cons x l ih =>
  intro i hi
  have hx:=h x (by simp)
  cases i with
  |zero=>rw[Nat.mul_zero,List.drop_zero,List.flatten_cons,←hx,List.take_left];rfl
  |succ i=>
   rw[List.flatten_cons,show 32*(i+1)=x.length+32*i by omega,List.drop_length_add_append]
   exact ih (fun y hy=>h y (by simp[hy])) i (by simpa using hi)
section
variable (t:BitVec 32) (s:Site) (aL c m:List (BitVec 8))
theorem sig_T:dj (lq t s aL c m)=t:=by
 rw[dj,←oF _ 4 (by decide),lq,List.append_assoc]
 show cY (bC t)=t
 exact F9 t
variable (hc:c.length=32)
include hc
theorem sig_C:lB (lq t s aL c m)=c:=by
 rw[lB,lq,List.append_assoc]
 show(c++(js t.toNat s aL c m (pT t.toNat)).flatten).take 32=c
 have h:=List.take_left (l₁:=c) (l₂:=(js t.toNat s aL c m (pT t.toNat)).flatten)
 rw[hc]at h
 exact h
theorem TX(i:Nat)(hi:i<pT t.toNat):chunk (lq t s aL c m) i=Hn s.id s.q i ((BM t.toNat s c m).getD i 0) 0 (DH s.id s.q i aL):=by
 have h36:(bC t++c).length=36:=by rw[List.length_append,hc];rfl
 have sO:(js t.toNat s aL c m (pT t.toNat)).length=pT t.toNat:=by simp[js]
 rw[chunk,lq,show 36+32*i=(bC t++c).length+32*i by omega,List.drop_length_add_append,Ga (BN _ _ _ _ _ _) i (by omega)]
 simp[js]
theorem Pk(ht:sH t.toNat=true):pF s (lq t s aL c m) m=DI t.toNat s aL:=by
 have hT:=sig_T t s aL c m
 have hC:=sig_C t s aL c m hc
 rw[pF,hT,DI,vN]
 congr 1
 apply List.map_congr_left
 intro i hi
 have hi:=List.mem_range.1 hi
 have hle:(BM t.toNat s c m).getD i 0≤2^wT t.toNat-1:=J9 ht _ i
 rw[clE,hT,hC,TX t s aL c m hc i hi]
 generalize (BM t.toNat s c m).getD i 0=a at*
 have:=J0 s.id s.q i (2^wT t.toNat-1-a) a 0 (DH s.id s.q i aL)
 rw[Nat.zero_add]at this
 rw[←this]
 congr 1
 omega
end
abbrev Hq:Sh:= .cons dk (.cons dk (.cons (.ar 16 L8) (.cons (.ar 32 L8) .nil)))
noncomputable def Gb:Fn:=lE dN (fun a=>Nat.ble 4 a.length) fun a=>(.raw (u32 (cY a)),[])
theorem lnum_ok(C:be)(hC:aI C P):aO C.aZ P 146 (Fn.run Gb):=by
 refine aH (Tn C hC) fun ds rows r h=>?_
 obtain⟨d,a,rfl,rfl,hd,hp,rfl⟩:=a8 h
 have ha:=eU hd
 simp only[Nat.ble_eq]at hp
 refine⟨rfl,ag rfl ?_⟩
 unfold H8 H9
 have e0:∀(k:D→Rows→Prop) rows,nQ (.leaf (.int .u8)) 0 rows k d=k (.b5 (.raw (u8 (a.getD 0 0#8)))) rows:=fun k rows=>by have:=gh (k:=k) (rows:=rows) (n:=0) ha (by omega);simpa using this
 have e1:∀(k:D→Rows→Prop) rows,nQ (.leaf (.int .u8)) 1 rows k d=k (.b5 (.raw (u8 (a.getD 1 0#8)))) rows:=fun k rows=>by have:=gh (k:=k) (rows:=rows) (n:=1) ha (by omega);simpa using this
 have e2:∀(k:D→Rows→Prop) rows,nQ (.leaf (.int .u8)) 2 rows k d=k (.b5 (.raw (u8 (a.getD 2 0#8)))) rows:=fun k rows=>by have:=gh (k:=k) (rows:=rows) (n:=2) ha (by omega);simpa using this
 have e3:∀(k:D→Rows→Prop) rows,nQ (.leaf (.int .u8)) 3 rows k d=k (.b5 (.raw (u8 (a.getD 3 0#8)))) rows:=fun k rows=>by have:=gh (k:=k) (rows:=rows) (n:=3) ha (by omega);simpa using this
 simp only[↓aj,ak,simprocAttr,aa,e0,e1,e2,e3]
 exact .val _ rfl
theorem kLNum(rows:Rows)(k:D→Rows→Prop)(d:D)(p:List (BitVec 8))(h:bc rows d p)(hp:4≤p.length):aJ Gb rows k [d]=k (.raw (u32 (cY p))) rows:=by
 refine(cC (bT.bs h) (by simpa using hp) rfl k).trans ?_
 simp[shift,ae]
def hT(t:Nat):Nat:=if 5≤t∧t≤9 then 5*(t-4)else if 3758096384<t∧t≤3758096388 then t-3758096384 else 0
def G4(t:Nat):Bool:=decide (5≤t∧t≤9∨3758096384<t∧t≤3758096388)
theorem hT_le(t:Nat):hT t≤25:=by
 unfold hT;split
 ·omega
 ·split<;>omega
theorem TY{t:BitVec 32}(h:G4 t.toNat=true):t=5#32∨t=6#32∨t=7#32∨t=8#32∨t=9#32∨t=3758096385#32∨t=3758096386#32∨t=3758096387#32∨t=3758096388#32:=by
 simp only[G4,decide_eq_true_eq]at h
 have:t.toNat=5∨t.toNat=6∨t.toNat=7∨t.toNat=8∨t.toNat=9∨t.toNat=3758096385∨t.toNat=3758096386∨t.toNat=3758096387∨t.toNat=3758096388:=by omega
 have g:∀n,n<4294967296→t.toNat=n→t=BitVec.ofNat 32 n:=fun n hn e=>BitVec.eq_of_toNat_eq (by rw[e,BitVec.toNat_ofNat,Nat.mod_eq_of_lt hn])
 rcases this with h|h|h|h|h|h|h|h|h<;>have:=g _ (by decide) h<;>simp[this]
def wF:Fn:=lE qN (fun _=>true) fun t=>(.cA [.raw (it (hT t.toNat:Int)),.raw (.bool (G4 t.toNat))],[])
theorem TZ(C:be)(hC:aI C P):aO C.aZ P 36 (Fn.run wF):=by
 refine aH (Jv C hC) fun ds rows r h=>?_
 obtain⟨d,t,rfl,rfl,hd,hp,rfl⟩:=a8 h
 cases dL hd
 refine⟨rfl,ag rfl ?_⟩
 clear h hd
 unfold zu zv
 cases hk:G4 t.toNat
 ·have hz:hT t.toNat=0:=by
   simp only[G4,decide_eq_false_iff_not]at hk
   unfold hT;split
   ·omega
   ·split<;>omega
  rw[hz]
  simp only[G4,decide_eq_false_iff_not]at hk
  have a1:(5#32≤t)=(5≤t.toNat):=propext BitVec.le_def
  have a2:(t≤9#32)=(t.toNat≤9):=propext BitVec.le_def
  have a3:(3758096384#32<t)=(3758096384<t.toNat):=propext BitVec.lt_def
  have a4:(t≤3758096388#32)=(t.toNat≤3758096388):=propext BitVec.le_def
  by_cases c1:5≤t.toNat<;>by_cases c2:t.toNat≤9<;>by_cases c3:3758096384<t.toNat<;>by_cases c4:t.toNat≤3758096388<;>
   first
   |omega
   |(simp only[↓aj,ak,simprocAttr,aa,a1,a2,a3,a4,c1,c2,c3,c4,decide_true,decide_false];exact .val _ rfl)
 ·rcases TY hk with rfl|rfl|rfl|rfl|rfl|rfl|rfl|rfl|rfl<;>
  ·simp only[↓aj,ak,simprocAttr,aa,BitVec.reduceLT,BitVec.reduceLE,BitVec.reduceSub,BitVec.reduceToNat,decide_true,decide_false]
   exact .val _ rfl
theorem Eb(rows:Rows)(k:D→Rows→Prop)(t:BitVec 32):aJ wF rows k [.raw (u32 t)]=k (.cA [.raw (it (hT t.toNat:Int)),.raw (.bool (G4 t.toNat))]) rows:=by
 refine(cC (bT.raw (fK t)) rfl rfl k).trans ?_
 simp[shift,bh,ae]
structure Key where
 t:BitVec 32
 o:BitVec 32
 id:List (BitVec 8)
 root:List (BitVec 8)
def BO(k:Key):D:= .agg Hq [.raw (u32 k.t),.raw (u32 k.o),.agg (.ar 16 L8) (bs k.id),.agg (.ar 32 L8) (bs k.root)]
def T3:Key:=⟨0#32,0#32,List.replicate 16 0#8,List.replicate 32 0#8⟩
def keyOf(p:List (BitVec 8)):Key:=⟨cY p,cY (p.drop 4),(p.drop 8).take 16,p.drop 24⟩
def eu(p:List (BitVec 8)):Key×Int:=
 bif decide (p.length=56)then
  (bif G4 (cY p).toNat&&sH (cY (p.drop 4)).toNat then(keyOf p,0)else(T3,6))
 else(T3,2)
noncomputable def Gc:Fn:=lE dN (fun a=>Nat.ble a.length most) fun p=>(.cA [BO (eu p).1,.raw (it (eu p).2)],[])
theorem Gd(rows:Rows)(k:D→Rows→Prop)(x:List (BitVec 8))(e:Bool)(h:4≤x.length):aJ Gb rows k [.cF L8 (bs x) e]=k (.raw (u32 (cY x))) rows:=by
 refine(bi rfl (ei (zp x e) (by simpa using h))).trans ?_
 simp[shift,ae]
set_option maxHeartbeats 2000000 in
theorem XQ(C:be)(hC:aI C P)(h1:C.fn 146=some Gb)(h2:C.fn 36=some wF)(h3:C.fn 37=some l6):aO C.aZ P 143 (Fn.run Gc):=by
 refine cr (OM C hC) fun ds rows r h=>?_
 obtain⟨d,p,rfl,rfl,hd,hp,rfl⟩:=a8 h
 obtain⟨x,hx⟩:=cy hd
 refine⟨rfl,_,.cons hx .nil,ag rfl ?_⟩
 simp only[Nat.ble_eq]at hp
 unfold most at hp
 clear h hx hd
 unfold FF FG
 have hz:D.fits (.agg Hq [.raw (u32 0#32),.raw (u32 0#32),.agg (.ar 16 L8) (List.replicate 16 (.raw (u8 0#8))),.agg (.ar 32 L8) (List.replicate 32 (.raw (u8 0#8)))]) Hq=true:=rfl
 by_cases hl:p.length=56
 ·have d0:4≤p.length:=by omega
  have d4:4≤(p.drop 4).length:=by rw[List.length_drop];omega
  have tk4:(bs (p.drop 4)).take 52=bs (p.drop 4):=List.take_of_length_le (by rw[aC,List.length_drop];omega)
  have tk8:(bs (p.drop 8)).take 16=bs ((p.drop 8).take 16):=ey _ _
  have tkk:(bs ((p.drop 8).take 16)).take 16=bs ((p.drop 8).take 16):=List.take_of_length_le (by rw[aC,List.length_take];omega)
  have tk24:(bs (p.drop 24)).take 32=bs (p.drop 24):=List.take_of_length_le (by rw[aC,List.length_drop];omega)
  simp only[↓aj,ak,simprocAttr,aa,aC,hl,h1,Gd _ _ _ _ d0,Gd _ _ _ _ d4,fw,tk4,tk8,tkk,tk24,List.length_drop,hz]
  have l16:(List.take 16 (List.drop 8 p)).length=16:=by rw[List.length_take,List.length_drop];omega
  have l32:(List.drop 24 p).length=32:=by rw[List.length_drop];omega
  refine⟨by omega,?_⟩
  simp only[↓aj,ak,simprocAttr,aa,aX,l16,l32,h2,h3,Eb,mY,hz,iR,tkk,tk24]
  have hq:eu p=if G4 (cY p).toNat&&sH (cY (p.drop 4)).toNat then(keyOf p,0)else(T3,6):=by
   simp only[eu,hl,decide_true,cond_true]
   cases G4 (cY p).toNat&&sH (cY (p.drop 4)).toNat<;>rfl
  rw[hq]
  cases g1:G4 (cY p).toNat<;>cases g2:sH (cY (p.drop 4)).toNat<;>
  ·simp only[↓aj,ak,simprocAttr,aa,Bool.not_true,Bool.not_false,Bool.and_self,Bool.and_false,Bool.false_and,if_true,Bool.false_eq_true,if_false,D.fits]
   try exact .val _ rfl
 ·have wx:((p.length:Int)=56)=False:=eq_false (by omega)
  have hq:eu p=(T3,2):=by simp[eu,hl]
  rw[hq]
  simp only[↓aj,ak,simprocAttr,aa,aC,wx]
  exact .val _ rfl
end iC
end Go.Am

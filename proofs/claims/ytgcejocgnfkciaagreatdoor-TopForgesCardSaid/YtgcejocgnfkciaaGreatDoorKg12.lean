import Derived.Test.YtgcejocgnfkciaaGreatDoorKg11
set_option linter.unusedSimpArgs false
set_option linter.unusedVariables false
set_option maxRecDepth 10000
set_option maxHeartbeats 4000000
namespace Go.Am
attribute [local congr] dq bW dt bX bY cB bI bZ b5 cC bu cD b6 dj
namespace jU
open Go.Am.F
def tA(rows:Rows)(d:D)(ls:List (List (BitVec 8))):Prop:=(∃d',view rows 9 d=some d'/\Br d'=some ls)/\(aR d=false->Br d=some ls)
theorem tA.nil(rows:Rows):tA rows (.raw (.slice none 0 0)) []:=⟨⟨_,rfl,rfl⟩,λ_=>rfl⟩
theorem tA.sl{rows:Rows}{r n:Nat}{ex:Bool}{l:List D}{ls:List (List (BitVec 8))}(hl:live rows r=some ⟨.ref,l⟩)(hn:l.length=n)(hv:bd (λx y=>aU rows x y) l ls):tA rows (.sl .ref r [] 0 n ex) ls:=by
 obtain⟨l',h1,h2⟩:=rP hv
 have he:elems rows (.sl .ref r [] 0 n ex)=some l:=by simp[elems,hl,<-hn]
 have hvw:view rows 9 (.sl .ref r [] 0 n ex)=some (.cI .ref l' ex):=by
  simp only[view,he,hn,ab3,aa8,aaM,Sh.pure,h1]
 exact⟨⟨_,hvw,by simpa[Br]using h2⟩,λh=>by simp[aR]at h⟩
theorem kDer(rows:Rows)(k:D->Rows->Prop)(d e:D)(key:List (BitVec 8))(lab:ByteArray)(ls:List (List (BitVec 8)))(h:aU rows d key)(h':tA rows e ls)(hp:JP key lab ls=true):aI Yy rows k [d,.raw (.string lab),e]=k (.agg (.ar 32 L8) (bs (Yx key lab ls))) rows:=by
 obtain⟨⟨d',j9,hb⟩,hn⟩:=h
 obtain⟨⟨e',he',hq⟩,hm⟩:=h'
 have e1:∀a b,dB a=some key->Br b=some ls->Yy [a,.raw (.string lab),b] []=some (aO (Yx key lab ls),[]):=λa b ha hb=>by
  rw[Yy,Bf,ha,hb];simp[rdStr,hp]
 have hsh:shift rows.length (aO (Yx key lab ls))=aO (Yx key lab ls):=by simp[aO,shift,Sh.pure]
 have hno:cj (aO (Yx key lab ls))=true:=by simp[aO,cj,Sh.pure]
 unfold aI
 cases hh:aW [d,.raw (.string lab),e]with
 |true=>
  have hvs:view rows 9 (.raw (.string lab))=some (.raw (.string lab)):=rfl
  simp only[ack,dU,j9,he',hvs,bn,e1 _ _ hb.rd hq,hno,be,ach,aa2,hsh,ab,aaL]
  simp[aO]
 |false=>
  simp only[aW,acx,Bool.or_false]at hh
  simp only[ack,bn,e1 _ _ (hn hh.1).rd (hm hh.2.2),hsh,ab,aaL]
  simp[aO]
abbrev OY:=List (Int×List (BitVec 8))
theorem layk_run(C C1:bf)(hC:SlC C1 C){rows:Rows}{r h:Nat}{key:List (BitVec 8)}{l:OY}(hr:live rows r=some ⟨wR,[gJ l]⟩)(hl:l.length=8)(hh:h<8)(hz:(l.getD h (0,[])).1=0){K:D->Rows->Prop}
  (hk:∀aa,(∀q row,live rows q=some row->q≠r->live aa q=some row)->live aa r=some ⟨wR,[gJ (l.set h (1,key))]⟩->K (.raw (it 0)) aa):
  aQ C 4 jj jh [.ptr wR r [0],.raw (it (h:Int)),.raw (it 1),.agg (.ar 32 L8) (bs key)] rows K:=by
 obtain⟨nm,rm,nw,C0,Ws⟩:=hC
 refine ag rfl ?_
 unfold jh jj
 have e0:((0:Int)<=(h:Int))=True:=aas (by omega)
 have e1:((h:Int)<8)=True:=aas (by omega)
 have uY:=λL=>ae hr L
 have Gn:=uU (l:=l) (h:=h) (by omega)
 have hg:l.getD h (0,[])=l[h]'(by omega):=by simp[List.getD,(by omega:h<l.length)]
 rw[hg]at hz
 rw[hz]at Gn
 have Hz:=YL l
 have hst:=J0 (l:=l) (h:=h) (by omega) (1,key)
 have hlt:=bb hr
 simp only[↓ah,aj,simprocAttr,aM,nm,rm]
 refine OA (q:=rows.length+1) C1 C0 (uY _) (by rw[aK];rfl) hl hh nw Ws ?_
 have k0:live (rows++[some ⟨.ar 32 L8,[.agg (.ar 32 L8) (bs key)]⟩,some ⟨LI,[.raw (it (h:Int))]⟩]) rows.length=some ⟨.ar 32 L8,[.agg (.ar 32 L8) (bs key)]⟩:=by rw[bw];rfl
 have du:mA [gJ l] [0,0,h] (.agg SPl [.raw (it 1),.agg (.ar 32 L8) (bs key)])=some [gJ (l.set h (1,key))]:=hst
 simp only[↓ah,aj,simprocAttr,aM,uY,Gn,e0,e1,Hz,k0,du]
 refine hk _ ?_ ?_
 ·intro q row hq hne
  rw[az (abT hne)]
  exact ae hq _
 ·exact aD (uY _)
theorem may2_run(C C1:bf){rows:Rows}{r q:Nat}{ex:Bool}{l:OY}(hr:live rows r=some ⟨wR,[gJ l]⟩)(hq:live rows q=some ⟨LI,[.raw (it 0),.raw (it 1)]⟩)(hl:l.length=8)
  (nw:C.fn 205=none)(Ws:C.fy 205=some (aQ C1 2 cZ cY)){K:D->Rows->Prop}(hk:K (.raw (it 0)) rows):
  aQ C 2 fG fF [.ptr wR r [0],.sl LI q [] 0 2 ex] rows K:=by
 refine ag rfl ?_
 unfold fF fG
 have hd:=MG l
 simp only[↓ah,aj,simprocAttr,aM,hr,hd]
 refine gh 3 ?_
 simp only[↓ah,aj,simprocAttr,aM,hr,hq,hd,nG,nw,Ws,cY,cZ]
 exact hk
theorem kind_run(C C1:bf)(hC:SlC C1 C){rows:Rows}{r:Nat}{l:OY}(hr:live rows r=some ⟨wR,[gJ l]⟩)(hl:l.length=8){K:D->Rows->Prop}(hk:K (.raw (it (l[0]'(by omega)).1)) (rows++[some ⟨LI,[.raw (it 0)]⟩])):
  aQ C 2 iJ iI [.ptr wR r [0],.raw (it 0)] rows K:=by
 obtain⟨nm,rm,nw,C0,Ws⟩:=hC
 refine ag rfl ?_
 unfold iI iJ
 have uY:=λL=>ae hr L
 have Gn:=uU (l:=l) (h:=0) (by omega)
 simp only[↓ah,aj,simprocAttr,aM,nm,rm]
 refine OA (q:=rows.length) C1 C0 (h:=0) (uY [some ⟨LI,[.raw (it 0)]⟩]) (bw rows [some ⟨LI,[.raw (it 0)]⟩]) hl (by omega) nw Ws ?_
 simp only[↓ah,aj,simprocAttr,aM,uY,Gn]
 exact hk
structure WpC (C C1 C2:bf):Prop where
 n0:C.fn 199=none
 r0:C.fy 199=some (aQ C1 2 iJ iI)
 sl:SlC C2 C1
theorem wipe_run(C C1 C2:bf)(H:WpC C C1 C2){rows:Rows}{r q:Nat}{ex:Bool}{l:OY}(hr:live rows r=some ⟨wR,[gJ l]⟩)(hq:live rows q=some ⟨LI,[.raw (it 0)]⟩)(hl:l.length=8)(hn:(l.getD 0 (0,[])).1≠0){K:D->Rows->Prop}
  (hk:∀aa,(∀q row,live rows q=some row->q≠r->live aa q=some row)->live aa r=some ⟨wR,[gJ (l.set 0 (0,qg))]⟩->K (.raw (it 1)) aa):
  aQ C 2 iF iE [.ptr wR r [0],.sl LI q [] 0 1 ex] rows K:=by
 obtain⟨n0,r0,nm,rm,nw,C0,Ws⟩:=H
 refine ag rfl ?_
 unfold iE iF
 simp only[dw]
 have uY:=λL=>ae hr L
 have hq':=λL=>ae hq L
 have Gn:=uU (l:=l) (h:=0) (by omega)
 have hg:l.getD 0 (0,[])=l[0]'(by omega):=by simp[List.getD,(by omega:0<l.length)]
 rw[hg]at hn
 have SA:((l[0]'(by omega)).1=0)=False:=aax hn
 have hst:mA [gJ l] [0,0,0] (.agg SPl [.raw (it 0),.agg (.ar 32 L8) (bs qg)])=some [gJ (l.set 0 (0,qg))]:=J0 (l:=l) (h:=0) (by omega) (0,qg)
 simp only[↓ah,aj,simprocAttr,aM,hr]
 refine gh 2 ?_
 simp only[↓ah,aj,simprocAttr,aM,hr,hq,n0,r0]
 refine kind_run C1 C2 ⟨nm,rm,nw,C0,Ws⟩ hr hl ?_
 simp only[↓ah,aj,simprocAttr,aM,uY,hq',Gn,SA,hst]
 refine hk _ ?_ (aD (uY _))
 intro q row hq hne
 rw[az (abT hne)]
 exact ae hq _
structure DeC (C C1 C2:bf):Prop where
 sl:SlC C2 C
 k0:C.fn 197=none
 k1:C.fy 197=some (aQ C1 2 jl jk)
 sk:∃C3,SlC C3 C1
 de:C.fn 198=some Yy
theorem Up(C C1 C2:bf)(H:DeC C C1 C2){rows:Rows}{r:Nat}{l:OY}{lab:ByteArray}{d:D}{ls:List (List (BitVec 8))}(hr:live rows r=some ⟨wR,[gJ l]⟩)(hl:l.length=8)(hn:(l.getD 0 (0,[])).1≠0)(hk32:(l.getD 0 (0,[])).2.length=32)(hz:(l.getD 1 (0,[])).1=0)
  (hd:∀aa,Kept rows aa->tA aa d ls)(hpre:JP (l.getD 0 (0,[])).2 lab ls=true){K:D->Rows->Prop}
  (hk:∀aa p,(∀q row,live rows q=some row->q≠r->live aa q=some row)->live aa r=some ⟨wR,[gJ (l.set 1 p)]⟩->K (.raw (it 0)) aa):
  aQ C 5 gC gB [.ptr wR r [0],.raw (it 0),.raw (it 1),.raw (.string lab),d] rows K:=by
 obtain⟨⟨nm,rm,nw,C0,Ws⟩,k0,k1,⟨C3,sk⟩,de⟩:=H
 refine ag rfl ?_
 unfold gB gC
 simp only[dw]
 have Zu:=ae hr [some ⟨LI,[.raw (it 0),.raw (it 1)]⟩]
 have MK:Kept rows (rows++[some ⟨LI,[.raw (it 0),.raw (it 1)]⟩]):=Kept.app _ _
 have Gn:=uU (l:=l) (h:=1) (by omega)
 have hg:l.getD 1 (0,[])=l[1]'(by omega):=by simp[List.getD,(by omega:1<l.length)]
 rw[hg]at hz
 rw[hz]at Gn
 simp only[↓ah,aj,simprocAttr,aM,nm,rm]
 refine may2_run (q:=rows.length) C2 C0 Zu (bw rows [some ⟨LI,[.raw (it 0),.raw (it 1)]⟩]) hl nw Ws ?_
 simp only[↓ah,aj,simprocAttr,aM,k0,k1]
 refine key_run C1 C3 sk (h:=0) Zu hl (by omega) λaa hK=>?_
 rw[aaJ hn]
 have Hi:=hK _ _ Zu
 have GP:=MK.trans hK
 have hB:aU aa (.sl L8 r [0,0,0,1] 0 32 true) (l.getD 0 (0,[])).2:=by
  have Sq:l.getD 0 (0,[])=l[0]'(by omega):=by simp[List.getD,(by omega:0<l.length)]
  refine aU.tf Hi (n:=32) (i:=0) (q:=[0,0,1]) ?_ hk32
  have:=slot_key (l:=l) (h:=0) (by omega)
  rw[Sq]
  exact this
 have kD:=λk=>kDer aa k _ d _ lab ls hB (hd _ GP) hpre
 have hst:∀p,mA [gJ l] [0,0,1] (.agg SPl [.raw (it 2),.agg (.ar 32 L8) (bs p)])=some [gJ (l.set 1 (2,p))]:=λp=>J0 (l:=l) (h:=1) (by omega) (2,p)
 simp only[↓ah,aj,simprocAttr,aM,Hi,Gn,de,kD,hst]
 refine hk _ _ ?_ (aD Hi)
 intro q row hq hne
 rw[az (abT hne)]
 exact GP q row hq
noncomputable def Wx:Fn:=mV (bx iU) Wp λr=>(aO (cM r.flatten),[])
theorem mdig_ok(C:bf)(hC:aJ C P)(h1:C.fn 195=some Oy)(h2:C.fn 95=some Di):aN C.aX P 176 (Fn.run Wx):=by
 refine aG (Bc C hC) λds rows r h=>?_
 obtain⟨d,R,rfl,rfl,hd,hp,rfl⟩:=a8 h
 cases aE hd
 refine⟨rfl,ag rfl ?_⟩
 clear h hd
 unfold rF rG
 simp only[dw]
 have hf:(iU R).fits SMea=true:=by simp[iU,D.fits]
 have kT:=λrows k=>kMText rows k R hp
 simp only[↓ah,aj,simprocAttr,aM,hf,h1,kT,h2,iU]
 refine Eq.mpr (N0 _ _ 3 1 true [.sl L8 2 [] 0 128 false] [R.flatten] rfl rfl (.cons (aU.own (l:=R.flatten) rfl _ (JY hp).symm) .nil) (by simp) (by simp[JY hp])) ?_
 have hS:[R.flatten].flatten=R.flatten:=by simp
 simp only[↓ah,aj,simprocAttr,aM,hS]
 exact .val _ rfl
theorem kMDig(rows:Rows)(k:D->Rows->Prop)(r:List (List (BitVec 8)))(h:Wp r=true):aI Wx rows k [iU r]=k (.agg (.ar 32 L8) (bs (cM r.flatten))) rows:=by
 refine(cO (MF r rows) h (by simp[aO,cj,be,Sh.pure]) k).trans ?_
 simp[shift,ab,aO,Sh.pure]
noncomputable def Uq:Fn:=fAt [.raw (it 0)] (.cA [.raw (it 27),.raw (it 0)])
theorem ato_ok(C:bf)(hC:aJ C P):aN C.aX P 194 (Fn.run Uq):=by
 refine rX (m_otp_at C hC) (ag rfl ?_)
 unfold P7 P8
 simp only[↓ah,aj,simprocAttr,aM]
 exact .val _ rfl
def OC(c:rU):List (BitVec 8)×Int:=
 bif c.s then(qg,12)else bif Ya (c.w.getD 35 0#32) 1 then(qg,17)else bif Ya (c.w.getD 35 0#32) 0 then(gO ((c.w.drop 27).take 8),0)else(qg,3)
theorem rowC_len(c:rU)(h:c.ws.length=64):(OC c).1.length=32:=by
 have h1:c.w.length=64:=by rw[aaE,h]
 unfold OC
 cases c.s<;>cases Ya (c.w.getD 35 0#32) 1<;>cases Ya (c.w.getD 35 0#32) 0<;>simp only[aaU,aaM]<;>first|rfl|(rw[mr,aau,aar,h1];rfl)
noncomputable def Wy:Fn:=tW (bx tN) tH (λc i=>decide (c.ws.length=64)&&decide (i=0)) λc _=>(.cA [aO (OC c).1,.raw (it (OC c).2)],[])
theorem rowc_ok(C:bf)(hC:aJ C P)(h1:C.fn 76=some Dr)(h2:C.fn 194=some Uq)(h3:C.fn 135=some fOn)(h4:C.fn 185=some Dh):aN C.aX P 175 (Fn.run Wy):=by
 refine aG (IY C hC) λds rows r h=>?_
 obtain⟨d,e,c,i,rfl,rfl,hd,he,hp,rfl⟩:=cQ h
 cases aE hd
 cases bK he
 simp only[aan,aat]at hp
 obtain⟨hp,rfl⟩:=hp
 refine⟨rfl,ag rfl ?_⟩
 clear h hd he
 unfold xZ x5
 have hm:c.w.length=64:=by rw[aaE,hp]
 have kA:=λrows k=>Mn rows k c hp
 have kT:=λrows k=>kAt [.raw (it 0)] (.cA [.raw (it 27),.raw (it 0)]) rfl rfl rows k rfl
 have kO0:∀rows k,aI fOn rows k [.raw (u32 (c.w.getD 35 0#32)),.raw (it 0)]=k (.raw (.bool (Ya (c.w.getD 35 0#32) 0))) rows:=λrows k=>kOn rows k (c.w.getD 35 0#32) 0 (by omega)
 have kO1:∀rows k,aI fOn rows k [.raw (u32 (c.w.getD 35 0#32)),.raw (it 1)]=k (.raw (.bool (Ya (c.w.getD 35 0#32) 1))) rows:=λrows k=>kOn rows k (c.w.getD 35 0#32) 1 (by omega)
 have nb:Nm (tN c) (.raw (.pointer none))=some false:=rfl
 have g35:=ia (l:=c.w) (i:=35) (by omega)
 have hdt:((us c.w).drop 27).take 8=us ((c.w.drop 27).take 8):=by rw[VJ,VK]
 have kD:=λrows k=>Vw rows k ((c.w.drop 27).take 8) (by rw[aau,aar,hm];rfl)
 simp only[dw]
 unfold OC
 simp only[tN]at kA nb⊢
 cases hs:c.s
 ·rw[hs]at kA nb
  cases ho1:Ya (c.w.getD 35 0#32) 1
  ·rw[ho1]at kO1
   cases ho0:Ya (c.w.getD 35 0#32) 0
   ·rw[ho0]at kO0
    simp only[↓ah,aj,simprocAttr,aM,h1,h2,h3,h4,kA,Uq,kT,nb,kO0,kO1,g35]
    exact .val _ rfl
   ·rw[ho0]at kO0
    simp only[↓ah,aj,simprocAttr,aM,h1,h2,h3,h4,kA,Uq,kT,nb,kO0,kO1,g35,hdt,kD]
    exact⟨by simp[us];omega,.val _ rfl⟩
  ·rw[ho1]at kO1
   simp only[↓ah,aj,simprocAttr,aM,h1,h2,h3,h4,kA,Uq,kT,nb,kO1,g35]
   exact .val _ rfl
 ·rw[hs]at kA nb
  simp only[↓ah,aj,simprocAttr,aM,h1,h2,h3,h4,kA,Uq,kT,nb]
  exact .val _ rfl
theorem kRowC{rows:Rows}{d:D}{c:rU}(h:bk rows (bx tN) d c)(hc:c.ws.length=64)(k:D->Rows->Prop):aI Wy rows k [d,.raw (it 0)]=k (.cA [.agg (.ar 32 L8) (bs (OC c).1),.raw (it (OC c).2)]) rows:=by
 refine(gf h (bk.int 0) (by simp[hc]) (by simp[aO,cj,jG,be,Sh.pure]) k).trans ?_
 simp[shift,bB,ab,aO,Sh.pure]
def J5(a:BitVec 32):D:= .agg Wu [.agg (.ar 32 cJ) (us (List.replicate 32 0#32)),.raw (u32 a),.agg (.cons cJ (.cons cJ (.cons cJ (.cons cJ (.cons cJ (.cons cJ (.cons cJ (.cons cJ .nil)))))))) (us (List.replicate 8 0#32)),.raw (.bool false)]
noncomputable def J6:Fn:=mV qs (λ_=>true) λa=>(J5 a,[])
theorem coren_ok(C:bf)(hC:aJ C P):aN C.aX P 66 (Fn.run J6):=by
 refine aG (Th C hC) λds rows r h=>?_
 obtain⟨d,a,rfl,rfl,hd,hp,rfl⟩:=a8 h
 cases dH hd
 refine⟨rfl,ag rfl ?_⟩
 clear h hd
 unfold Iv Iw
 simp only[↓ah,aj,simprocAttr,aM]
 exact .val _ rfl
theorem kCoreN(rows:Rows)(k:D->Rows->Prop)(a:BitVec 32):aI J6 rows k [.raw (u32 a)]=k (J5 a) rows:=by
 refine(a9 rfl (eK (eO a) rfl)).trans ?_
 simp[J5,shift,ab,Sh.pure]
def Ly.all(L:Ly)(b:Nat):List Nat:=[b,L.M,L.s,L.m,L.e,L.sl,L.q,L.w]
noncomputable def Wz:aC:=lG (lG (lG (lG bz)))
noncomputable def locB:aC:=oV Wz
noncomputable def locC:aC:=lG Wz
theorem YR:bz= .seq (oV bz) (.seq (oV (lG bz)) (.seq (oV (lG (lG bz))) (.seq (oV (lG (lG (lG bz)))) (.seq locB locC)))):=rfl
def enD(L:Ly)(m k n:D):D:= .agg RW [.ptr wR L.sl [0],m,k,n]
structure J7 (rows:Rows) (L:Ly) (R:List (List (BitVec 8))) (l:OY):Prop where
 e:∃k n,live rows L.e=some ⟨RW,[enD L (iU R) k n]⟩
 s:live rows L.sl=some ⟨wR,[gJ l]⟩
 hr:Wp R=true
 hl:l.length=8
theorem J7.keep{rows aa:Rows}{L:Ly}{R:List (List (BitVec 8))}{l:OY}(h:J7 rows L R l)(f:∀q row,live rows q=some row->q=L.e\/q=L.sl->live aa q=some row):J7 aa L R l:=by
 obtain⟨⟨k,n,h1⟩,h2,h3,h4⟩:=h
 exact⟨⟨k,n,f _ _ h1 (.inl rfl)⟩,f _ _ h2 (.inr rfl),h3,h4⟩
theorem gF.off{rows aa:Rows}{L:Ly}{S:zq}{r:Nat}{y:Row}(h:gF rows L S)(hy:live rows r=some y)(hs:y.sh=wR\/y.sh=RW)(f:∀q row,live rows q=some row->q≠r->live aa q=some row):gF aa L S:=by
 refine h.keep λq row hq hm=>f q row hq λhn=>?_
 subst hn
 obtain⟨⟨co,p,h1⟩,⟨pt,h2⟩,h3,⟨⟨ex,h4⟩,h5⟩,h6,h7⟩:=h
 have h8:=h7.ch
 have h9:=h7.ar
 have h10:=h7.dat
 simp only[Ly.ids,aaW,acm,adU]at hm
 rcases hs with hs|hs<;>rcases hm with rfl|rfl|rfl|rfl|rfl|rfl|rfl<;>simp_all
theorem gF.sealA{rows aa:Rows}{L:Ly}{S:zq}{c':rU}(h:gF rows L S)(hc:uR aa L.q L.a L.w c')(f:∀p row,live rows p=some row->p≠L.q->p≠L.w->live aa p=some row):gF aa L {S with c:=c'}:=by
 obtain⟨⟨co,p,h1⟩,⟨pt,h2⟩,h3,⟨⟨ex,h4⟩,h5⟩,h6,h7⟩:=h
 have h8:=h7.ch
 have h9:=h7.ar
 have h10:=h7.dat
 have k:∀{q row},live rows q=some row->row.sh≠TQ->row.sh≠DX->live aa q=some row:=λ{q row} hq hn SA=>f q row hq (λe=>hn (by rw[e,h8]at hq;injection hq with hq;rw[<-hq])) (λe=>SA (by rw[e,h10]at hq;injection hq with hq;rw[<-hq]))
 exact⟨⟨co,p,k h1 (by intro h;cases h) (by intro h;cases h)⟩,⟨pt,k h2 (by intro h;cases h) (by intro h;cases h)⟩,h3,⟨⟨ex,k h4 (by intro h;cases h) (by intro h;cases h)⟩,k h5 (by intro h;cases h) (by intro h;cases h)⟩,h6,hc⟩
theorem gF.stg{rows:Rows}{L:Ly}{S:zq}{pt:D}(h:gF rows L S)(st:Int):gF (rows.set L.s (some ⟨nj,[wQ st S.gZ pt L.f L.q]⟩)) L {S with st:=st}:=by
 obtain⟨⟨co,p,h1⟩,⟨pt0,Zj⟩,h3,⟨⟨ex,h4⟩,h5⟩,h6,h7⟩:=h
 have h8:=h7.ch
 have h9:=h7.ar
 have h10:=h7.dat
 have k:∀{q row},live rows q=some row->row.sh≠nj->live (rows.set L.s (some ⟨nj,[wQ st S.gZ pt L.f L.q]⟩)) q=some row:=λ{q row} hq hn=>by
  rw[az λe=>hn (by rw[<-e,Zj]at hq;injection hq with hq;rw[<-hq])];exact hq
 exact⟨⟨co,p,k h1 (by intro h;cases h)⟩,⟨pt,aD Zj⟩,h3,⟨⟨ex,k h4 (by intro h;cases h)⟩,k h5 (by intro h;cases h)⟩,h6,h7.keep λp row hp hq=>k hp (by rcases hq with rfl|rfl|rfl<;>(intro h;simp_all))⟩
theorem gF.cor{rows:Rows}{L:Ly}{S:zq}{c p:D}(h:gF rows L S):gF (rows.set L.M (some ⟨ko,[RX L c p]⟩)) L S:=by
 obtain⟨⟨co,p0,h1⟩,⟨pt0,Zj⟩,h3,⟨⟨ex,h4⟩,h5⟩,h6,h7⟩:=h
 have h8:=h7.ch
 have h9:=h7.ar
 have h10:=h7.dat
 have k:∀{q row},live rows q=some row->row.sh≠ko->live (rows.set L.M (some ⟨ko,[RX L c p]⟩)) q=some row:=λ{q row} hq hn=>by
  rw[az λe=>hn (by rw[<-e,h1]at hq;injection hq with hq;rw[<-hq])];exact hq
 exact⟨⟨c,p,aD h1⟩,⟨pt0,k Zj (by intro h;cases h)⟩,h3,⟨⟨ex,k h4 (by intro h;cases h)⟩,k h5 (by intro h;cases h)⟩,h6,h7.keep λp row hp hq=>k hp (by rcases hq with rfl|rfl|rfl<;>(intro h;simp_all))⟩
structure LocC (C:bf):Prop where
 to:ToC C
 l0:C.fn 180=none
 l1:∃C1,C.fy 180=some (aQ C1 1 iH iG)
 s0:C.fn 181=none
 s1:∃C1 C2,C.fy 181=some (aQ C1 1 jR jQ)/\C2.fn 189=some tv/\C1.fn 200=none/\C1.fy 200=some (aQ C2 2 fZ fY)
 ba:C.fn 170=some yh
 co:C.fn 66=some J6
def slotL(l:OY):D:= .agg wR [.agg (.ar 8 SPl) (l.map plD),.raw (.bool true),.raw (.bool false)]
theorem slk_run(C:bf){rows:Rows}{r:Nat}{l:OY}(hr:live rows r=some ⟨wR,[gJ l]⟩){K:D->Rows->Prop}(hk:K (.cA []) (rows.set r (some ⟨wR,[slotL l]⟩))):aQ C 1 iH iG [.ptr wR r [0]] rows K:=by
 refine ag rfl ?_
 unfold iG iH
 have Hz:mA [gJ l] [0,1] (.raw (.bool true))=some [slotL l]:=rfl
 simp only[↓ah,aj,simprocAttr,aM,hr,Hz]
 exact hk
theorem lockC(C:bf)(H:LocC C){env:Env}{rows:Rows}{L:Ly}{S:zq}{b:Nat}{B:Bt}(hh:has env [(0,.ptr l7 b [0]),(1,.ptr ko L.M [0]),(6,.ptr RW L.e [0])])(hM:gF rows L S)(hb:cP rows b B)(hE:∃m k n l,live rows L.e=some ⟨RW,[enD L m k n]⟩/\live rows L.sl=some ⟨wR,[gJ l]⟩){K:D->Rows->Prop}
  (hk:∀aa c',c'.w=S.c.w->Fr (L.all b) rows aa->gF aa L {S with st:=1,c:=c'}->cP aa b {B with ph:=8,left:=0}->K (.cA []) aa):aw C locC (KC [] K) env rows:=by
 simp only[has]at hh
 obtain⟨Fp,GL,YS,-⟩:=hh
 obtain⟨m,k,n,l,he,hs⟩:=hE
 obtain⟨C1,r1⟩:=H.l1
 obtain⟨C2,C3,r2,hTh,ZP,hL1⟩:=H.s1
 obtain⟨C4,r4⟩:=H.to.r
 have RY:=hM
 have hb0:=hb
 obtain⟨⟨co,pp,qG⟩,⟨pt,hsp⟩,DZ,my,zA,Ay⟩:=hM
 simp only[RX]at qG
 simp only[wQ]at hsp
 simp only[enD]at he
 simp only[cP,mc]at hb
 have oG:∀X q row,live rows q=some row->q≠L.sl->live (rows.set L.sl X) q=some row:=λX q row hq hn=>by rw[az (abT hn)];exact hq
 have bS:=λX=>oG X b _ hb (gU hb hs (by intro h;cases h))
 have mS:=λX=>oG X L.M _ qG (gU qG hs (by intro h;cases h))
 have sS:=λX=>oG X L.s _ hsp (gU hsp hs (by intro h;cases h))
 have hM1:=λX=>RY.off hs (.inl rfl) (oG X)
 unfold locC Wz
 simp only[bz,lG,↓ah,aj,simprocAttr,aM,Fp,GL,YS,he,qG,hsp,H.l0,r1]
 refine slk_run C1 hs ?_
 simp only[Fp,GL,YS,↓ah,aj,simprocAttr,aM,mS,sS,H.s0,r2]
 refine seal_run C2 C3 hTh ZP hL1 (hM1 _).ch λR c' hC' hw hF=>?_
 have hM2:=(hM1 _).sealA hC' hF
 have hch1:=(hM1 (some ⟨wR,[slotL l]⟩)).ch
 have h8:=hch1.ch
 have h10:=hch1.dat
 have bR:=hF _ _ (bS _) (gU (bS _) h8 (by intro h;cases h)) (gU (bS _) h10 (by intro h;cases h))
 have mR:=hF _ _ (mS _) (gU (mS _) h8 (by intro h;cases h)) (gU (mS _) h10 (by intro h;cases h))
 have sR:=hF _ _ (sS _) (gU (sS _) h8 (by intro h;cases h)) (gU (sS _) h10 (by intro h;cases h))
 have kB:=λrows k=>kAt [.raw (it 1)] (.cA [.raw (u32 536870912#32),.raw (it 4096)]) rfl rfl rows k rfl
 have gm:(cw B.iR).get [2]=some (.raw (it B.iR.e)):=rfl
 have nMs:L.M≠L.s:=gU mR sR (by intro h;cases h)
 have nbs:b≠L.s:=gU bR sR (by intro h;cases h)
 have nbM:b≠L.M:=gU bR mR (by intro h;cases h)
 have mR':∀X,live (R.set L.s X) L.M=_:=λX=>(az (abT nMs)).trans mR
 have bR':∀X,live (R.set L.s X) b=_:=λX=>(az (abT nbs)).trans bR
 have cf:∀a,(J5 a).fits Wu=true:=λ_=>rfl
 simp only[Fp,GL,YS,↓ah,aj,simprocAttr,aM,H.ba,yh,kB,bR,mR,sR,bR',mR',gm,H.co,kCoreN,cf,H.to.n,r4]
 have hbb:=(az (x:=some ⟨ko,[RX L (J5 (536870912#32+BitVec.ofInt 32 B.iR.e)) pp]⟩) (abT nbM)).trans (bR' (some ⟨nj,[wQ 1 S.gZ pt L.f L.q]⟩))
 have hM4:=((hM2.stg (pt:=pt) 1).cor (c:=J5 (536870912#32+BitVec.ofInt 32 B.iR.e)) (p:=pp))
 refine tS C4 (B:=B) hbb 8 0 ?_
 simp only[↓ah,aj,simprocAttr]
 refine hk _ c' hw (λq row hq hn=>?_) (hM4.fr (B:=B) hbb ((Fr.refl _ _).set (by simp) _)) (aD hbb)
 simp only[Ly.all,aaW,acm,adU,not_or]at hn
 obtain⟨n1,n2,n3,n4,n5,n6,n7,n8⟩:=hn
 rw[az (abT n1),az (abT n2),az (abT n3)]
 exact hF _ _ (oG _ q row hq n6) n7 n8
structure LobC (C:bf):Prop where
 ro:C.fn 175=some Wy
 di:C.fn 176=some Wx
 l0:C.fn 177=none
 l1:∃C1 C2,C.fy 177=some (aQ C1 4 jj jh)/\SlC C2 C1
 d0:C.fn 178=none
 d1:∃C1 C2 C3,C.fy 178=some (aQ C1 5 gC gB)/\DeC C1 C2 C3
 w0:C.fn 179=none
 w1:∃C1 C2 C3,C.fy 179=some (aQ C1 2 iF iE)/\WpC C1 C2 C3
theorem lockB(C:bf)(H:LobC C){env:Env}{rows:Rows}{L:Ly}{S:zq}{b ql:Nat}{ex:Bool}{B:Bt}{R:List (List (BitVec 8))}{l:OY}{x:BitVec 8}(hh:has env [(0,.ptr l7 b [0]),(1,.ptr ko L.M [0]),(6,.ptr RW L.e [0]),(7,.sl L8 ql [] 0 1 ex)])(hM:gF rows L S)(hb:cP rows b B)(hE:J7 rows L R l)
  (ZB:live rows ql=some ⟨L8,bs [x]⟩)(Fy:(l.getD 0 (0,[])).1=0)(sO:(l.getD 1 (0,[])).1=0){Q:fI->Env->Rows->Prop}
  (hk:∀env' aa,has env' [(0,.ptr l7 b [0]),(1,.ptr ko L.M [0]),(6,.ptr RW L.e [0])]->Fr [L.sl] rows aa->(∃l',live aa L.sl=some ⟨wR,[gJ l']⟩)->Q .normal env' aa):aw C locB Q env rows:=by
 simp only[has]at hh
 obtain⟨Fp,GL,YS,hh7,-⟩:=hh
 obtain⟨⟨k,n,he⟩,hs,hR,hl⟩:=hE
 obtain⟨C1,C2,r1,hSl⟩:=H.l1
 obtain⟨C3,C4,C5,r2,hDe⟩:=H.d1
 obtain⟨C6,C7,C8,r3,hWp⟩:=H.w1
 have RY:=hM
 have hb0:=hb
 obtain⟨⟨co,pp,qG⟩,⟨pt,hsp⟩,DZ,my,zA,Ay⟩:=hM
 simp only[RX]at qG
 simp only[wQ]at hsp
 simp only[enD]at he
 simp only[cP,mc]at hb
 have heA:=λL'=>ae he L'
 have Ra:=λL'=>ae qG L'
 have YQ:=λL'=>ae hsp L'
 unfold locB Wz
 by_cases c3:B.jy=3
 ·have Ou:(B.jy=3)=True:=aas c3
  simp only[bz,lG,oV,↓ah,aj,simprocAttr,aM,Fp,GL,YS,hb,Ou]
  exact hk _ _ (by simp only[has,↓ah,aj,simprocAttr,Fp,GL,YS]) (Fr.refl _ _) ⟨l,hs⟩
 ·have Ou:(B.jy=3)=False:=aax c3
  have kRo:=λk=>kRowC (Ay.rd) Ay.len k
  have kDi:=λrows k=>kMDig rows k R hR
  have Nc:=rowC_len S.c Ay.len
  have kf:=bb hs
  have nes:L.e≠L.sl:=gU he hs (by intro h;cases h)
  have nqs:ql≠L.sl:=gU ZB hs (by intro h;cases h)
  simp only[dw,bz,lG,oV,↓ah,aj,simprocAttr,aM,Fp,GL,YS,he,heA,Ra,YQ,hb,qG,hsp,Ou,H.ro,kRo,H.di,kDi,H.l0,r1]
  have w12:=aK rows [some ⟨.ar 32 L8,[.agg (.ar 32 L8) (bs (OC S.c).1)]⟩,some ⟨.ar 32 L8,[.agg (.ar 32 L8) (bs (cM R.flatten))]⟩] 1
  generalize hkey:(OC S.c).1=key at*
  refine layk_run C1 C2 hSl (h:=0) (ae hs _) hl (by omega) Fy λR2 GP sy=>?_
  have e2:=GP _ _ (heA _) nes
  have q2:=GP _ _ (ae ZB _) nqs
  have a2:=GP _ _ w12 (by omega)
  simp only[Fp,GL,YS,hh7,↓ah,aj,simprocAttr,aM,e2,a2,H.d0,r2]
  have g0:(l.set 0 (1,key)).getD 0 (0,[])=(1,key):=by rw[aaH,List.getElem?_set_self (by omega)];rfl
  have g1:(l.set 0 (1,key)).getD 1 (0,[])=l.getD 1 (0,[]):=by rw[aaH,abP (by decide),<-aaH]
  have ML:∀aa,Kept (R2++[some ⟨.ref,[.sl L8 (rows.length+1) [0] 0 32 true,.sl L8 ql [] 0 1 ex]⟩]) aa->tA aa (.sl .ref R2.length [] 0 2 true) [cM R.flatten,[x]]:=λaa hK=>
   tA.sl (hK _ _ (bw R2 _)) rfl (.cons (aU.tf (n:=32) (i:=0) (q:=[]) (hK _ _ (ae a2 _)) rfl (cm _)) (.cons (aU.own (hK _ _ (ae q2 _)) _ rfl) .nil))
  refine Up C3 C4 C5 hDe (l:=l.set 0 (1,key)) (ls:=[cM R.flatten,[x]]) (ae sy _) (by rw[aa6];exact hl) (by rw[g0];exact Int.one_ne_zero) (by rw[g0];exact Nc) (by rw[g1];exact sO) ML (by rw[g0];simp[JP,Nc,cm];decide) λR3 p hF3 Vh=>?_
  have e3:=hF3 _ _ (ae e2 _) nes
  have hs4:=ae Vh [some ⟨LI,[.raw (it 0)]⟩]
  have g2:((l.set 0 (1,key)).set 1 p).getD 0 (0,[])=(1,key):=by rw[aaH,abP (by decide),<-aaH,g0]
  simp only[Fp,GL,YS,hh7,↓ah,aj,simprocAttr,aM,e3,H.w0,r3]
  refine wipe_run C6 C7 C8 hWp hs4 (bw R3 [some ⟨LI,[.raw (it 0)]⟩]) (by rw[aa6,aa6];exact hl) (by rw[g2];exact Int.one_ne_zero) λR4 hF4 hs5=>?_
  simp only[Fp,GL,YS,hh7,↓ah,aj,simprocAttr,aM]
  refine hk _ _ (by simp only[has,↓ah,aj,simprocAttr,Fp,GL,YS]) (λq row hq hn=>?_) ⟨_,hs5⟩
  have hn:q≠L.sl:=λe=>hn (by simp[e])
  exact hF4 _ _ (ae (hF3 _ _ (ae (GP _ _ (ae hq _) hn) _) hn) _) hn
structure LoaC (C:bf):Prop where
 bo:C.fn 31=some tR
 ex:C.fn 174=some DJ
 b:LobC C
 c:LocC C
theorem Ur(C:bf)(H:LoaC C){rows:Rows}{L:Ly}{S:zq}{b:Nat}{B:Bt}{R:List (List (BitVec 8))}{l:OY}(hM:gF rows L S)(hb:cP rows b B)(hE:J7 rows L R l)(Fy:(l.getD 0 (0,[])).1=0)(sO:(l.getD 1 (0,[])).1=0)(hr:bT B.iR=true)(ww:B.iR.dg.length=32){K:D->Rows->Prop}
  (hk:∀aa c',c'.w=S.c.w->Fr (L.all b) rows aa->gF aa L {S with st:=1,c:=c'}->cP aa b {B with ph:=8,left:=0}->K (.cA []) aa):
  aQ C 2 eU bz [.ptr l7 b [0],.ptr ko L.M [0]] rows K:=by
 refine ag rfl ?_
 rw[YR]
 have RY:=hM
 have hb0:=hb
 have hE0:=hE
 obtain⟨⟨k,n,he⟩,hs,hR,hl⟩:=hE
 obtain⟨⟨co,pp,qG⟩,⟨pt,hsp⟩,DZ,my,zA,Ay⟩:=hM
 simp only[RX]at qG
 simp only[enD]at he
 simp only[cP,mc]at hb
 have heA:=λL'=>ae he L'
 have Ra:=λL'=>ae qG L'
 have hbA:=λL'=>ae hb L'
 have kB:=λrows k=>JR rows k B.iR ww hr
 have gm:(cw B.iR).get [3]=some (.agg (.ar 32 L8) (bs B.iR.dg)):=rfl
 have mf:=dK B.iR
 simp only[bz,lG,oV,eU,↓ah,aj,simprocAttr,aM,he,heA,Ra,hb,hbA,qG,mf,gm,H.bo,kB]
 have hlf:[D.raw (u8 (BitVec.ofInt 8 B.jy))]=bs [BitVec.ofInt 8 B.jy]:=rfl
 have hF0:=Fr.app [L.e] rows [some ⟨L8,bs (bC B.iR)⟩,some ⟨L8,[D.raw (u8 (BitVec.ofInt 8 B.jy))]⟩,some ⟨.ref,[.sl L8 rows.length [] 0 48 false,.sl L8 b [0,2,3] 0 32 true,.sl L8 (rows.length+1) [] 0 1 true]⟩]
 have r0:=bw rows [some ⟨L8,bs (bC B.iR)⟩,some ⟨L8,[D.raw (u8 (BitVec.ofInt 8 B.jy))]⟩,some ⟨.ref,[.sl L8 rows.length [] 0 48 false,.sl L8 b [0,2,3] 0 32 true,.sl L8 (rows.length+1) [] 0 1 true]⟩]
 have r1:=aK rows [some ⟨L8,bs (bC B.iR)⟩,some ⟨L8,[D.raw (u8 (BitVec.ofInt 8 B.jy))]⟩,some ⟨.ref,[.sl L8 rows.length [] 0 48 false,.sl L8 b [0,2,3] 0 32 true,.sl L8 (rows.length+1) [] 0 1 true]⟩] 1
 have r2:=aK rows [some ⟨L8,bs (bC B.iR)⟩,some ⟨L8,[D.raw (u8 (BitVec.ofInt 8 B.jy))]⟩,some ⟨.ref,[.sl L8 rows.length [] 0 48 false,.sl L8 b [0,2,3] 0 32 true,.sl L8 (rows.length+1) [] 0 1 true]⟩] 2
 have he0:=heA [some ⟨L8,bs (bC B.iR)⟩,some ⟨L8,[D.raw (u8 (BitVec.ofInt 8 B.jy))]⟩,some ⟨.ref,[.sl L8 rows.length [] 0 48 false,.sl L8 b [0,2,3] 0 32 true,.sl L8 (rows.length+1) [] 0 1 true]⟩]
 have pS:=hbA [some ⟨L8,bs (bC B.iR)⟩,some ⟨L8,[D.raw (u8 (BitVec.ofInt 8 B.jy))]⟩,some ⟨.ref,[.sl L8 rows.length [] 0 48 false,.sl L8 b [0,2,3] 0 32 true,.sl L8 (rows.length+1) [] 0 1 true]⟩]
 have hel:=bb he
 have nbe:b≠L.e:=gU hb he (by intro h;cases h)
 have FB:(bC B.iR).length=48:=jX _ ww
 generalize rows++[some ⟨L8,bs (bC B.iR)⟩,some ⟨L8,[D.raw (u8 (BitVec.ofInt 8 B.jy))]⟩,some ⟨.ref,[.sl L8 rows.length [] 0 48 false,.sl L8 b [0,2,3] 0 32 true,.sl L8 (rows.length+1) [] 0 1 true]⟩]=R0 at*
 have hp:∀i:Nat,i<3->∃d p,[D.sl L8 rows.length [] 0 48 false,.sl L8 b [0,2,3] 0 32 true,.sl L8 (rows.length+1) [] 0 1 true][i]?=some d/\d.fits .ref=true/\p.length<=1000/\∀rs,Fr [L.e] R0 rs->∀more,aU (rs++more) d p:=by
  intro i hi
  have k:∀{q row rs},live R0 q=some row->q≠L.e->Fr [L.e] R0 rs->live rs q=some row:=λhq hn hf=>hf _ _ hq (by simpa using hn)
  match i,hi with
  |0,_=>exact⟨_,bC B.iR,rfl,rfl,by omega,λrs hf more=>aU.own (ae (k r0 (by omega) hf) more) _ FB.symm⟩
  |1,_=>exact⟨_,B.iR.dg,rfl,rfl,by omega,λrs hf more=>aU.tf (n:=32) (i:=0) (q:=[2,3]) (ae (k pS nbe hf) more) rfl ww⟩
  |2,_=>exact⟨_,[BitVec.ofInt 8 B.jy],rfl,rfl,by simp,λrs hf more=>aU.own (ae (k r1 (by omega) hf) more) _ rfl⟩
 refine bg 3 (λj env rs=>has env [(42,.raw (it (j:Int))),(41,.raw (it 3)),(40,.sl .ref (rows.length+2) [] 0 3 true),(0,.ptr l7 b [0]),(1,.ptr ko L.M [0]),(6,.ptr RW L.e [0]),(7,.sl L8 (rows.length+1) [] 0 1 true)]/\Fr [L.e] R0 rs/\∃R' k' n',Wp R'=true/\live rs L.e=some ⟨RW,[.agg RW [.ptr wR L.sl [0],iU R',k',n']]⟩) ?_ ?_ ⟨?_,Fr.refl _ _,R,k,n,hR,he0⟩
 ·rintro j hj env rs ⟨hh,hF,R',k',n',UX,he'⟩ Q hQ
  simp only[has]at hh
  obtain⟨d,p,hd,hdf,tV,hpb⟩:=hp j hj
  have e0:((j:Int)<3)=True:=aas (by omega)
  have e1:=ca j (by omega)
  have q2:=hF _ _ r2 (by simp;omega)
  have kX:∀k,aI DJ (rs++[some ⟨.ref,[d]⟩]) k [iU R',.raw (it (j:Int)),.sl .ref rs.length [] 0 1 true]=_:=λk=>kExtend (rs++[some ⟨.ref,[d]⟩]) k R' j rs.length 1 true [d] [p] UX (bw rs _) rfl (.cons (hpb _ hF _) .nil) (by simp) (by simp;omega)
  have hq:=yY he'
  have heA':=λL'=>ae he' L'
  have mfit:(iU (Oz R' j [p].flatten)).fits SMea=true:=rfl
  simp only[↓ah,aj,simprocAttr,aM,hh,e0,q2,hd,hdf,he',heA',hq,H.ex,kX,e1,mfit]
  exact⟨abj j,hQ _ _ ⟨by simp only[has,↓ah,aj,simprocAttr,hh],hF.trans (((Fr.refl _ _).set (adM _) _).trans (Fr.app _ _ _)),_,k',n',extR_ok UX _ _,hq.2.2.1 _ _⟩⟩
 ·rintro env rs ⟨hh,hF,R',k',n',UX,he'⟩ Q
  simp only[has]at hh
  have fe:∀q row,live rows q=some row->q≠L.e->live rs q=some row:=λq row hq hn=>hF _ _ (hF0 _ _ hq (by simpa using hn)) (by simpa using hn)
  have nse:L.sl≠L.e:=gU hs he (by intro h;cases h)
  have hM2:=RY.off he (.inr rfl) fe
  have Ln:cP rs b B:=fe _ _ hb0 nbe
  have sy:=fe _ _ hs nse
  have hlf2:=hF _ _ r1 (by simp;omega)
  simp only[↓ah,aj,simprocAttr,aM,hh]
  refine lockB C H.b (ex:=true) (ql:=rows.length+1) (by simp only[has,↓ah,aj,simprocAttr,hh]) hM2 Ln ⟨⟨k',n',he'⟩,sy,UX,hl⟩ hlf2 Fy sO λenv' aa YT Zz ⟨l',gy⟩=>?_
  have fs:∀q row,live rs q=some row->q≠L.sl->live aa q=some row:=λq row hq hn=>Zz _ _ hq (by simpa using hn)
  have nbs:b≠L.sl:=gU hb hs (by intro h;cases h)
  refine lockC C H.c YT (hM2.off sy (.inl rfl) fs) (fs _ _ Ln nbs) ⟨_,k',n',l',fs _ _ he' (abT nse),gy⟩ λmU c' hw hF3 hM3 hB3=>hk mU c' hw (λq row hq hn=>?_) hM3 hB3
  have SA:=hn
  simp only[Ly.all,aaW,acm,adU,not_or]at SA
  obtain⟨n1,n2,n3,n4,n5,n6,n7,n8⟩:=SA
  exact hF3 _ _ (fs _ _ (fe _ _ hq n5) n6) hn
 ·simp only[has,↓ah,aj,simprocAttr]
structure TkC (C:bf):Prop where
 w0:C.fn 121=none
 w1:∃C1,C.fy 121=some (aQ C1 2 eD eC)/\WrC C1
 c0:C.fn 122=none
 c1:∃C1,C.fy 122=some (aQ C1 2 eR cr)/\CdC C1
 s0:C.fn 123=none
 s1:∃C1,C.fy 123=some (aQ C1 2 fo fm)/\StaC C1
 l0:C.fn 124=none
 l1:∃C1,C.fy 124=some (aQ C1 2 cW cV)/\LkC C1
 h0:C.fn 125=none
 h1:∃C1,C.fy 125=some (aQ C1 2 eT eS)/\ChoC C1
 k0:C.fn 126=none
 k1:∃C1,C.fy 126=some (aQ C1 2 eF eE)/\CkC C1
 o0:C.fn 127=none
 o1:∃C1,C.fy 127=some (aQ C1 2 eU bz)/\LoaC C1
def tT(f:lI)(ds:List D)(rows:Rows)(P:D->Rows->Prop):Prop:=∀K:D->Rows->Prop,(∀d aa,P d aa->K d aa)->f ds rows K
def PB(Z:Rows->Prop)(d:D)(rows:Rows):Prop:=∃v,d= .raw (.bool v)/\Z rows
def PU(Z:Rows->Prop)(d:D)(rows:Rows):Prop:=d= .cA []/\Z rows
section
variable {C:bf} {rows:Rows} {L:Ly} {b:Nat} {B:Bt} {Z:Rows->Prop}
def Tk(C:bf)(L:Ly)(b:Nat)(rows:Rows)(Z:Rows->Prop):Prop:=tT (aQ C 2 cH cG) [.ptr l7 b [0],.ptr ko L.M [0]] rows (PB Z)
theorem tick_dec(H:TkC C)(n:Nat)(hn:n<=100)(hb:cP rows b B)(hp:B.ph=1\/B.ph=2)(hl:B.left=((n+2:Nat):Int))(hz:Z (rows.set b (some ⟨l7,[mc {B with left:=((n+1:Nat):Int)}]⟩))):Tk C L b rows Z:=by
 intro K hK
 have hk:=hK _ _ ⟨false,rfl,hz⟩
 refine ag rfl ?_
 unfold cG cH
 simp only[cP,mc]at hb
 have hs:=λx=>aD (y:=x) hb
 have w:wz (((n+2:Nat):Int)-1)=((n+1:Nat):Int):=by rw[aZ (by omega)];omega
 have e:(0<((n+1:Nat):Int))=True:=aas (by omega)
 rcases hp with hp|hp<;>simp only[↓ah,aj,simprocAttr,aM,hb,hs,hp,hl,w,e]<;>(rw[mc,hp]at hk;exact hk)
theorem tick4{C1:bf}(H:TkC C)(hb:cP rows b B)(hp:B.ph=4)(h:C.fy 121=some (aQ C1 2 eD eC))(hk:tT (aQ C1 2 eD eC) [.ptr l7 b [0],.ptr ko L.M [0]] rows (PB Z)):Tk C L b rows Z:=by
 intro K hK
 refine ag rfl ?_
 unfold cG cH
 simp only[cP,mc]at hb
 simp only[↓ah,aj,simprocAttr,aM,hb,hp,H.w0,h]
 refine hk _ λd aa hd=>?_
 obtain⟨v,rfl,hz⟩:=hd
 simp only[↓ah,aj,simprocAttr]
 exact hK _ _ ⟨v,rfl,hz⟩
theorem tick5{C1:bf}(H:TkC C)(hb:cP rows b B)(hp:B.ph=5)(h:C.fy 122=some (aQ C1 2 eR cr))(hk:tT (aQ C1 2 eR cr) [.ptr l7 b [0],.ptr ko L.M [0]] rows (PB Z)):Tk C L b rows Z:=by
 intro K hK
 refine ag rfl ?_
 unfold cG cH
 simp only[cP,mc]at hb
 simp only[↓ah,aj,simprocAttr,aM,hb,hp,H.c0,h]
 refine hk _ λd aa hd=>?_
 obtain⟨v,rfl,hz⟩:=hd
 simp only[↓ah,aj,simprocAttr]
 exact hK _ _ ⟨v,rfl,hz⟩
theorem tick0{C1:bf}(H:TkC C)(hb:cP rows b B)(hp:B.ph=0)(hl:B.left=1)(h:C.fy 123=some (aQ C1 2 fo fm))(hk:tT (aQ C1 2 fo fm) [.ptr l7 b [0],.ptr ko L.M [0]] (rows.set b (some ⟨l7,[mc {B with left:=0}]⟩)) (PB Z)):Tk C L b rows Z:=by
 intro K hK
 refine ag rfl ?_
 unfold cG cH
 simp only[cP,mc]at hb
 have hs:=λx=>aD (y:=x) hb
 rw[mc]at hk
 simp only[hp]at hk
 simp only[↓ah,aj,simprocAttr,aM,hb,hs,hp,hl,H.s0,h]
 refine hk _ λd aa hd=>?_
 obtain⟨v,rfl,hz⟩:=hd
 simp only[↓ah,aj,simprocAttr]
 exact hK _ _ ⟨_,rfl,hz⟩
theorem tick3{C1:bf}(H:TkC C)(hb:cP rows b B)(hp:B.ph=3)(hl:B.left=1)(h:C.fy 125=some (aQ C1 2 eT eS))(hk:tT (aQ C1 2 eT eS) [.ptr l7 b [0],.ptr ko L.M [0]] (rows.set b (some ⟨l7,[mc {B with left:=0}]⟩)) (PB Z)):Tk C L b rows Z:=by
 intro K hK
 refine ag rfl ?_
 unfold cG cH
 simp only[cP,mc]at hb
 have hs:=λx=>aD (y:=x) hb
 rw[mc]at hk
 simp only[hp]at hk
 simp only[↓ah,aj,simprocAttr,aM,hb,hs,hp,hl,H.h0,h]
 refine hk _ λd aa hd=>?_
 obtain⟨v,rfl,hz⟩:=hd
 simp only[↓ah,aj,simprocAttr]
 exact hK _ _ ⟨_,rfl,hz⟩
theorem tick6{C1:bf}(H:TkC C)(hb:cP rows b B)(hp:B.ph=6)(hl:B.left=1)(h:C.fy 126=some (aQ C1 2 eF eE))(hk:tT (aQ C1 2 eF eE) [.ptr l7 b [0],.ptr ko L.M [0]] (rows.set b (some ⟨l7,[mc {B with left:=0}]⟩)) (PB Z)):Tk C L b rows Z:=by
 intro K hK
 refine ag rfl ?_
 unfold cG cH
 simp only[cP,mc]at hb
 have hs:=λx=>aD (y:=x) hb
 rw[mc]at hk
 simp only[hp]at hk
 simp only[↓ah,aj,simprocAttr,aM,hb,hs,hp,hl,H.k0,h]
 refine hk _ λd aa hd=>?_
 obtain⟨v,rfl,hz⟩:=hd
 simp only[↓ah,aj,simprocAttr]
 exact hK _ _ ⟨_,rfl,hz⟩
theorem tick7{C1:bf}(H:TkC C)(hb:cP rows b B)(hp:B.ph=7)(hl:B.left=1)(h:C.fy 127=some (aQ C1 2 eU bz))(hk:tT (aQ C1 2 eU bz) [.ptr l7 b [0],.ptr ko L.M [0]] (rows.set b (some ⟨l7,[mc {B with left:=0}]⟩)) (PU Z)):Tk C L b rows Z:=by
 intro K hK
 refine ag rfl ?_
 unfold cG cH
 simp only[cP,mc]at hb
 have hs:=λx=>aD (y:=x) hb
 rw[mc]at hk
 simp only[hp]at hk
 simp only[↓ah,aj,simprocAttr,aM,hb,hs,hp,hl,H.o0,h]
 refine hk _ λd aa hd=>?_
 obtain⟨rfl,hz⟩:=hd
 simp only[↓ah,aj,simprocAttr]
 exact hK _ _ ⟨_,rfl,hz⟩
theorem tick1{C1:bf}(H:TkC C)(hb:cP rows b B)(hp:B.ph=1)(hl:B.left=1)(h:C.fy 124=some (aQ C1 2 cW cV))(hk:tT (aQ C1 2 cW cV) [.ptr l7 b [0],.ptr ko L.M [0]] (rows.set b (some ⟨l7,[mc {B with left:=0}]⟩)) (PU Z)):Tk C L b rows Z:=by
 intro K hK
 refine ag rfl ?_
 unfold cG cH
 simp only[cP,mc]at hb
 have hs:=λx=>aD (y:=x) hb
 rw[mc]at hk
 simp only[hp]at hk
 simp only[↓ah,aj,simprocAttr,aM,hb,hs,hp,hl,H.l0,h]
 refine hk _ λd aa hd=>?_
 obtain⟨rfl,hz⟩:=hd
 simp only[↓ah,aj,simprocAttr]
 exact hK _ _ ⟨_,rfl,hz⟩
theorem tick2{C1:bf}(H:TkC C)(hb:cP rows b B)(hp:B.ph=2)(hl:B.left=1)(h:C.fy 124=some (aQ C1 2 cW cV))(hk:tT (aQ C1 2 cW cV) [.ptr l7 b [0],.ptr ko L.M [0]] (rows.set b (some ⟨l7,[mc {B with left:=0}]⟩)) (PU Z)):Tk C L b rows Z:=by
 intro K hK
 refine ag rfl ?_
 unfold cG cH
 simp only[cP,mc]at hb
 have hs:=λx=>aD (y:=x) hb
 rw[mc]at hk
 simp only[hp]at hk
 simp only[↓ah,aj,simprocAttr,aM,hb,hs,hp,hl,H.l0,h]
 refine hk _ λd aa hd=>?_
 obtain⟨rfl,hz⟩:=hd
 simp only[↓ah,aj,simprocAttr]
 exact hK _ _ ⟨_,rfl,hz⟩
end
def J8:aC->aC
 | .block _ (.loop a)=>a
 |c=>c
noncomputable def iQ:aC:=J8 (oV (lG (lG cn)))
theorem YU:cn= .seq (oV cn) (.seq (oV (lG cn)) (.seq (.block 0 (.loop iQ)) (lG (lG (lG cn))))):=rfl
def Ev(L:Ly)(b most i:Nat)(env:Env):Prop:=has env [(7,.raw (it (i:Int))),(2,.raw (it (most:Int))),(0,.ptr l7 b [0]),(1,.ptr ko L.M [0])]
structure RnC (C C1:bf):Prop where
 t0:C.fn 61=none
 t1:C.fy 61=some (aQ C1 2 cH cG)
 tk:TkC C1
section
variable {C C1:bf} {rows:Rows} {env:Env} {L:Ly} {b most i n:Nat} {B:Bt} {Z:Rows->Prop} {Q:fI->Env->Rows->Prop}
theorem mu(H:RnC C C1)(hh:Ev L b most i env)(hi:i<most)(hm:most<=100000)(hb:cP rows b B)(hp:B.ph<8)(ht:Tk C1 L b rows Z)(hn:∀env' aa,Ev L b most (i+1) env'->Z aa->ku (aw C iQ) Q n env' aa):ku (aw C iQ) Q (n+1) env rows:=by
 simp only[Ev,has]at hh
 have e0:((i:Int)<(most:Int))=True:=aas (by omega)
 have e1:(B.ph<8)=True:=aas hp
 have w:=ca i (by omega)
 simp only[cP,mc]at hb
 rw[lp_s]
 unfold iQ at*
 generalize hX:kLp C (J8 (oV (lG (lG cn)))) Q n=X
 simp only[cn,oV,lG,J8,↓ah,aj,simprocAttr,aM,hh,e0,e1,hb,H.t0,H.t1]
 refine ht _ λd aa hd=>?_
 obtain⟨v,rfl,hz⟩:=hd
 simp only[↓ah,aj,simprocAttr,aM,hh,w]
 subst hX
 exact hn _ _ (by simp only[Ev,has,↓ah,aj,simprocAttr,hh]) hz
theorem J9(hh:Ev L b most i env)(hb:cP rows b B)(hp:¬B.ph<8)(hq:∀env',Ev L b most i env'->Q (.exit 0) env' rows):ku (aw C iQ) Q (n+1) env rows:=by
 simp only[Ev,has]at hh
 have e1:(B.ph<8)=False:=aax hp
 simp only[cP,mc]at hb
 rw[lp_s]
 unfold iQ at*
 by_cases c:i<most
 ·have e0:((i:Int)<(most:Int))=True:=aas (by omega)
  simp only[cn,oV,lG,J8,↓ah,aj,simprocAttr,aM,hh,e0,e1,hb]
  exact hq _ (by simp only[Ev,has,↓ah,aj,simprocAttr,hh])
 ·have e0:((i:Int)<(most:Int))=False:=aax (by omega)
  simp only[cn,oV,lG,J8,↓ah,aj,simprocAttr,aM,hh,e0,e1,hb]
  exact hq _ (by simp only[Ev,has,↓ah,aj,simprocAttr,hh])
end
end jU
end Go.Am
namespace Go.Am
namespace jU
open Go.Am.F
theorem J7.fr{X:List Nat}{rows aa:Rows}{L:Ly}{R:List (List (BitVec 8))}{l:OY}(h:J7 rows L R l)(f:Fr X rows aa)(h1:L.e∉X)(h2:L.sl∉X):J7 aa L R l:=
 h.keep λq row hq hn=>f q row hq (by rcases hn with rfl|rfl<;>assumption)
theorem Us{rows:Rows}{b:Nat}{B:Bt}(h:cP rows b B){q:Nat}{s:Sh}{l:List D}(hq:live rows q=some ⟨s,l⟩)(hs:s≠l7):q≠b:=gU hq h hs
structure Ka (rows:Rows) (L:Ly) (S:zq) (b:Nat) (B:Bt) (R:List (List (BitVec 8))) (l:OY):Prop where
 m:gF rows L S
 e:J7 rows L R l
 b:cP rows b B
theorem Ka.fr{rows aa:Rows}{L:Ly}{S:zq}{b:Nat}{B B':Bt}{R:List (List (BitVec 8))}{l:OY}(h:Ka rows L S b B R l)(f:Fr [b] rows aa)(hb:cP aa b B'):Ka aa L S b B' R l:=by
 obtain⟨h1,h2,h3⟩:=h
 refine⟨h1.fr h3 f,h2.fr f ?_ ?_,hb⟩
 ·obtain⟨k,n,he⟩:=h2.e
  simpa using Us h3 he (by intro h;cases h)
 ·simpa using Us h3 h2.s (by intro h;cases h)
def MM(rows:Rows)(B:Bt)(bD:List (BitVec 8)):Prop:=∃p,B.bD= .sl L8 p [] 0 bD.length false/\live rows p=some ⟨L8,bs bD⟩
theorem MM.fr{rows aa:Rows}{b:Nat}{B B':Bt}{bD:List (BitVec 8)}(h:MM rows B bD)(hb:cP rows b B)(f:Fr [b] rows aa)(e:B'.bD=B.bD):MM aa B' bD:=by
 obtain⟨p,h1,h2⟩:=h
 exact⟨p,e.trans h1,f _ _ h2 (by simpa using Us hb h2 (by intro h;cases h))⟩
section
variable {C C1:bf} {L:Ly} {S:zq} {R:List (List (BitVec 8))} {l:OY} {b most:Nat} {Q:fI->Env->Rows->Prop} {bD:List (BitVec 8)}
theorem WA(H:RnC C C1)(hm:most<=100000)(sq:bD.length<=1000)(j:Nat)(hj:j<=1)(n:Nat):∀(m:Nat),m<=16->∀(rows:Rows) (env:Env) (i:Nat) (B:Bt),Ka rows L S b B R l->MM rows B bD->B.ph=j+1->B.left=((m+1:Nat):Int)->i+m<most->Ev L b most i env->
  (∀env' aa q,Ev L b most (i+m+1) env'->Fr [b] rows aa->cP aa b {B.J2 j (ZA S.x bD B.least j q)with ph:=j+2,left:=if j=0 then 17 else 1}->ku (aw C iQ) Q n env' aa)->ku (aw C iQ) Q (n+m+1) env rows:=by
 intro m
 induction m with
 | zero =>
  intro _ rows env i B hR hP vM hl hi hh hn
  obtain⟨C2,r2,HL⟩:=H.tk.l1
  obtain⟨p,hp,hlp⟩:=hP
  have sO:B.left=1:=hl
  have hF:Fr [b] rows (rows.set b (some ⟨l7,[mc {B with left:=0}]⟩)):=(Fr.refl _ _).set (by simp) _
  have pS:cP (rows.set b (some ⟨l7,[mc {B with left:=0}]⟩)) b {B with left:=0}:=aD hR.b
  have hP2:=MM.fr (B':={B with left:=0}) ⟨p,hp,hlp⟩ hR.b hF rfl
  obtain⟨p',hp',hlp'⟩:=hP2
  have hrun:tT (aQ C2 2 cW cV) [.ptr l7 b [0],.ptr ko L.M [0]] (rows.set b (some ⟨l7,[mc {B with left:=0}]⟩)) (PU λaa=>Fr [b] rows aa/\∃q,cP aa b {B.J2 j (ZA S.x bD B.least j q)with ph:=j+2,left:=if j=0 then 17 else 1}):=by
   intro K hK
   refine Uk C2 HL (S:=S) j hj (hR.m.fr hR.b hF) pS vM (Eq.subst (motive:=λd=>aU (rows.set b (some ⟨l7,[mc {B with left:=0}]⟩)) d bD) hp'.symm (aU.own hlp' _ rfl)) sq (hK _ _ ⟨rfl,(hF.trans ((Fr.refl _ _).set (by simp) _)).trans (Fr.app _ _ _),(rows.set b (some ⟨l7,[mc {B with left:=0}]⟩)).length,?_⟩)
   have e:∀v,{({B with left:=0}:Bt).J2 j v with ph:=(j:Int)+2,left:=if j=0 then 17 else 1}=({B.J2 j v with ph:=(j:Int)+2,left:=if j=0 then 17 else 1}:Bt):=λv=>by
    unfold Bt.J2;split<;>rfl
   rw[e]
   exact ae (aD pS) _
  have fin:Tk C1 L b rows (λaa=>Fr [b] rows aa/\∃q,cP aa b {B.J2 j (ZA S.x bD B.least j q)with ph:=j+2,left:=if j=0 then 17 else 1}):=by
   rcases(by omega:j=0\/j=1)with rfl|rfl
   ·exact tick1 H.tk hR.b vM sO r2 hrun
   ·exact tick2 H.tk hR.b vM sO r2 hrun
  exact mu H hh (by omega) hm hR.b (by rw[vM];omega) fin λenv' aa YT hz=>hn env' aa hz.2.choose YT hz.1 hz.2.choose_spec
 | succ m ih =>
  intro hm16 rows env i B hR hP vM hl hi hh hn
  have hF:Fr [b] rows (rows.set b (some ⟨l7,[mc {B with left:=((m+1:Nat):Int)}]⟩)):=(Fr.refl _ _).set (by simp) _
  have pS:cP (rows.set b (some ⟨l7,[mc {B with left:=((m+1:Nat):Int)}]⟩)) b {B with left:=((m+1:Nat):Int)}:=aD hR.b
  refine mu H hh (by omega) hm hR.b (by rw[vM];omega) (Z:=λaa=>aa=rows.set b (some ⟨l7,[mc {B with left:=((m+1:Nat):Int)}]⟩)) (tick_dec H.tk m (by omega) hR.b (by rw[vM];omega) hl rfl) λenv' aa YT hz=>?_
  subst hz
  refine ih (by omega) _ _ _ {B with left:=((m+1:Nat):Int)} (hR.fr hF pS) (hP.fr hR.b hF rfl) vM rfl (by omega) YT λnC nD q Yj GP Ln=>?_
  refine hn nC nD q (by rw[show i+(m+1)+1=i+1+m+1 by omega];exact Yj) (hF.trans GP) ?_
  have e:∀v,{({B with left:=((m+1:Nat):Int)}:Bt).J2 j v with ph:=(j:Int)+2,left:=if j=0 then 17 else 1}=({B.J2 j v with ph:=(j:Int)+2,left:=if j=0 then 17 else 1}:Bt):=λv=>by
   unfold Bt.J2;split<;>rfl
  rw[e]at Ln
  exact Ln
end
section
variable {C C1:bf} {L:Ly} {S:zq} {R:List (List (BitVec 8))} {l:OY} {b most:Nat} {Q:fI->Env->Rows->Prop}
theorem Ka.ne{rows:Rows}{B:Bt}(h:Ka rows L S b B R l):L.e∉[b,L.m]/\L.sl∉[b,L.m]/\L.e∉[b,L.s]/\L.sl∉[b,L.s]/\b≠L.m/\b≠L.s:=by
 obtain⟨h1,h2,h3⟩:=h
 obtain⟨k,n,he⟩:=h2.e
 obtain⟨pt,hs⟩:=h1.sp
 have hm:=h1.fl.dat
 have a1:=Us h3 he (by intro h;cases h)
 have a2:=Us h3 h2.s (by intro h;cases h)
 have a3:=gU he hm (by intro h;cases h)
 have a4:=gU h2.s hm (by intro h;cases h)
 have a5:=gU he hs (by intro h;cases h)
 have a6:=gU h2.s hs (by intro h;cases h)
 exact⟨by simp[a1,a3],by simp[a2,a4],by simp[a1,a5],by simp[a2,a6],gU h3 hm (by intro h;cases h),gU h3 hs (by intro h;cases h)⟩
theorem go_write(H:RnC C C1)(hm:most<=100000)(n j z ro q:Nat)(s:JS)(hj:j<=1)(hz:z<=2048){rows:Rows}{env:Env}{i:Nat}{B:Bt}(hR:Ka rows L S b B R l)(vM:B.ph=4)(kf:B.sl=j)(qR:B.iR.s=z)
  (ho:B.ops= .sl E3 ro [] 0 2 true)(hro:live rows ro=some ⟨E3,(tz (some (S.x,false)) s q).map JO.D⟩)(hq:live rows q=some ⟨L8,bs (gq (oC (some (S.x,false)) s))⟩)(hqm:q≠L.m)(hi:i+1<most)(hh:Ev L b most i env)
  (hn:∀env' aa d,Ev L b most (i+2) env'->Fr [b,L.m] rows aa->Ka aa L {S with x:=Uf S.x (tz (some (S.x,false)) s q)} b {B with ops:=d,Gc:=(l9 (Uf S.x (tz (some (S.x,false)) s q)) j:Int),at_:=0,ph:=5,left:=((z+63)/64:Nat)} R l->ku (aw C iQ) Q n env' aa):ku (aw C iQ) Q (n+2) env rows:=by
 obtain⟨C2,r2,HW⟩:=H.tk.w1
 obtain⟨ne1,ne2,-,-,nbm,-⟩:=hR.ne
 have hx:=hR.m.xl
 have hok:=next_ok (K:=some (S.x,false)) (s:=s) (q:=q) (x:=S.x) (by omega)
 generalize hK:(some (S.x,false):FV)=K at*
 have h0:=hok 0 _ rfl
 have h1:=hok 1 _ rfl
 rw[<-hK]at hok
 have hb32:(gq (oC K s)).length=32:=oQ _
 have qb:q≠b:=Us hR.b hq (by intro h;cases h)
 have rb:ro≠b:=Us hR.b hro (by intro h;cases h)
 have rm:ro≠L.m:=gU hro hR.m.fl.dat (by intro h;cases h)
 have dX:Uf S.x (tz K s q)=pQ (pQ S.x (jq K) [] fV) (jq K) (gq (oC K s)) fV:=rfl
 rw[dX]at hn
 have t1:Tk C1 L b rows (λaa=>Fr [b,L.m] rows aa/\∃og,Ka aa L {S with x:=pQ S.x (jq K) [] fV} b {B with ops:= .sl E3 ro [] 1 1 og} R l):=by
  refine tick4 H.tk hR.b vM r2 λK' RZ=>?_
  refine Ge C2 HW (o:=⟨1#8,jq K,.raw (.slice none 0 0),[]⟩) j z hj hz hR.m hR.b kf qR ho hro (.inl ⟨rfl,rfl,rfl⟩) .er (by have:=h0.2.1;rw[hx]at this;exact this) h0.2.2 (λ_ aa og hF hM hB=>RZ _ _ ⟨_,rfl,hF,og,hM,hR.e.fr hF ne1 ne2,hB⟩) λh=>by cases h
 refine mu (n:=n+1) H hh (by omega) hm hR.b (by rw[vM];decide) t1 λenv1 rZ GL Sz=>?_
 obtain⟨MK,og,Rb⟩:=Sz
 have Vd:=MK _ _ hq (by simp[qb,hqm])
 have hro1:=MK _ _ hro (by simp[rb,rm])
 have sn:(pQ S.x (jq K) [] fV).length=S.x.length:=uT _ _ _ _
 have hO:Q3 rZ L.m 2#8 (.sl L8 q [] 0 32 false) (gq (oC K s)):=by
  have:=Q3.wr (rows:=rZ) (m:=L.m) q (gq (oC K s)) false Vd (by omega) (by omega) hqm
  rw[hb32]at this
  exact this
 have t2:Tk C1 L b rZ (λaa=>Fr [b,L.m] rZ aa/\∃d,Ka aa L {S with x:=pQ (pQ S.x (jq K) [] fV) (jq K) (gq (oC K s)) fV} b {B with ops:=d,Gc:=(l9 (pQ (pQ S.x (jq K) [] fV) (jq K) (gq (oC K s)) fV) j:Int),at_:=0,ph:=5,left:=((z+63)/64:Nat)} R l):=by
  refine tick4 H.tk Rb.b vM r2 λK' RZ=>?_
  refine Ge C2 HW (o:=⟨2#8,jq K,.sl L8 q [] 0 32 false,gq (oC K s)⟩) j z hj hz Rb.m Rb.b kf qR rfl hro1 (.inr ⟨rfl,rfl,rfl⟩) hO (by have:=h1.2.1;rw[hx]at this;exact this) h1.2.2 (λh=>by cases h) λ_ aa d hF hM hB=>RZ _ _ ⟨_,rfl,hF,d,hM,Rb.e.fr hF ne1 ne2,hB⟩
 exact mu H GL (by omega) hm Rb.b (by rw[show({B with ops:= .sl E3 ro [] 1 1 og}:Bt).ph=B.ph from rfl,vM];decide) t2 λnC nD Yj ⟨GP,d,RT⟩=>hn nC nD d Yj (MK.trans GP) RT
theorem go_copy(H:RnC C C1)(hm:most<=100000)(n z p:Nat)(hz:z<=2048)(hp:p+z<=10240)(hst:S.st=0):∀(m i0:Nat),i0+m+1=(z+63)/64->∀(rows:Rows) (env:Env) (i:Nat) (B:Bt),Ka rows L {S with gZ:=if i0=0 then S.gZ else vN S.gZ S.x p (64*i0)} b B R l->B.ph=5->B.Gc=(p:Int)->B.iR.s=z->B.at_=((64*i0:Nat):Int)->B.left=((m+1:Nat):Int)->i+m<most->Ev L b most i env->
  (∀env' aa,Ev L b most (i+m+1) env'->Fr [b,L.s] rows aa->Ka aa L {S with gZ:=vN S.gZ S.x p z} b {B with at_:=(z:Int),left:=1,ph:=6} R l->ku (aw C iQ) Q n env' aa)->ku (aw C iQ) Q (n+m+1) env rows:=by
 obtain⟨C2,r2,HC⟩:=H.tk.c1
 have step:∀(m i0:Nat) (rows:Rows) (B:Bt),64*i0<z->m<=100->Ka rows L {S with gZ:=if i0=0 then S.gZ else vN S.gZ S.x p (64*i0)} b B R l->B.ph=5->B.Gc=(p:Int)->B.iR.s=z->B.at_=((64*i0:Nat):Int)->B.left=((m+1:Nat):Int)->
   Tk C1 L b rows (λaa=>Fr [b,L.s] rows aa/\Ka aa L {S with gZ:=vN S.gZ S.x p (64*i0+min 64 (z-64*i0))} b {B with at_:=((64*i0+min 64 (z-64*i0):Nat):Int),left:=if m=0 then 1 else(m:Int),ph:=if m=0 then 6 else B.ph} R l):=by
  intro m i0 rows B hi hm100 hR vM La qR Ko hl
  obtain⟨-,-,ne3,ne4,-,-⟩:=hR.ne
  refine tick5 H.tk hR.b vM r2 λK' RZ=>?_
  refine Un C2 HC (S:={S with gZ:=if i0=0 then S.gZ else vN S.gZ S.x p (64*i0)}) z p i0 m hz hp hi hst hR.m hR.b La qR Ko hl hm100 λaa hF hM hB=>RZ _ _ ⟨_,rfl,hF,?_,hR.e.fr hF ne3 ne4,hB⟩
  have hx:=hR.m.xl
  have e:bh (if i0=0 then K9 (if i0=0 then S.gZ else vN S.gZ S.x p (64*i0))else(if i0=0 then S.gZ else vN S.gZ S.x p (64*i0))) (64*i0) (sub S.x (p+64*i0) (min 64 (z-64*i0)))=vN S.gZ S.x p (64*i0+min 64 (z-64*i0)):=by
   rw[<-YP S.gZ S.x p (64*i0) (min 64 (z-64*i0)) (by have:S.x.length=10240:=hx;omega)]
   by_cases c:i0=0
   ·subst c
    rw[aaI rfl,aaI rfl,ramC_0]
   ·rw[aaA c,aaA c]
  rw[<-e]
  exact hM
 intro m
 induction m with
 |zero=>
  intro i0 hi0 rows env i B hR vM La qR Ko hl hi hh hn
  refine mu H hh (by omega) hm hR.b (by rw[vM];decide) (step 0 i0 rows B (by omega) (by omega) hR vM La qR Ko hl) λenv' aa YT ⟨Zz,Kw⟩=>?_
  rw[aaI rfl,aaI rfl,show 64*i0+min 64 (z-64*i0)=z by omega]at Kw
  exact hn env' aa YT Zz Kw
 |succ m ih=>
  intro i0 hi0 rows env i B hR vM La qR Ko hl hi hh hn
  refine mu H hh (by omega) hm hR.b (by rw[vM];decide) (step (m+1) i0 rows B (by omega) (by omega) hR vM La qR Ko hl) λenv' aa YT ⟨Zz,Kw⟩=>?_
  rw[aaA (by omega),aaA (by omega),show 64*i0+min 64 (z-64*i0)=64*(i0+1) by omega]at Kw
  refine ih (i0+1) (by omega) aa env' (i+1) {B with at_:=((64*(i0+1):Nat):Int),left:=((m+1:Nat):Int)} (by rw[aaA (by omega)];exact Kw) vM La qR rfl rfl (by omega) YT λnC nD Yj GP hR2=>?_
  exact hn nC nD (by rw[show i+(m+1)+1=i+1+m+1 by omega];exact Yj) (Zz.trans GP) hR2
theorem go_check(H:RnC C C1)(hm:most<=100000)(n z:Nat)(hz:z<=2048){rows:Rows}{env:Env}{i:Nat}{B:Bt}(hR:Ka rows L S b B R l)(vM:B.ph=6)(hl:B.left=1)(qR:B.iR.s=z)(ww:B.iR.dg.length=32)(hsum:cM (S.gZ.take z)=B.iR.dg)(hi:i<most)(hh:Ev L b most i env)
  (hn:∀env' aa,Ev L b most (i+1) env'->Fr [b] rows aa->Ka aa L S b {B with left:=1,ph:=7} R l->ku (aw C iQ) Q n env' aa):ku (aw C iQ) Q (n+1) env rows:=by
 obtain⟨C2,r2,HC⟩:=H.tk.k1
 have hF:Fr [b] rows (rows.set b (some ⟨l7,[mc {B with left:=0}]⟩)):=(Fr.refl _ _).set (by simp) _
 have pS:cP (rows.set b (some ⟨l7,[mc {B with left:=0}]⟩)) b {B with left:=0}:=aD hR.b
 have Rb:=hR.fr hF pS
 have t:Tk C1 L b rows (λaa=>Fr [b] rows aa/\Ka aa L S b {B with left:=1,ph:=7} R l):=by
  refine tick6 H.tk hR.b vM hl r2 λK' RZ=>?_
  exact Rc C2 HC z hz Rb.m pS qR ww (λh=>absurd hsum h) λ_ aa Zz hB=>RZ _ _ ⟨_,rfl,hF.trans Zz,Rb.fr Zz hB⟩
 exact mu H hh hi hm hR.b (by rw[vM];decide) t λenv' aa YT hz=>hn env' aa YT hz.1 hz.2
theorem go_lock(H:RnC C C1)(hm:most<=100000)(n:Nat){rows:Rows}{env:Env}{i:Nat}{B:Bt}(hR:Ka rows L S b B R l)(Fy:(l.getD 0 (0,[])).1=0)(sO:(l.getD 1 (0,[])).1=0)(vM:B.ph=7)(hl:B.left=1)(hr:bT B.iR=true)(ww:B.iR.dg.length=32)(hi:i<most)(hh:Ev L b most i env)
  (hn:∀env' aa c',Ev L b most (i+1) env'->c'.w=S.c.w->Fr (L.all b) rows aa->gF aa L {S with st:=1,c:=c'}->cP aa b {B with left:=0,ph:=8}->ku (aw C iQ) Q n env' aa):ku (aw C iQ) Q (n+1) env rows:=by
 obtain⟨C2,r2,HC⟩:=H.tk.o1
 have hF:Fr [b] rows (rows.set b (some ⟨l7,[mc {B with left:=0}]⟩)):=(Fr.refl _ _).set (by simp) _
 have pS:cP (rows.set b (some ⟨l7,[mc {B with left:=0}]⟩)) b {B with left:=0}:=aD hR.b
 have Rb:=hR.fr hF pS
 have t:Tk C1 L b rows (λaa=>∃c':rU,c'.w=S.c.w/\Fr (L.all b) rows aa/\gF aa L {S with st:=1,c:=c'}/\cP aa b {B with left:=0,ph:=8}):=by
  refine tick7 H.tk hR.b vM hl r2 λK' RZ=>?_
  exact Ur C2 HC Rb.m pS Rb.e Fy sO hr ww λaa c' hw Zz hM hB=>RZ _ _ ⟨rfl,c',hw,(hF.mono λx hx=>by simp only[abf]at hx;subst hx;exact adH ..).trans Zz,hM,hB⟩
 exact mu H hh hi hm hR.b (by rw[vM];decide) t λenv' aa YT ⟨c',h1,h2,h3,h4⟩=>hn env' aa c' YT h1 h2 h3 h4
end
end jU
end Go.Am
namespace Go.Am
attribute [local congr] dq bW dt bX bY cB bI bZ b5 cC bu cD b6 dj
namespace jU
open Go.Am.F
theorem sub_eq{x y:List (BitVec 8)}{a n:Nat}(hl:x.length=y.length)(h:∀t,a<=t->t<a+n->x.getD t 0#8=y.getD t 0#8):sub x a n=sub y a n:=by
 apply aco
 intro i
 simp only[sub,abt,abk]
 by_cases c:i<n
 ·rw[aaI c,aaI c]
  have:=h (a+i) (by omega) (by omega)
  by_cases c2:a+i<x.length
  ·simp only[aaH,aap c2,aap (hl▸c2:a+i<y.length),acI]at this⊢
   rw[this]
  ·rw[abh (by omega),abh (by omega)]
 ·rw[aaA c,aaA c]
theorem sub_sub{x:List (BitVec 8)}{a n b m:Nat}(h:b+m<=n):sub (sub x a n) b m=sub x (a+b) m:=by
 apply aco
 intro i
 simp only[sub,abt,abk]
 by_cases c:i<m
 ·rw[aaI c,aaI c,aaI (by omega),show a+(b+i)=a+b+i by omega]
 ·rw[aaA c,aaA c]
theorem DM{x bD:List (BitVec 8)}{least:Int}{j:Nat}(hx:x.length=10240)(hj:j<=1)(h:gT x bD least j=0):
  ∃z:Nat,(fD x j).1.s=z/\4<=z/\z<=2048/\bT (fD x j).1=true/\(fD x j).1.dg.length=32/\l9 x j+z<=4096*j+4096/\cM (sub x (l9 x j) z)=(fD x j).1.dg/\least<=(fD x j).1.v/\(fD x j).2.2.1=sub x (l9 x j) z/\nU bD ((sub x (4096*j) 4096).take 48) (fD x j).2.1=0/\(fD x j).2.2.2=0:=by
 unfold gT JU at h
 unfold fD l9
 have hl:(sub x (4096*j) 4096).length=4096:=lS (by omega)
 have Kx:=λn m (h:n+m<=4096)=>(sub_sub (x:=x) (a:=4096*j) (n:=4096) (b:=n) (m:=m) h)
 generalize sub x (4096*j) 4096=q at*
 have ww:=Wk q
 by_cases c1:(cE q).2.2.2=0
 ·rw [aaA (by simp [c1])] at h
  by_cases c2:nU bD (q.take 48) (cE q).2.1=0
  ·rw [aaA (by simp [c2])] at h
   by_cases c3:(cE q).1.v<least
   ·rw[aaI c3]at h;exact absurd h (by decide)
   ·rw[aaA c3]at h
    by_cases c4:cM (cE q).2.2.1=(cE q).1.dg
    ·obtain⟨hr,s,hs,h4,h5,hp,hn⟩:=E1 c1
     have e:sub q (50+dz q) s=sub x (4096*j+50+dz q) s:=by
      rw[ab2];exact Kx _ s (by omega)
     exact⟨s,hs,h4,h5,hr,ww,by omega,by rw[<-e,<-hp];exact c4,by omega,by rw[<-e];exact hp,c2,c1⟩
    ·rw[aaI c4]at h;exact absurd h (by decide)
  ·rw[aaI c2]at h;exact absurd h c2
 ·rw[aaI c1]at h;exact absurd h c1
def uW(S:zq):Cho:=sE (ey S.c) (fU (some (S.x,false))).1 (gT S.x (jK S.c) (js S.c) 0) (gT S.x (jK S.c) (js S.c) 1)
def nxB(S:zq):Bool:=(uW S).c&&wy (some (S.x,false)) (uW S).s
def Hk(S:zq):List (BitVec 8):=bif nxB S then Uf S.x (tz (some (S.x,false)) (uW S).s 0)else S.x
theorem OD(S:zq):(Hk S).length=S.x.length:=by
 unfold Hk
 cases nxB S
 ·rfl
 ·exact DH _ _
theorem Hl(S:zq)(hx:S.x.length=10240)(a n:Nat)(h:a+n<=8192):sub (Hk S) a n=sub S.x a n:=by
 refine sub_eq (OD S) λt h1 h2=>?_
 unfold Hk
 cases nxB S
 ·rfl
 ·exact next_out (by omega) t (.inl (by rcases JX (some (S.x,false))with e|e<;>rw[e]<;>omega))
theorem OE(S:zq)(hx:S.x.length=10240){j:Nat}(hj:j<=1):l9 (Hk S) j=l9 S.x j:=by
 unfold l9
 rw[Hl S hx _ _ (by omega)]
theorem selBad{l:Int}(h:¬(1<=l/\l<=3))(s:JS)(e0 e1:Int):(sE l s e0 e1).i=-1/\(sE l s e0 e1).e=(sE l fu 0 0).e:=by
 unfold sE
 by_cases h1:l=4
 ·rw[aaI h1,aaI h1];exact⟨rfl,rfl⟩
 ·rw[aaA h1,aaA h1,aaI (by omega),aaI (by omega)];exact⟨rfl,rfl⟩
theorem MN{gZ x:List (BitVec 8)}{p z:Nat}(hp:p+z<=x.length):(vN gZ x p z).take z=sub x p z:=by
 have hl:(sub x p z).length=z:=lS hp
 unfold vN bh
 rw[abL,abp]
 exact acO hl
theorem keyC_len(c:rU)(h:c.ws.length=64):(jK c).length=56:=by rw[jK,mr,aau,aar,aaE,h];rfl
def WB:Bt:=⟨0,-1,dP,false,0,1,0,0,.raw (.slice none 0 0),Bs 0 dP (.raw (.slice none 0 0)),Bs 0 dP (.raw (.slice none 0 0)),.raw (.slice none 0 0),0,0⟩
theorem all_s(L:Ly)(b:Nat):∀x∈[b,L.s],x∈L.all b:=by simp[Ly.all]
theorem all_m(L:Ly)(b:Nat):∀x∈[b,L.m],x∈L.all b:=by simp[Ly.all]
theorem all_b(L:Ly)(b:Nat):∀x∈[b],x∈L.all b:=by simp[Ly.all]
section
variable {C C1:bf} {L:Ly} {S:zq} {R:List (List (BitVec 8))} {l:OY} {b most:Nat}
theorem WC{Q:fI->Env->Rows->Prop}(H:RnC C C1)(hm:most<=100000){z p F i:Nat}{rows:Rows}{env:Env}{B:Bt}(hF:40<=F)(hz4:4<=z)(hz:z<=2048)(hp:p+z<=10240)(hst:S.st=0)(hR:Ka rows L S b B R l)(Fy:(l.getD 0 (0,[])).1=0)(sO:(l.getD 1 (0,[])).1=0)
  (vM:B.ph=5)(La:B.Gc=(p:Int))(qR:B.iR.s=z)(Ko:B.at_=0)(hlf:B.left=((z+63)/64:Nat))(ww:B.iR.dg.length=32)(hr:bT B.iR=true)(hsum:cM (sub S.x p z)=B.iR.dg)(hi:i+(z+63)/64+2<=most)(hh:Ev L b most i env)
  (hq:∀env' aa c' B',Ev L b most (i+(z+63)/64+2) env'->c'.w=S.c.w->Fr (L.all b) rows aa->gF aa L {S with st:=1,gZ:=vN S.gZ S.x p z,c:=c'}->cP aa b B'->B'.ph=8->B'.sl=B.sl->B'.iR=B.iR->Q (.exit 0) env' aa):ku (aw C iQ) Q F env rows:=by
 obtain⟨m,pE⟩:∃m,(z+63)/64=m+1:=⟨(z+63)/64-1,by omega⟩
 obtain⟨f,rfl⟩:∃f,F=(f+1+1+1)+m+1:=⟨F-(m+4),by omega⟩
 have hx:=hR.m.xl
 refine go_copy (S:=S) H hm (f+1+1+1) z p hz hp hst m 0 (by omega) rows env i B (by rw[aaI rfl];exact hR) vM La qR Ko (by rw[hlf,pE]) (by omega) hh λenv1 rZ GL MK Rb=>?_
 refine go_check H hm (f+1+1) z hz Rb rfl rfl qR ww (by rw[MN (by omega)];exact hsum) (by omega) GL λnC nD Yj GP hR2=>?_
 refine go_lock H hm (f+1) hR2 Fy sO rfl rfl hr ww (by omega) Yj λenv3 mU c' hh3 hw hF3 hM hB=>?_
 refine J9 hh3 hB (show¬((8:Int)<8) by decide) λenv4 hh4=>?_
 refine hq env4 mU c' _ ?_ hw (((MK.mono (all_s L b)).trans (GP.mono (all_b L b))).trans hF3) hM hB rfl rfl rfl
 rw[pE]
 exact hh4
theorem Rd(H:RnC C C1)(Fo:73<=most)(hm:most<=100000){rows:Rows}(hR:Ka rows L S b WB R l)(hst:S.st=0)(Fy:(l.getD 0 (0,[])).1=0)(sO:(l.getD 1 (0,[])).1=0){K:D->Rows->Prop}
  (h9:(uW S).i=-1->∀aa (n:Nat) B',n<=36->Fr [b] rows aa->cP aa b B'->B'.ph=9->B'.e=(uW S).e->gF aa L S->K (.raw (it (n:Int))) aa)
  (h8:∀(j z:Nat),j<=1->(uW S).i=j->gT S.x (jK S.c) (js S.c) j=0->(fD S.x j).1.s=z->∀aa c' B',c'.w=S.c.w->Fr (L.all b) rows aa->gF aa L {st:=1,gZ:=vN S.gZ (Hk S) (l9 S.x j) z,x:=Hk S,c:=c'}->cP aa b B'->B'.ph=8->B'.sl=j->B'.iR=(fD S.x j).1->
   K (.raw (it ((38+(z+63)/64+(bif nxB S then 2 else 0):Nat):Int))) aa):
  aQ C 3 ie cn [.ptr l7 b [0],.ptr ko L.M [0],.raw (it (most:Int))] rows K:=by
 refine ag rfl ?_
 rw[YU]
 simp only[cn,oV,lG,ie,↓ah,aj,simprocAttr]
 have hQ:∀(env:Env) (aa:Rows) (i:Nat),Ev L b most i env->K (.raw (it (i:Int))) aa->SO 0 (kSeq C (.seq (.region false [⟨some 31,.mv (.tmp 7),none⟩,⟨some 6,.mv (.tmp 31),none⟩]) .ret) (KC [.tmp 6] K)) (.exit 0) env aa:=by
  intro env aa i hh hk
  simp only[Ev,has]at hh
  simp only[↓ah,aj,simprocAttr,hh]
  exact hk
 have Fp:Ev L b most 0 [(7,.raw (it 0)),(6,.raw (it 0)),(0,.ptr l7 b [0]),(1,.ptr ko L.M [0]),(2,.raw (it (most:Int)))]:=by simp only[Ev,has,↓ah,aj,simprocAttr]
 generalize SO 0 _=Q at*
 refine gh 100 ?_
 have hx:=hR.m.xl
 have Nc:=keyC_len S.c hR.m.ch.len
 obtain⟨Cs,rs,HS⟩:=H.tk.s1
 have hF0:Fr [b] rows (rows.set b (some ⟨l7,[mc {WB with left:=0}]⟩)):=(Fr.refl _ _).set (by simp) _
 have pS:cP (rows.set b (some ⟨l7,[mc {WB with left:=0}]⟩)) b {WB with left:=0}:=aD hR.b
 have Rb:=hR.fr hF0 pS
 have t0:Tk C1 L b rows (λaa=>((1<=ey S.c/\ey S.c<=3)->Fr [b] rows aa/\∃p,live aa p=some ⟨L8,bs (jK S.c)⟩/\cP aa b {WB with ph:=1,left:=17,jy:=ey S.c,least:=js S.c,bD:= .sl L8 p [] 0 56 false})/\
   (¬(1<=ey S.c/\ey S.c<=3)->Fr [b] rows aa/\∃d,cP aa b {WB with ph:=9,left:=0,e:=(sE (ey S.c) fu 0 0).e,jy:=ey S.c,least:=js S.c,bD:=d})):=by
  refine tick0 H.tk hR.b rfl rfl rs λK' RZ=>?_
  exact YM Cs HS Rb.m pS (λc aa p hF hp hl hB=>RZ _ _ ⟨_,rfl,λ_=>⟨hF0.trans hF,p,hl,hB⟩,λh=>absurd c h⟩) (λc aa d hF hB=>RZ _ _ ⟨_,rfl,λh=>absurd h c,λ_=>⟨hF0.trans hF,d,hB⟩⟩)
 refine mu (n:=99) H Fp (by omega) hm hR.b (show(0:Int)<8 by decide) t0 λenv1 rZ GL Sz=>?_
 by_cases c:1<=ey S.c/\ey S.c<=3
 ·obtain⟨MK,p,hlp,Ut⟩:=Sz.1 c
  have hR2:=hR.fr MK Ut
  have hP1:MM rZ {WB with ph:=1,left:=17,jy:=ey S.c,least:=js S.c,bD:= .sl L8 p [] 0 56 false} (jK S.c):=⟨p,by rw[Nc],hlp⟩
  refine WA (bD:=jK S.c) H hm (by omega) 0 (by omega) 82 16 (by omega) rZ env1 1 _ hR2 hP1 rfl rfl (by omega) GL λnC nD q2 Yj GP hB2=>?_
  have hR3:=hR2.fr GP hB2
  have hP2:=hP1.fr (B':={({WB with ph:=1,left:=17,jy:=ey S.c,least:=js S.c,bD:= .sl L8 p [] 0 56 false}:Bt).J2 0 (ZA S.x (jK S.c) (js S.c) 0 q2)with ph:=((0:Nat):Int)+2,left:=if 0=0 then 17 else 1}) Ut GP rfl
  refine WA (bD:=jK S.c) H hm (by omega) 1 (by omega) 65 16 (by omega) nD nC 18 _ hR3 hP2 rfl rfl (by omega) Yj λenv3 mU q3 hh3 hF3 hB3=>?_
  have hR4:=hR3.fr hF3 hB3
  have LC:Fr [b] rows mU:=(MK.trans GP).trans hF3
  obtain⟨B3,hB,p1,p2,p3,p4,p5,p6⟩:∃B3:Bt,cP mU b B3/\B3.ph=3/\B3.left=1/\B3.v0=ZA S.x (jK S.c) (js S.c) 0 q2/\B3.v1=ZA S.x (jK S.c) (js S.c) 1 q3/\B3.ops= .raw (.slice none 0 0)/\B3.jy=ey S.c:=⟨_,hB3,rfl,rfl,rfl,rfl,rfl,rfl⟩
  replace hR4:Ka mU L S b B3 R l:=⟨hR4.m,hR4.e,hB⟩
  clear hB3 hR3 hP2 hR2 hP1 Sz t0 hB2 Ut
  obtain⟨Ch,rh,HCh⟩:=H.tk.h1
  have hF4:Fr [b] mU (mU.set b (some ⟨l7,[mc {B3 with left:=0}]⟩)):=(Fr.refl _ _).set (by simp) _
  have hb4:cP (mU.set b (some ⟨l7,[mc {B3 with left:=0}]⟩)) b {B3 with left:=0}:=aD hB
  have hR5:=hR4.fr hF4 hb4
  have Vb:∀j,gT S.x (jK S.c) (js S.c) j=0->Ww S.x (jK S.c) (js S.c) j=(fD S.x j).1:=λj h=>aaI h
  have hzz:∀j,j<=1->gT S.x (jK S.c) (js S.c) j=0->∃z:Nat,(Ww S.x (jK S.c) (js S.c) j).s=z/\z<=2048:=λj hj h=>by
   obtain⟨z,Sz,-,RT,-⟩:=DM hx hj h
   exact⟨z,by rw[Vb j h];exact Sz,RT⟩
  have t3:Tk C1 L b mU (λaa=>((uW S).i=-1/\Fr [b] mU aa/\∃B',cP aa b B'/\B'.ph=9/\B'.e=(uW S).e)\/
    (∃j z:Nat,j<=1/\(uW S).i=j/\gT S.x (jK S.c) (js S.c) j=0/\(fD S.x j).1.s=z/\nxB S=false/\Fr [b] mU aa/\∃B',cP aa b B'/\B'.ph=5/\B'.sl=j/\B'.iR=(fD S.x j).1/\B'.Gc=(l9 S.x j:Int)/\B'.at_=0/\B'.left=((z+63)/64:Nat))\/
    (∃j ro q:Nat,j<=1/\(uW S).i=j/\gT S.x (jK S.c) (js S.c) j=0/\nxB S=true/\Fr [b] mU aa/\mU.length<=q/\live aa ro=some ⟨E3,(tz (some (S.x,false)) (uW S).s q).map JO.D⟩/\live aa q=some ⟨L8,bs (gq (oC (some (S.x,false)) (uW S).s))⟩/\
     ∃B',cP aa b B'/\B'.ph=4/\B'.sl=j/\B'.iR=(fD S.x j).1/\B'.ops= .sl E3 ro [] 0 2 true)):=by
   refine tick3 H.tk hB p1 p2 rh λK' RZ=>?_
   refine Um Ch HCh (c:=uW S) hR5.m hb4 p3 p4 p5 ⟨hzz 0 (by omega),hzz 1 (by omega)⟩ (by rw[show({B3 with left:=0}:Bt).jy=ey S.c from p6];rfl) ?_ ?_ ?_
   ·intro hi aa hF ZC
    exact RZ _ _ ⟨_,rfl,.inl ⟨hi,hF4.trans hF,_,ZC,rfl,rfl⟩⟩
   ·intro j z m o hj hi he hmj qR Kt aa hF ZC
    have he':gT S.x (jK S.c) (js S.c) j=0:=by rcases(by omega:j=0\/j=1)with rfl|rfl<;>exact he
    have hm':m=(fD S.x j).1:=by rw[<-Vb j he',hmj];rcases(by omega:j=0\/j=1)with rfl|rfl<;>rfl
    exact RZ _ _ ⟨_,rfl,.inr (.inl ⟨j,z,hj,hi,he',by rw[<-hm'];exact qR,Kt,hF4.trans hF,_,ZC,rfl,rfl,hm',rfl,rfl,rfl⟩)⟩
   ·intro j m ro q hj hi he hmj Kt aa hF hro hq h1 h2 ZC
    have he':gT S.x (jK S.c) (js S.c) j=0:=by rcases(by omega:j=0\/j=1)with rfl|rfl<;>exact he
    have hm':m=(fD S.x j).1:=by rw[<-Vb j he',hmj];rcases(by omega:j=0\/j=1)with rfl|rfl<;>rfl
    exact RZ _ _ ⟨_,rfl,.inr (.inr ⟨j,ro,q,hj,hi,he',Kt,hF4.trans hF,by rw[aa6]at hq;exact hq,h1,h2,_,ZC,rfl,rfl,hm',rfl⟩)⟩
  refine mu (n:=64) H hh3 (by omega) hm hB (by rw[p1];decide) t3 λenv4 rows4 hh4 hz4=>?_
  rcases hz4 with⟨hi,hF,B',ZC,e1,e2⟩|⟨j,z,hj,hi,he,qR,Kt,hF,B',ZC,e1,e2,e3,e4,e5,e6⟩|⟨j,ro,q,hj,hi,he,Kt,hF,ZB,hro,hq,B',ZC,e1,e2,e3,e4⟩
  ·refine J9 (n:=63) hh4 ZC (by rw[e1];decide) λenv5 hh5=>hQ _ _ _ hh5 ?_
   exact h9 hi rows4 _ _ (by omega) (LC.trans hF) ZC e1 e2 (hR.m.fr hR.b (LC.trans hF))
  ·have hR6:=hR4.fr hF ZC
   obtain⟨z',k1,k2,k3,k4,k5,k6,k7,-⟩:=DM hx hj he
   have hzz':z'=z:=by rw[k1]at qR;omega
   subst hzz'
   have my:Hk S=S.x:=by unfold Hk;rw[Kt];rfl
   refine WC (F:=64) H hm (by decide) k2 k3 (by omega) hst hR6 Fy sO e1 e4 (by rw[e3];exact k1) e5 e6 (by rw[e3];exact k5) (by rw[e3];exact k4) (by rw[e3];exact k7) (by omega) hh4 λenv5 rows5 c' B5 hh5 hw hF5 hM hB5 f1 f2 f3=>hQ _ _ _ hh5 ?_
   have:=h8 j z' hj hi he k1 rows5 c' B5 hw (((LC.trans hF).mono (all_b L b)).trans hF5) (by rw[my];exact hM) hB5 f1 (f2.trans e2) (f3.trans e3)
   rw[Kt]at this
   rw[show 18+16+1+1+(z'+63)/64+2=38+(z'+63)/64+0 by omega]
   exact this
  ·have hR6:=hR4.fr hF ZC
   obtain⟨z,k1,k2,k3,k4,k5,k6,k7,-⟩:=DM hx hj he
   have my:Hk S=Uf S.x (tz (some (S.x,false)) (uW S).s q):=by unfold Hk;rw[Kt];rfl
   have hlen3:=hR4.m.fl.lt
   refine go_write H hm 62 j z ro q (uW S).s hj k3 hR6 e1 e2 (by rw[e3];exact k1) e4 hro hq (by omega) (by omega) hh4 λenv5 rows5 d hh5 hF5 hR7=>?_
   rw[<-my]at hR7
   have BQ:(Hk S).length=10240:=by rw[OD];exact hx
   refine WC (F:=62) (S:={S with x:=Hk S}) (p:=l9 (Hk S) j) H hm (by decide) k2 k3 (by rw[OE S hx hj];omega) hst hR7 Fy sO rfl rfl (by rw[show({B' with ops:=d,Gc:=(l9 (Hk S) j:Int),at_:=0,ph:=5,left:=((z+63)/64:Nat)}:Bt).iR=B'.iR from rfl,e3];exact k1) rfl rfl (by rw[show({B' with ops:=d,Gc:=(l9 (Hk S) j:Int),at_:=0,ph:=5,left:=((z+63)/64:Nat)}:Bt).iR=B'.iR from rfl,e3];exact k5) (by rw[show({B' with ops:=d,Gc:=(l9 (Hk S) j:Int),at_:=0,ph:=5,left:=((z+63)/64:Nat)}:Bt).iR=B'.iR from rfl,e3];exact k4) ?_ (by omega) hh5 λenv6 rows6 c' B6 YS hw hF6 hM hB6 f1 f2 f3=>hQ _ _ _ YS ?_
   ·rw[show({B' with ops:=d,Gc:=(l9 (Hk S) j:Int),at_:=0,ph:=5,left:=((z+63)/64:Nat)}:Bt).iR=B'.iR from rfl,e3,OE S hx hj,<-k7]
    exact abB cM (Hl S hx _ _ (by omega))
   ·have:=h8 j z hj hi he k1 rows6 c' B6 hw ((((LC.trans hF).mono (all_b L b)).trans (hF5.mono (all_m L b))).trans hF6) (by rw[OE S hx hj]at hM;exact hM) hB6 f1 (f2.trans e2) (f3.trans e3)
    rw[Kt]at this
    rw[show 18+16+1+1+2+(z+63)/64+2=38+(z+63)/64+2 by omega]
    exact this
 ·obtain⟨MK,d,Ut⟩:=Sz.2 c
  have hbad:=selBad (l:=ey S.c) (by omega) (fU (some (S.x,false))).1 (gT S.x (jK S.c) (js S.c) 0) (gT S.x (jK S.c) (js S.c) 1)
  refine J9 (n:=98) GL Ut (show¬((9:Int)<8) by decide) λnC Yj=>hQ _ _ _ Yj ?_
  exact h9 hbad.1 rZ 1 _ (by omega) MK Ut rfl hbad.2.symm (hR.m.fr hR.b MK)
end
structure LmC (C:bf):Prop where
 hei:C.fn 36=some yS
 par:C.fn 37=some j8
 lvs:C.fn 38=some tq
 sit:C.fn 40=some JA
 bD:C.fn 39=some Dp
 lea:C.fn 41=some Mr
 nod:C.fn 42=some Mt
def wA(t o:BitVec 32)(id aF:List (BitVec 8))(N:List (List (BitVec 8))):Sg:=⟨t,o,id,aF,N,0#32,[],[],[]⟩
def hH(t:BitVec 32):Nat:=2^hT t.toNat
theorem OF{rows:Rows}{L:vI}{s:Sg}(h:ob rows L s)(h1:s.id.length=16)(h2:s.aF.length=32)(h3:∀x∈s.ns,x.length=32)(h4:4<=s.ns.length)(h5:s.ns.length<=2048)(h6:s.ns.length %2=0):jt (s.v L)=true:=
 dG.2 ⟨h1,h2,h3,h4,h5,h6,Sg.JF h⟩
theorem ic{rows:Rows}{a b:Nat}{s s':Sh}{l l':List D}(h:live rows a=some ⟨s,l⟩)(h':live rows b=some ⟨s',l'⟩)(hs:s≠s'):a≠b:=by
 rintro rfl
 rw[h]at h'
 injection h' with h'
 injection h' with h' _
 exact hs h'
theorem ob.setNs{rows:Rows}{L:vI}{s:Sg}(h:ob rows L s){N:List (List (BitVec 8))}(hN:N.length=s.ns.length):ob (rows.set L.nr (some ⟨.ar 32 L8,N.map aO⟩)) L {s with ns:=N}:=by
 have n1:=ic h.n h.a (by decide)
 have n2:=ic h.n h.m (by decide)
 have n3:=ic h.n h.t (by decide)
 refine⟨?_,aD h.n,?_,?_,?_⟩
 ·rw[az n1,h.a];simp only[EY,hN]
 ·rw[az n2];exact h.m
 ·rw[az n3];exact h.t
 ·rcases h.l with e|⟨r,ex,e,hl⟩
  ·exact .inl e
  ·have n4:=ic h.n hl (by decide)
   exact .inr ⟨r,ex,e,by rw[az n4];exact hl⟩
theorem Re(C:bf)(h:LmC C){rows:Rows}{t o:BitVec 32}{id aF:List (BitVec 8)}(ht:Ks t.toNat=true)(ht2:hT t.toNat<=10)(ho:sr o.toNat=true)(eY:id.length=16)(n9:aF.length=32){K:D->Rows->Prop}
  (hk:∀aa L,ob aa L (wA t o id aF (mI o id aF (hH t)))->bG rows aa->rows.length<=L.r->rows.length<=L.nr->rows.length<=L.ms->rows.length<=L.mt->L.dl= .raw (.slice none 0 0)->K (.cA [.ptr eW L.r [0],.raw (it 0)]) aa):
  aQ C 4 um uk [.raw (u32 t),.raw (u32 o),.agg (.ar 16 L8) (bs id),.agg (.ar 32 L8) (bs aF)] rows K:=by
 refine ag rfl ?_
 unfold uk um
 have hz:D.agg pz [.raw (it 0),.raw (it 0),.raw (it 0)]=ib ⟨0,0,0⟩:=rfl
 have h1:=Hb ht
 have b0:∀n:Nat,((0:Int)<=(n:Int))=True:=λn=>aas (by omega)
 have c1:((10:Int)<((hT t.toNat:Nat):Int))=False:=aax (by omega)
 have sy:=Oc 2 (hT t.toNat) (by decide) (by omega)
 rw[show((2:Nat):Int)=2 from rfl]at sy
 have hHd:2^hT t.toNat=hH t:=rfl
 have hH2:2<=hH t:=by
  have:2^1<=2^hT t.toNat:=abO (by decide) h1
  exact this
 have hH10:hH t<=1024:=by
  have:2^hT t.toNat<=2^10:=abO (by decide) ht2
  exact this
 rw[hHd]at sy
 simp only[hz,dw]
 simp only[↓ah,aj,simprocAttr,aM,h.hei,Ha,h.par,jJ,cL,ht,ho,c1,sy,b0,aa8]
 have z1:wz (((2*hH t:Nat):Int)-1)=((2*hH t-1:Nat):Int):=by rw[aZ (by omega)];omega
 refine⟨by omega,by omega,?_⟩
 rw[z1]
 generalize hHh:hH t=H at*
 obtain⟨L,lr,ln,lm,lt,le,ld⟩:∃L:vI,L.r=rows.length+6/\L.nr=rows.length+3/\L.ms=rows.length+4/\L.mt=rows.length+5/\L.ne=true/\L.dl= .raw (.slice none 0 0):=⟨⟨_,_,_,_,_,_⟩,rfl,rfl,rfl,rfl,rfl,rfl⟩
 have hz32:List.replicate (2*H) (D.agg (.ar 32 L8) (bs qg))=(oT o id aF H 0).map aO:=by simp[oT,aO]
 rw[hz32]
 have Sr:=Dx o id aF H
 have hn32:=TY o id aF H
 refine bg (2*H-1) (λk env rs=>has env [(15,.raw (it ((2*H-1-k:Nat):Int))),(14,.ptr eW L.r [0]),(7,.ptr (.ar 32 L8) (rows.length+1) [0]),(6,.ptr (.ar 16 L8) rows.length [0]),(1,.raw (u32 o))]/\
  ob rs L (wA t o id aF (oT o id aF H k))/\bG rows rs/\live rs rows.length=some ⟨.ar 16 L8,[.agg (.ar 16 L8) (bs id)]⟩/\live rs (rows.length+1)=some ⟨.ar 32 L8,[.agg (.ar 32 L8) (bs aF)]⟩) ?_ ?_ ⟨?_,⟨?_,?_,?_,?_,.inl ⟨rfl,ld⟩⟩,bG.app _ _,?_,?_⟩
 ·rintro k M3 env rs ⟨hw,hS,hK,r0,r1⟩ R hR
  simp only[has]at hw
  have hok:jt ((wA t o id aF (oT o id aF H k)).v L)=true:=OF hS eY n9 (hn32 k) (by show 4<=(oT o id aF H k).length;rw[Sr];omega) (by show(oT o id aF H k).length<=2048;rw[Sr];omega) (by show(oT o id aF H k).length %2=0;rw[Sr];omega)
  have hlv:iO ((wA t o id aF (oT o id aF H k)).v L)=H:=by show(oT o id aF H k).length/2=H;rw[Sr];omega
  have kLv:=λk'=>kLeavesV rs k' _ _ hS.rd hok
  have kSt:=λq k'=>kSiteV rs k' _ _ q hS.rd hok
  rw[hlv]at kLv
  have hSa:=hS.a
  have hSn:=hS.n
  have hsgR:EY L (wA t o id aF (oT o id aF H k))= .agg eW [.raw (u32 t),.raw (u32 o),.agg (.ar 16 L8) (bs id),.agg (.ar 32 L8) (bs aF),.sl (.ar 32 L8) L.nr [] 0 (2*H) true,.raw (u32 0#32),.mp L.ms,.mp L.mt,.raw (.slice none 0 0)]:=by
   show D.agg eW [.raw (u32 t),.raw (u32 o),.agg (.ar 16 L8) (bs id),.agg (.ar 32 L8) (bs aF),.sl (.ar 32 L8) L.nr [] 0 (oT o id aF H k).length L.ne,.raw (u32 0#32),.mp L.ms,.mp L.mt,L.dl]=_
   rw[Sr,le,ld]
  rw[hsgR]at hSa
  have hns:(wA t o id aF (oT o id aF H k)).ns=oT o id aF H k:=rfl
  rw[hns]at hSn
  have hid2:((wA t o id aF (oT o id aF H k)).v L).id=id:=rfl
  rw[hid2]at kSt
  generalize hr:2*H-1-k=r at*
  have Zu:1<=r:=by omega
  have Hi:r<2*H:=by omega
  have Kt:2*H-1-(k+1)=r-1:=by omega
  have hst:oT o id aF H (k+1)=(oT o id aF H k).set r (VY o id aF H (oT o id aF H k) r):=by rw[<-hr];rfl
  have f0:((0:Int)<(r:Int))=True:=aas (by omega)
  have f1:((r:Int)<((2*H:Nat):Int))=True:=aas (by omega)
  have f2:wz ((r:Int)-1)=((r-1:Nat):Int):=by rw[aZ (by omega)];omega
  have f3:wz ((r:Int)-(H:Int))=(r:Int)-(H:Int):=aZ (by omega)
  have f4:BitVec.ofInt 32 (r:Int)=BitVec.ofNat 32 r:=aa4 _ _
  have hgg:∀j,j<2*H->((oT o id aF H k).map aO)[j]?=some (.agg (.ar 32 L8) (bs ((oT o id aF H k).getD j [])))/\((oT o id aF H k).getD j []).length=32:=λj hj=>by
   have hj2:j<(oT o id aF H k).length:=by rw[Sr];exact hj
   have e:(oT o id aF H k).getD j []=(oT o id aF H k)[j]:=by simp[List.getD,hj2]
   rw[e]
   exact⟨by simp[aO,hj2],hn32 k _ (abz hj2)⟩
  have hgr:=(hgg r Hi).1
  have hNl:(oT o id aF H (k+1)).length=(wA t o id aF (oT o id aF H k)).ns.length:=by rw[hns,Sr,Sr]
  by_cases hH:H<=r
  ·have f5:((0:Int)<=(r:Int)-(H:Int))=True:=aas (by omega)
   have f6:BitVec.ofInt 32 ((r:Int)-(H:Int))=BitVec.ofNat 32 (r-H):=by
    rw[show(r:Int)-(H:Int)=((r-H:Nat):Int) by omega];exact aa4 _ _
   have kPb:=λaa k'=>VB aa k' o ⟨id,BitVec.ofNat 32 (r-H)⟩ aF eY n9 ho
   have tV:(zo o.toNat ⟨id,BitVec.ofNat 32 (r-H)⟩ aF).length=32:=cm _
   have kLf:=λaa k'=>VP aa k' id (BitVec.ofNat 32 r) (zo o.toNat ⟨id,BitVec.ofNat 32 (r-H)⟩ aF) eY tV
   have hlf:VY o id aF H (oT o id aF H k) r=dZ id (BitVec.ofNat 32 r) (zo o.toNat ⟨id,BitVec.ofNat 32 (r-H)⟩ aF):=by rw[VY,aaI hH];rfl
   rw[hlf]at hst
   have hSaA:=λL'=>ae hSa L'
   have hSnA:=λL'=>ae hSn L'
   have r0A:=λL'=>ae r0 L'
   simp only[↓ah,aj,simprocAttr,aM,hw,f0,f1,f2,f3,f4,f5,f6,b0,h.lvs,kLv,h.sit,kSt,h.bD,r1,kPb,hSaA,hSnA,r0A,h.lea,kLf]
   have tE:((oT o id aF H k).map aO).set r (.agg (.ar 32 L8) (bs (dZ id (BitVec.ofNat 32 r) (zo o.toNat ⟨id,BitVec.ofNat 32 (r-H)⟩ aF))))=(oT o id aF H (k+1)).map aO:=by rw[hst,acr];rfl
   simp only[hgr,tE,↓ah,aj,simprocAttr]
   exact hR _ _ ⟨by simp only[has,↓ah,aj,simprocAttr,hw,Kt],(hS.push _).setNs (N:=oT o id aF H (k+1)) hNl,(hK.trans (bG.app _ _)).set (by omega) _,by rw[az (by omega)];exact a7 r0,by rw[az (by omega)];exact a7 r1⟩
  ·have f5:((0:Int)<=(r:Int)-(H:Int))=False:=aax (by omega)
   have a1:wz (2*(r:Int))=((2*r:Nat):Int):=by rw[aZ (by omega)];omega
   have a2:wz (((2*r:Nat):Int)+1)=((2*r+1:Nat):Int):=by rw[aZ (by omega)];omega
   have a3:(((2*r:Nat):Int)<((2*H:Nat):Int))=True:=aas (by omega)
   have a4:(((2*r+1:Nat):Int)<((2*H:Nat):Int))=True:=aas (by omega)
   have g1:=hgg (2*r) (by omega)
   have g2:=hgg (2*r+1) (by omega)
   have kNd:=λaa k'=>Jw aa k' id (BitVec.ofNat 32 r) _ _ eY g1.2 g2.2
   have hlf:VY o id aF H (oT o id aF H k) r=uO id (BitVec.ofNat 32 r) ((oT o id aF H k).getD (2*r) []) ((oT o id aF H k).getD (2*r+1) []):=by rw[VY,aaA hH]
   rw[hlf]at hst
   simp only[↓ah,aj,simprocAttr,aM,hw,f0,f1,f2,f3,f4,f5,a1,a2,a3,a4,b0,h.lvs,kLv,hSa,hSn,r0,g1.1,g2.1,h.nod,kNd]
   have tE:((oT o id aF H k).map aO).set r (.agg (.ar 32 L8) (bs (uO id (BitVec.ofNat 32 r) ((oT o id aF H k).getD (2*r) []) ((oT o id aF H k).getD (2*r+1) []))))=(oT o id aF H (k+1)).map aO:=by rw[hst,acr];rfl
   simp only[hgr,tE,↓ah,aj,simprocAttr]
   exact hR _ _ ⟨by simp only[has,↓ah,aj,simprocAttr,hw,Kt],hS.setNs (N:=oT o id aF H (k+1)) hNl,hK.set (by omega) _,by rw[az (by omega)];exact r0,by rw[az (by omega)];exact r1⟩
 ·rintro env rs ⟨hw,hS,hK,r0,r1⟩ R
  simp only[has]at hw
  have f0:((0:Int)<((2*H-1-(2*H-1):Nat):Int))=False:=aax (by omega)
  simp only[↓ah,aj,simprocAttr,aM,hw,f0]
  exact hk rs L hS hK (by omega) (by omega) (by omega) (by omega) ld
 ·rw[lr,acB]
  simp only[has,↓ah,aj,simprocAttr]
 ·rw[lr,aK]
  have e:EY L (wA t o id aF (oT o id aF H 0))= .agg eW [.raw (u32 t),.raw (u32 o),.agg (.ar 16 L8) (bs id),.agg (.ar 32 L8) (bs aF),.sl (.ar 32 L8) (rows.length+3) [] 0 (2*H) true,.raw (u32 0#32),.mp (rows.length+4),.mp (rows.length+5),.raw (.slice none 0 0)]:=by
   show D.agg eW [.raw (u32 t),.raw (u32 o),.agg (.ar 16 L8) (bs id),.agg (.ar 32 L8) (bs aF),.sl (.ar 32 L8) L.nr [] 0 (oT o id aF H 0).length L.ne,.raw (u32 0#32),.mp L.ms,.mp L.mt,L.dl]=_
   rw[Sr,le,ld,ln,lm,lt]
  rw[e];rfl
 ·rw[ln,aK];rfl
 ·rw[lm,aK];rfl
 ·rw[lt,aK];rfl
 ·rw[bw];rfl
 ·rw[aK];rfl
structure LmS (C:bf):Prop where
 lef:C.fn 109=some VV
 sit:C.fn 40=some JA
 mas:C.fn 111=some Jm
 dig:C.fn 110=some vG
 frc:C.fn 54=some Bo
def mw(rows:Rows)(d:D)(m:List (BitVec 8)):Prop:=(∃e,d= .cI L8 (bs m) e)\/∃r e,d= .sl L8 r [] 0 m.length e/\live rows r=some ⟨L8,bs m⟩
theorem mw.bs{rows:Rows}{d:D}{m:List (BitVec 8)}(h:mw rows d m):aU rows d m:=by
 rcases h with⟨e,rfl⟩|⟨r,e,rfl,h⟩
 ·exact ez.to (.inr ⟨e,rfl⟩)
 ·exact aU.own h _ rfl
theorem mw.el{rows:Rows}{d:D}{m:List (BitVec 8)}(h:mw rows d m):fa L8 d=true/\elems rows d=some (Am.bs m)/\dQ d=some m.length:=by
 rcases h with⟨e,rfl⟩|⟨r,e,rfl,h⟩
 ·exact⟨by simp[fa],rfl,by simp[dQ,aB]⟩
 ·refine⟨by simp[fa],?_,rfl⟩
  simp only[elems,h]
  rw[abi,aaq (by rw[aB];exact aaz _)]
theorem mw.keep{rows aa:Rows}{d:D}{m:List (BitVec 8)}(h:mw rows d m)(hk:∀q l,live rows q=some ⟨L8,l⟩->live aa q=some ⟨L8,l⟩):mw aa d m:=by
 rcases h with⟨e,rfl⟩|⟨r,e,rfl,h⟩
 ·exact .inl ⟨e,rfl⟩
 ·exact .inr ⟨r,e,rfl,hk _ _ h⟩
def yn(q:BitVec 32)(ds:List Nat)(tm:List D):Nat->List D
 |0=>tm
 |k+1=> .agg (qK F9 LI) [uQ q (k:Int),.raw (it ((ds.getD k 0:Nat):Int))]::yn q ds tm k
def sgnE(m:List (BitVec 8)):D:= .agg (qK LS LB) [.raw (.string (jx m)),.raw (.bool true)]
def Sg.next(s:Sg)(c m:List (BitVec 8)):Sg:={s with
 nx:=s.nx+1#32
 sm:=sgnE m::s.sm
 tm:=yn s.nx (zp s.o.toNat ⟨s.id,s.nx⟩ c m) s.tm (pT s.o.toNat)
 last:=s.last++[(m,c)]}
def vI.next(L:vI)(d:D):vI:={L with dl:=d}
def GQ(rows:Rows)(L:vI)(s:Sg)(q:Nat):Prop:=q≠L.r/\q≠L.nr/\q≠L.ms/\q≠L.mt/\∀ex n,L.dl≠ .sl kg q [] 0 n ex
theorem ob.ne_r{rows:Rows}{L:vI}{s:Sg}(h:ob rows L s):L.r≠L.nr/\L.r≠L.ms/\L.r≠L.mt/\L.nr≠L.ms/\L.nr≠L.mt/\L.ms≠L.mt:=
 ⟨ic h.a h.n (by decide),ic h.a h.m (by decide),ic h.a h.t (by decide),ic h.n h.m (by decide),ic h.n h.t (by decide),ic h.m h.t (by decide)⟩
theorem iT.setL{s:Sh}{d:D}{rows:Rows}{els:List D}{q:Nat}{s':Sh}{l:List D}(h:iT s d rows els)(hq:live rows q=some ⟨s',l⟩)(hs:s'≠s)(x:Option Row):iT s d (rows.set q x) els:=by
 rcases h with e|⟨r,ex,e,hl⟩
 ·exact .inl e
 ·exact .inr ⟨r,ex,e,by rw[az (ic hq hl hs)];exact hl⟩
theorem ob.setNx{rows:Rows}{L:vI}{s:Sg}(h:ob rows L s)(x:BitVec 32):ob (rows.set L.r (some ⟨eW,[EY L {s with nx:=x}]⟩)) L {s with nx:=x}:=by
 obtain⟨n1,n2,n3,n4,n5,n6⟩:=h.ne_r
 exact⟨aD h.a,by rw[az n1];exact h.n,by rw[az n2];exact h.m,by rw[az n3];exact h.t,iT.setL h.l h.a (by decide) _⟩
theorem ob.setM{rows:Rows}{L:vI}{s:Sg}(h:ob rows L s)(x:List D):ob (rows.set L.ms (some ⟨Bn,x⟩)) L {s with sm:=x}:=by
 obtain⟨n1,n2,n3,n4,n5,n6⟩:=h.ne_r
 exact⟨by rw[az n2.symm];exact h.a,by rw[az n4.symm];exact h.n,aD h.m,by rw[az n6];exact h.t,iT.setL h.l h.m (by decide) _⟩
theorem ob.setT{rows:Rows}{L:vI}{s:Sg}(h:ob rows L s)(x:List D):ob (rows.set L.mt (some ⟨Dt,x⟩)) L {s with tm:=x}:=by
 obtain⟨n1,n2,n3,n4,n5,n6⟩:=h.ne_r
 exact⟨by rw[az n3.symm];exact h.a,by rw[az n5.symm];exact h.n,by rw[az n6.symm];exact h.m,aD h.t,iT.setL h.l h.t (by decide) _⟩
theorem mw.DE{rows:Rows}{d:D}{m:List (BitVec 8)}(h:mw rows d m){q:Nat}{s':Sh}{l:List D}(hq:live rows q=some ⟨s',l⟩)(hs:s'≠L8)(x:Option Row):mw (rows.set q x) d m:=
 h.keep λp l' hp=>by rw[az (ic hq hp hs)];exact hp
theorem mw.push{rows:Rows}{d:D}{m:List (BitVec 8)}(h:mw rows d m)(more:Rows):mw (rows++more) d m:=h.keep λ_ _ hp=>a7 hp
theorem ob.app{rows aa:Rows}{L:vI}{s:Sg}(h:ob rows L s){d':D}{x:List (BitVec 8)×List (BitVec 8)}(hO:iT kg d' aa (s.last.map wM++[wM x]))
  (qo:∀r y,live rows r=some y->(∀ex n,L.dl≠ .sl kg r [] 0 n ex)->live aa r=some y):
  live aa L.r=some ⟨eW,[EY L s]⟩/\ob (aa.set L.r (some ⟨eW,[EY (L.next d') {s with last:=s.last++[x]}]⟩)) (L.next d') {s with last:=s.last++[x]}:=by
 obtain⟨n1,n2,n3,n4,n5,n6⟩:=h.ne_r
 have ga:=qo _ _ h.a (jI h.l h.a (by decide))
 have gn:=qo _ _ h.n (jI h.l h.n (by decide))
 have gm:=qo _ _ h.m (jI h.l h.m (by decide))
 have gt:=qo _ _ h.t (jI h.l h.t (by decide))
 refine⟨ga,aD ga,by rw[show(L.next d').nr=L.nr from rfl,az n1];exact gn,by rw[show(L.next d').ms=L.ms from rfl,az n2];exact gm,by rw[show(L.next d').mt=L.mt from rfl,az n3];exact gt,?_⟩
 rw[acE]
 exact iT.setL hO ga (by decide) _
theorem sign_run(C:bf)(h:LmS C){rows:Rows}{L:vI}{s:Sg}{d:D}{c m:List (BitVec 8)}(hS:ob rows L s)(hp:jt (s.v L)=true)(ho:sr s.o.toNat=true)(hc:c.length=32)(hm:mw rows d m)(H9:m.length<=1099511627776)
  (Kt:s.nx.toNat<iO (s.v L))(hla:s.last.length<=1000000){K:D->Rows->Prop}
  (hk:∀aa dl' r',ob aa (L.next dl') (s.next c m)->live aa r'=some ⟨L8,bs (iP (s.v L) s.nx c m)⟩->rows.length<=r'->(∀q row,live rows q=some row->GQ rows L s q->live aa q=some row)->(∀q ex n,dl'= .sl kg q [] 0 n ex->rows.length<=q)->rows.length<=aa.length->
   K (.cA [.sl L8 r' [] 0 (44+32*pT s.o.toNat+32*gD (s.v L) s.nx.toNat) false,.raw (it 0)]) aa):
  aQ C 3 iw iv [.ptr eW L.r [0],.agg (.ar 32 L8) (bs c),d] rows K:=by
 refine ag rfl ?_
 unfold iv iw
 have hS1:=hS.push [some ⟨.ar 32 L8,[.agg (.ar 32 L8) (bs c)]⟩]
 have kLe:=λk'=>kLeftV _ k' _ _ hS1.rd hp
 have hlv:iO (s.v L)<=1024:=by
  have:=(dG.1 hp).2.2.2.2.1
  unfold iO;omega
 have c0:((iO (s.v L):Int)-((s.v L).nx.toNat:Int)=0)=False:=aax (by show¬((iO (s.v L):Int)-(s.nx.toNat:Int)=0);omega)
 have hSa:=hS1.a
 simp only[EY]at hSa
 have hcr:live (rows++[some (⟨.ar 32 L8,[.agg (.ar 32 L8) (bs c)]⟩:Row)]) rows.length=some ⟨.ar 32 L8,[.agg (.ar 32 L8) (bs c)]⟩:=by rw[bw];rfl
 have pE:=hm.push [some ⟨.ar 32 L8,[.agg (.ar 32 L8) (bs c)]⟩]
 have MK:∀q row,live rows q=some row->GQ rows L s q->live (rows++[some (⟨.ar 32 L8,[.agg (.ar 32 L8) (bs c)]⟩:Row)]) q=some row:=λq row hq _=>a7 hq
 have hN1:rows.length<(rows++[some (⟨.ar 32 L8,[.agg (.ar 32 L8) (bs c)]⟩:Row)]).length:=by simp
 simp only[↓ah,aj,simprocAttr]
 generalize rows++[some (⟨.ar 32 L8,[.agg (.ar 32 L8) (bs c)]⟩:Row)]=R1 at*
 have hS2:=hS1.setNx (s.nx+1#32)
 have hne:=hS1.ne_r
 have hcr2:live (R1.set L.r (some ⟨eW,[EY L {s with nx:=s.nx+1#32}]⟩)) rows.length=some ⟨.ar 32 L8,[.agg (.ar 32 L8) (bs c)]⟩:=by rw[az (ic hS1.a hcr (by decide))];exact hcr
 have KA:=pE.DE hS1.a (by decide) (some ⟨eW,[EY L {s with nx:=s.nx+1#32}]⟩)
 have GP:∀q row,live rows q=some row->GQ rows L s q->live (R1.set L.r (some ⟨eW,[EY L {s with nx:=s.nx+1#32}]⟩)) q=some row:=λq row hq he=>by rw[az (abT he.1)];exact MK q row hq he
 have hN2:rows.length<(R1.set L.r (some ⟨eW,[EY L {s with nx:=s.nx+1#32}]⟩)).length:=by simpa using hN1
 have hSa2:=hS2.a
 have hln2:(R1.set L.r (some (⟨eW,[EY L {s with nx:=s.nx+1#32}]⟩:Row))).length=R1.length:=aa6
 simp only[EY]at hSa2 hS2 hcr2 KA GP hN2 hln2
 simp only[↓ah,aj,simprocAttr,aM,h.lef,kLe,c0,hSa]
 generalize R1.set L.r (some (⟨eW,[.agg eW [.raw (u32 s.t),.raw (u32 s.o),.agg (.ar 16 L8) (bs s.id),.agg (.ar 32 L8) (bs s.aF),.sl (.ar 32 L8) L.nr [] 0 s.ns.length L.ne,.raw (u32 (s.nx+1#32)),.mp L.ms,.mp L.mt,L.dl]]⟩:Row))=R2 at*
 obtain⟨e1,e2,e3⟩:=KA.el
 have hby:=GZ m
 have hmv:(⟨(ub m).toArray⟩:ByteArray)=jx m:=rfl
 have hM2:=hS2.m
 have WD:=hS2.setM (.agg (qK LS LB) [.raw (.string (jx m)),.raw (.bool true)]::s.sm)
 have hcr3:live (R2.set L.ms (some ⟨Bn,.agg (qK LS LB) [.raw (.string (jx m)),.raw (.bool true)]::s.sm⟩)) rows.length=some ⟨.ar 32 L8,[.agg (.ar 32 L8) (bs c)]⟩:=by rw[az (ic hM2 hcr2 (by decide))];exact hcr2
 have hm3:=KA.DE hM2 (by decide) (some ⟨Bn,.agg (qK LS LB) [.raw (.string (jx m)),.raw (.bool true)]::s.sm⟩)
 have hF3:∀q row,live rows q=some row->GQ rows L s q->live (R2.set L.ms (some ⟨Bn,.agg (qK LS LB) [.raw (.string (jx m)),.raw (.bool true)]::s.sm⟩)) q=some row:=λq row hq he=>by rw[az (abT he.2.2.1)];exact GP q row hq he
 have hN3:rows.length<(R2.set L.ms (some ⟨Bn,.agg (qK LS LB) [.raw (.string (jx m)),.raw (.bool true)]::s.sm⟩)).length:=by simpa using hN2
 have hln3:(R2.set L.ms (some (⟨Bn,.agg (qK LS LB) [.raw (.string (jx m)),.raw (.bool true)]::s.sm⟩:Row))).length=R1.length:=by rw[aa6,hln2]
 simp only[↓ah,aj,simprocAttr,aM,hSa2,e1,e2,e3,aB,hby,hmv,hM2]
 generalize R2.set L.ms (some (⟨Bn,.agg (qK LS LB) [.raw (.string (jx m)),.raw (.bool true)]::s.sm⟩:Row))=R3 at*
 have hSa3:=WD.a
 simp only[EY]at hSa3
 obtain⟨f1,f2,f3⟩:=hm3.el
 have hSa3A:=λL'=>ae hSa3 L'
 have hcr3A:=λL'=>ae hcr3 L'
 have f2A:∀L',elems (R3++L') d=some (bs m):=λL'=>(hm3.push L').el.2.1
 simp only[↓ah,aj,simprocAttr,aM,hSa3,f1,f2,f2A,f3,aB,hby,hmv,hcr3,hSa3A,hcr3A]
 have jr:live (R3++[some (⟨kg,[.agg kg [.raw (.string (jx m)),.agg (.ar 32 L8) (bs c)]]⟩:Row)]) R1.length=some ⟨kg,[.agg kg [.raw (.string (jx m)),.agg (.ar 32 L8) (bs c)]]⟩:=by
  rw[<-hln3,bw];rfl
 have hlet:D.agg kg [.raw (.string (jx m)),.agg (.ar 32 L8) (bs c)]=wM (m,c):=rfl
 have hO3:=iT.push (more:=[some (⟨kg,[.agg kg [.raw (.string (jx m)),.agg (.ar 32 L8) (bs c)]]⟩:Row)]) WD.l
 have hS3p:=WD.push [some (⟨kg,[.agg kg [.raw (.string (jx m)),.agg (.ar 32 L8) (bs c)]]⟩:Row)]
 have hcr3p:=hcr3A [some (⟨kg,[.agg kg [.raw (.string (jx m)),.agg (.ar 32 L8) (bs c)]]⟩:Row)]
 have hm3p:=hm3.push [some (⟨kg,[.agg kg [.raw (.string (jx m)),.agg (.ar 32 L8) (bs c)]]⟩:Row)]
 have hF3p:∀q row,live rows q=some row->GQ rows L s q->live (R3++[some (⟨kg,[.agg kg [.raw (.string (jx m)),.agg (.ar 32 L8) (bs c)]]⟩:Row)]) q=some row:=λq row hq he=>a7 (hF3 q row hq he)
 have hN3p:rows.length<(R3++[some (⟨kg,[.agg kg [.raw (.string (jx m)),.agg (.ar 32 L8) (bs c)]]⟩:Row)]).length:=by rw[aao];omega
 simp only[↓ah,aj,simprocAttr,jr,List.take]
 generalize R3++[some (⟨kg,[.agg kg [.raw (.string (jx m)),.agg (.ar 32 L8) (bs c)]]⟩:Row)]=R4 at*
 rw[hlet]
 refine uH hO3 (by rw[aaE];simp[most];omega) (by rw[aaE];simp[most];omega) λR5 hl5 qo hlen5=>?_
 obtain⟨d',j9⟩:∃d',d'=D.sl kg R4.length [] 0 ((s.last.map wM).length+[wM (m,c)].length) false:=⟨_,rfl⟩
 rw[<-j9]
 have hO5:iT kg d' R5 (s.last.map wM++[wM (m,c)]):= .inr ⟨R4.length,false,by rw[j9,aao],hl5⟩
 obtain⟨hSa5,hS6⟩:=hS3p.app hO5 qo
 have hcr5:=qo _ _ hcr3p (jI hO3 hcr3p (by decide))
 have hm5:mw R5 d m:=hm3p.keep λq l hq=>qo _ _ hq (jI hO3 hq (by decide))
 have hF5:∀q row,live rows q=some row->GQ rows L s q->live R5 q=some row:=λq row hq he=>qo _ _ (hF3p q row hq he) he.2.2.2.2
 have hcr6:live (R5.set L.r (some ⟨eW,[EY (L.next d') {s with nx:=s.nx+1#32,sm:= .agg (qK LS LB) [.raw (.string (jx m)),.raw (.bool true)]::s.sm,last:=s.last++[(m,c)]}]⟩)) rows.length=some ⟨.ar 32 L8,[.agg (.ar 32 L8) (bs c)]⟩:=by rw[az (ic hSa5 hcr5 (by decide))];exact hcr5
 have hm6:=hm5.DE hSa5 (by decide) (some ⟨eW,[EY (L.next d') {s with nx:=s.nx+1#32,sm:= .agg (qK LS LB) [.raw (.string (jx m)),.raw (.bool true)]::s.sm,last:=s.last++[(m,c)]}]⟩)
 have hF6:∀q row,live rows q=some row->GQ rows L s q->live (R5.set L.r (some ⟨eW,[EY (L.next d') {s with nx:=s.nx+1#32,sm:= .agg (qK LS LB) [.raw (.string (jx m)),.raw (.bool true)]::s.sm,last:=s.last++[(m,c)]}]⟩)) q=some row:=λq row hq he=>by rw[az (abT he.1)];exact hF5 q row hq he
 have hN6:rows.length<(R5.set L.r (some (⟨eW,[EY (L.next d') {s with nx:=s.nx+1#32,sm:= .agg (qK LS LB) [.raw (.string (jx m)),.raw (.bool true)]::s.sm,last:=s.last++[(m,c)]}]⟩:Row))).length:=by rw[aa6,hlen5];omega
 have hdf:D.fits d' .ref=true:=by rw[j9];rfl
 have hdr:∀q ex n,d'= .sl kg q [] 0 n ex->rows.length<=q:=λq ex n e=>by rw[j9]at e;injection e with _ e;omega
 simp only[EY]at hSa5
 have hR6:R5.set L.r (some (⟨eW,[EY (L.next d') {s with nx:=s.nx+1#32,sm:= .agg (qK LS LB) [.raw (.string (jx m)),.raw (.bool true)]::s.sm,last:=s.last++[(m,c)]}]⟩:Row))=R5.set L.r (some ⟨eW,[.agg eW [.raw (u32 s.t),.raw (u32 s.o),.agg (.ar 16 L8) (bs s.id),.agg (.ar 32 L8) (bs s.aF),.sl (.ar 32 L8) L.nr [] 0 s.ns.length L.ne,.raw (u32 (s.nx+1#32)),.mp L.ms,.mp L.mt,d']]⟩):=rfl
 rw[hR6]at hcr6 hm6 hN6 hS6
 have hF6:∀q row,live rows q=some row->GQ rows L s q->live (R5.set L.r (some ⟨eW,[.agg eW [.raw (u32 s.t),.raw (u32 s.o),.agg (.ar 16 L8) (bs s.id),.agg (.ar 32 L8) (bs s.aF),.sl (.ar 32 L8) L.nr [] 0 s.ns.length L.ne,.raw (u32 (s.nx+1#32)),.mp L.ms,.mp L.mt,d']]⟩)) q=some row:=hF6
 clear hR6
 obtain⟨e1',e2',e3'⟩:=hm5.el
 simp only[↓ah,aj,simprocAttr,aM,hSa5,hcr5,e1',e2',e3',aB,hby,hmv,hdf]
 generalize R5.set L.r (some (⟨eW,[.agg eW [.raw (u32 s.t),.raw (u32 s.o),.agg (.ar 16 L8) (bs s.id),.agg (.ar 32 L8) (bs s.aF),.sl (.ar 32 L8) L.nr [] 0 s.ns.length L.ne,.raw (u32 (s.nx+1#32)),.mp L.ms,.mp L.mt,d']]⟩:Row))=R6 at*
 have hSa6:=hS6.a
 simp only[EY,vI.next]at hSa6
 obtain⟨eY,n9,qE,TT,hn,yL,Lz⟩:=dG.1 hp
 have hp6:jt (Sg.v {s with nx:=s.nx+1#32,sm:= .agg (qK LS LB) [.raw (.string (jx m)),.raw (.bool true)]::s.sm,last:=s.last++[(m,c)]} (L.next d'))=true:=OF hS6 eY n9 qE TT hn yL
 have kSt:=λk'=>kSiteV R6 k' _ _ s.nx hS6.rd hp6
 have hrL:(L.next d').r=L.r:=rfl
 have hidE:(Sg.v {s with nx:=s.nx+1#32,sm:= .agg (qK LS LB) [.raw (.string (jx m)),.raw (.bool true)]::s.sm,last:=s.last++[(m,c)]} (L.next d')).id=s.id:=rfl
 rw[hrL,hidE]at kSt
 have kMa:=λk'=>Vz R6 k' ⟨s.id,s.nx⟩ c m d hm6.bs eY hc
 have hml':(dY s.id s.nx c m).length=32:=cm _
 have kDi:=λk'=>G6 R6 k' s.o (dY s.id s.nx c m) hml' ho
 have ww:bV s.o.toNat (dY s.id s.nx c m)=zp s.o.toNat ⟨s.id,s.nx⟩ c m:=rfl
 rw[ww]at kDi
 have hpt:pT s.o.toNat<=265:=(gI ho).2.2.1
 simp only[↓ah,aj,simprocAttr,aM,hSa6,h.sit,kSt,hcr6,h.mas,kMa,h.dig,kDi]
 have pU:(zp s.o.toNat ⟨s.id,s.nx⟩ c m).length=pT s.o.toNat:=N8 _ _ _ _
 have hSd:live (R6++[some (⟨LI,(zp s.o.toNat ⟨s.id,s.nx⟩ c m).map sC⟩:Row)]) R6.length=some ⟨LI,(zp s.o.toNat ⟨s.id,s.nx⟩ c m).map sC⟩:=by rw[bw];rfl
 have hSx:Sg.next s c m={s with nx:=s.nx+1#32,sm:= .agg (qK LS LB) [.raw (.string (jx m)),.raw (.bool true)]::s.sm,tm:=yn s.nx (zp s.o.toNat ⟨s.id,s.nx⟩ c m) s.tm (pT s.o.toNat),last:=s.last++[(m,c)]}:=rfl
 rw[hSx]at hk
 have hsF:∀tm,iP (Sg.v {s with nx:=s.nx+1#32,sm:= .agg (qK LS LB) [.raw (.string (jx m)),.raw (.bool true)]::s.sm,tm:=tm,last:=s.last++[(m,c)]} (L.next d')) s.nx c m=iP (s.v L) s.nx c m:=λ_=>rfl
 have hpN:∀tm,gD (Sg.v {s with nx:=s.nx+1#32,sm:= .agg (qK LS LB) [.raw (.string (jx m)),.raw (.bool true)]::s.sm,tm:=tm,last:=s.last++[(m,c)]} (L.next d')) s.nx.toNat=gD (s.v L) s.nx.toNat:=λ_=>rfl
 generalize zp s.o.toNat ⟨s.id,s.nx⟩ c m=ds at*
 generalize hPP:pT s.o.toNat=P at*
 refine bg P (λi env rs=>has env [(60,.raw (it (i:Int))),(59,.raw (it (P:Int))),(58,.sl LI R6.length [] 0 P false),(0,.ptr eW L.r [0]),(8,.raw (u32 s.nx)),(4,.ptr (.ar 32 L8) rows.length [0]),(2,d)]/\
  ob rs (L.next d') {s with nx:=s.nx+1#32,sm:= .agg (qK LS LB) [.raw (.string (jx m)),.raw (.bool true)]::s.sm,tm:=yn s.nx ds s.tm i,last:=s.last++[(m,c)]}/\
  live rs R6.length=some ⟨LI,ds.map sC⟩/\live rs rows.length=some ⟨.ar 32 L8,[.agg (.ar 32 L8) (bs c)]⟩/\mw rs d m/\(∀q row,live rows q=some row->GQ rows L s q->live rs q=some row)/\rows.length<rs.length) ?_ ?_
  ⟨?_,hS6.push _,hSd,a7 hcr6,hm6.push _,λq row hq he=>a7 (hF6 q row hq he),by rw[aao];omega⟩
 ·rintro i hi env rs ⟨hw,hSi,hdi,hci,hmi,hFi,hNi⟩ R hR
  simp only[has]at hw
  have g0:((i:Int)<(P:Int))=True:=aas (by omega)
  have b0:∀n:Nat,((0:Int)<=(n:Int))=True:=λn=>aas (by omega)
  have g1:=ca i (by omega)
  have g2:(ds.map sC)[i]?=some (.raw (it ((ds.getD i 0:Nat):Int))):=by
   have:i<ds.length:=by omega
   simp[List.getD,this,sC]
  have hSai:=hSi.a
  have hSti:=hSi.t
  simp only[EY,vI.next]at hSai
  have hsp:D.agg S16 [.raw (u32 s.nx),.raw (it (i:Int))]=uQ s.nx (i:Int):=rfl
  have spf:(uQ s.nx (i:Int)).fits F9=true:=rfl
  have hT:=hSi.setT (yn s.nx ds s.tm (i+1))
  have htk:yn s.nx ds s.tm (i+1)= .agg (qK F9 LI) [uQ s.nx (i:Int),.raw (it ((ds.getD i 0:Nat):Int))]::yn s.nx ds s.tm i:=rfl
  have hmt:(L.next d').mt=L.mt:=rfl
  rw[hmt]at hSti
  simp only[↓ah,aj,simprocAttr,aM,hw,g0,g1,g2,b0,hdi,hSai,hsp,spf,hSti]
  rw[hmt,htk]at hT
  refine hR _ _ ⟨by simp only[has,↓ah,aj,simprocAttr,hw],?_,?_,?_,?_,?_,?_⟩
  ·rw[htk];exact hT
  ·rw[az (ic hSti hdi (by decide))];exact hdi
  ·rw[az (ic hSti hci (by decide))];exact hci
  ·exact hmi.DE hSti (by decide) _
  ·exact λq row hq he=>by rw[az (abT he.2.2.2.1)];exact hFi q row hq he
  ·rw[aa6];exact hNi
 ·rintro env rs ⟨hw,hSi,hdi,hci,hmi,hFi,hNi⟩ R
  simp only[has]at hw
  have g0:((P:Int)<(P:Int))=False:=aax (by omega)
  have hpi:=OF hSi eY n9 qE TT hn yL
  have kFo:=λk'=>VW rs k' _ d _ s.nx c m hSi.rd hmi.bs hpi ho hc H9 Kt
  rw[hrL]at kFo
  simp only[↓ah,aj,simprocAttr,aM,hw,g0,hci,h.frc,kFo]
  have hpo:pT (Sg.v {s with nx:=s.nx+1#32,sm:= .agg (qK LS LB) [.raw (.string (jx m)),.raw (.bool true)]::s.sm,tm:=yn s.nx ds s.tm P,last:=s.last++[(m,c)]} (L.next d')).o.toNat=P:=hPP
  rw[hsF,hpN,hpo,<-ab2]
  refine hk _ d' rs.length (hSi.push _) (by rw[bw];rfl) (by omega) (λq row hq he=>a7 (hFi q row hq he)) hdr (by rw[aao];omega)
 ·simp only[has,↓ah,aj,simprocAttr]
end jU
end Go.Am
namespace Go.Am
namespace jU
open Go.Am.F
structure Whole (s:gu):Prop where
 t:Ks s.t.toNat=true
 t10:hT s.t.toNat<=10
 o:sr s.o.toNat=true
 id:s.id.length=16
 sd:s.aF.length=32
 ns:s.ns=mI s.o s.id s.aF (hH s.t)
 ld:aR s.ld=false
theorem hH_ge{t:BitVec 32}(h:Ks t.toNat=true):2<=hH t:=by
 have:2^1<=2^hT t.toNat:=abO (by decide) (Hb h)
 exact this
theorem hH_le{t:BitVec 32}(h:hT t.toNat<=10):hH t<=1024:=by
 have:2^hT t.toNat<=2^10:=abO (by decide) h
 exact this
theorem Whole.len{s:gu}(h:Whole s):s.ns.length=2*hH s.t:=by rw[h.ns];exact Dx _ _ _ _ _
theorem Whole.lv{s:gu}(h:Whole s):iO s=hH s.t:=by unfold iO;rw[h.len];omega
theorem Whole.ok{s:gu}(h:Whole s):jt s=true:=by
 have h1:=hH_ge h.t
 have h2:=hH_le h.t10
 have h3:=h.len
 refine dG.2 ⟨h.id,h.sd,?_,by omega,by omega,by omega,h.ld⟩
 rw[h.ns]
 exact TY _ _ _ _ _
theorem Whole.pn{s:gu}(h:Whole s){q:Nat}(hq:q<hH s.t):gD s q=hT s.t.toNat:=by
 have h1:=hH_ge h.t
 have e:hH s.t=2^hT s.t.toNat:=rfl
 unfold gD
 rw[h.lv]
 refine(Nat.log2_eq_iff (by omega)).2 ⟨by omega,?_⟩
 rw[aeh];omega
theorem r9(x:BitVec 32)(l:List (BitVec 8)):cR (bi x++l)=x:=by
 rw[<-qC _ 4 (by decide)]
 show cR (bi x)=x
 exact Js x
section
variable {s:gu} (h:Whole s) {q:BitVec 32} (hq:q.toNat<hH s.t) (c m:List (BitVec 8)) (hc:c.length=32)
theorem sf_q:pA (iP s q c m)=q:=by
 rw[pA,iP]
 simp only[aaC]
 exact r9 _ _
theorem sf_4:(iP s q c m).drop 4=nc s.o ⟨s.id,q⟩ s.aF c m++(bi s.t++(jW s q.toNat).flatten):=by
 rw[iP]
 simp only[aaC]
 rfl
theorem sf_o:Qy (iP s q c m)=s.o:=by
 rw[Qy,sf_4,nc]
 simp only[aaC]
 exact r9 _ _
theorem sf_p:oA (iP s q c m)=pT s.o.toNat:=by rw[oA,sf_o]
include hc
theorem sf_40:(iP s q c m).drop (40+32*pT s.o.toNat)=bi s.t++(jW s q.toNat).flatten:=by
 have hl:=uN s.o ⟨s.id,q⟩ s.aF c m hc
 rw[show 40+32*pT s.o.toNat=4+(nc s.o ⟨s.id,q⟩ s.aF c m).length by omega,<-abv,sf_4,abe]
theorem sf_one:lF (iP s q c m)=nc s.o ⟨s.id,q⟩ s.aF c m:=by
 have hl:=uN s.o ⟨s.id,q⟩ s.aF c m hc
 rw[lF,sf_p,sf_4,<-hl,aa0]
theorem sf_t:K3 (iP s q c m)=s.t:=by rw[K3,sf_p,sf_40 c m hc];exact r9 _ _
theorem sf_h:oa (iP s q c m)=hT s.t.toNat:=by rw[oa,sf_t c m hc]
include h hq
theorem sf_path:iN (iP s q c m) (hT s.t.toNat)=jW s q.toNat:=by
 have hl:=oS s q.toNat
 have hn:=h.pn hq
 refine acH (by rw[EW,hl,hn]) λi h1 h2=>?_
 have e:(iN (iP s q c m) (hT s.t.toNat))[i]=VQ (iP s q c m) i:=by simp[iN]
 have e44:(iP s q c m).drop (44+32*pT s.o.toNat)=(jW s q.toNat).flatten:=by
  rw[show 44+32*pT s.o.toNat=(40+32*pT s.o.toNat)+4 by omega,<-abv,sf_40 c m hc]
  rfl
 rw[e,VQ,sf_p,<-abv,e44]
 exact Jt (Du h.ok (by rw[h.lv];exact hq)) i h2
theorem sf_E:dM (iP s q c m)=0:=by
 have hl:=Dv h.ok (by rw[h.lv];exact hq) c m hc
 rw[h.pn hq]at hl
 have hsh:q.toNat>>>hT s.t.toNat=0:=by rw[abb];exact acU hq
 have h1:=Hb h.t
 unfold dM
 rw[sf_o,sf_p,sf_t c m hc,sf_h c m hc,sf_q,aaA (by omega),aaA (by rw[h.o];decide),aaA (by omega),aaA (by rw[h.t];decide),aaA]
 rintro(e|e)
 ·exact e hl
 ·exact e hsh
end
theorem WE(r:BitVec 32)(i:Nat):(r>>>i).toNat=r.toNat/2^i:=by simp[abb]
theorem q_top{t:BitVec 32}(ht:hT t.toNat<=10){q:BitVec 32}(hq:q.toNat<hH t):(q+1#32<<<hT t.toNat).toNat=hH t+q.toNat:=by
 have h2:=hH_le ht
 have e:(1#32<<<hT t.toNat).toNat=hH t:=by
  rw[acj,acw]
  show 1*hH t %4294967296=hH t
  omega
 rw[ab4,e]
 omega
theorem Rf(x:BitVec 32)(n:Nat)(h:x.toNat=n):BitVec.ofNat 32 n=x:=by
 rw[<-h];simp
theorem Rg{s:gu}(h:Whole s){q:BitVec 32}(hq:q.toNat<hH s.t){x:List (BitVec 8)}(hx:x=s.ns.getD (hH s.t+q.toNat) []):
  ∀i,i<=hT s.t.toNat->dI s.id (q+1#32<<<hT s.t.toNat) x (jW s q.toNat) i=s.ns.getD ((hH s.t+q.toNat)/2^i) []
 |0,_=>by rw[dI,hx,Nat.pow_zero,Nat.div_one]
 | i + 1, hi => by
  have ih:=Rg h hq hx i (by omega)
  have hHe:hH s.t=2^hT s.t.toNat:=rfl
  have ht:=q_top h.t10 hq
  have hr:((q+1#32<<<hT s.t.toNat)>>>i).toNat=(hH s.t+q.toNat)/2^i:=by rw[WE,ht]
  have Zu:(((q+1#32<<<hT s.t.toNat)>>>i)>>>1).toNat=(hH s.t+q.toNat)/2^i/2:=by rw[WE,hr]
  have hge:2<=(hH s.t+q.toNat)/2^i:=by
   rw[Nat.le_div_iff_mul_le (adG i)]
   have:2^(i+1)<=2^hT s.t.toNat:=abO (by decide) hi
   rw[aeh]at this
   omega
  have hle:(hH s.t+q.toNat)/2^i<2*hH s.t:=Nat.lt_of_le_of_lt (adF _ _) (by omega)
  have hp:(jW s q.toNat).getD i []=s.ns.getD ((hH s.t+q.toNat)/2^i^^^1) []:=by
   have hl:=oS s q.toNat
   have hn:=h.pn hq
   have:i<(jW s q.toNat).length:=by omega
   simp only[List.getD,aap this,acI]
   simp[jW,pO,h.lv,List.getD]
  have hd:(hH s.t+q.toNat)/2^(i+1)=(hH s.t+q.toNat)/2^i/2:=by rw[aeh,Nat.div_div_eq_div_mul]
  rw[dI,ih,hp,hd]
  generalize (hH s.t+q.toNat)/2^i=r at*
  have Fw:=T3 s.o s.id s.aF (hH s.t) (r/2) (by omega) (by omega)
  rw[<-h.ns,Rf _ _ Zu]at Fw
  rw[Fw]
  unfold Ds
  have sn:=xor1 r
  have hb:((q+1#32<<<hT s.t.toNat)>>>i&&&1#32=1#32)=(r %2=1):=by
   rw[<-and1]
   apply propext
   constructor
   ·intro e
    have:=abB BitVec.toNat e
    rw[abJ,hr]at this
    exact this
   ·intro e
    apply aaG
    rw[abJ,hr]
    exact e
  by_cases c:r %2=1
  ·rw[aaI (by rw[hb];exact c)]
   rw[aaA (by omega)]at sn
   rw[sn,show 2*(r/2)=r-1 by omega,show r-1+1=r by omega]
  ·rw[aaA (by rw[hb];exact c)]
   rw[aaI (by omega)]at sn
   rw[sn,show 2*(r/2)=r by omega]
theorem leaf_at{s:gu}(h:Whole s){q:BitVec 32}(hq:q.toNat<hH s.t):dZ s.id (q+1#32<<<hT s.t.toNat) (zo s.o.toNat ⟨s.id,q⟩ s.aF)=s.ns.getD (hH s.t+q.toNat) []:=by
 have h1:=hH_ge h.t
 rw[h.ns,TZ _ _ _ _ _ (by omega) (by omega),lfS,Rf _ _ (q_top h.t10 hq),show hH s.t+q.toNat-hH s.t=q.toNat by omega]
 simp
theorem Kb{s:gu}(h:Whole s){q:BitVec 32}(hq:q.toNat<hH s.t):vH s.id q (dZ s.id (q+1#32<<<hT s.t.toNat) (zo s.o.toNat ⟨s.id,q⟩ s.aF)) (jW s q.toNat)=s.ns.getD 1 []:=by
 have e:=Rg h hq (leaf_at h hq) (hT s.t.toNat) (aaz _)
 have hl:=oS s q.toNat
 rw[h.pn hq]at hl
 rw[vH,hl,e]
 have h1:hH s.t=2^hT s.t.toNat:=rfl
 rw[show(hH s.t+q.toNat)/2^hT s.t.toNat=1 by rw[<-h1];exact Nat.div_eq_of_lt_le (by omega) (by omega)]
theorem pub_t(s:gu):cR (cy s)=s.t:=by
 rw[cy];simp only[aaC];exact r9 _ _
theorem pub_o(s:gu):cR ((cy s).drop 4)=s.o:=by
 rw[cy];simp only[aaC];exact r9 s.o (s.id++s.ns.getD 1 [])
theorem pub_8(s:gu):(cy s).drop 8=s.id++s.ns.getD 1 []:=by
 rw[cy];simp only[aaC];rfl
theorem Uu{s:gu}(h:s.id.length=16):((cy s).drop 8).take 16=s.id:=by
 rw[pub_8,<-h,aa0]
theorem pub_root{s:gu}(h:s.id.length=16):(cy s).drop 24=s.ns.getD 1 []:=by
 rw[show 24=8+s.id.length by omega,<-abv,pub_8,abe]
theorem DO{s:gu}(h:Whole s):fj (cy s)=(⟨s.t,s.o,s.id,s.ns.getD 1 []⟩,0):=by
 unfold fj
 simp only[jn h.ok,pub_t,pub_o,h.t,h.o,aav,adD,aaU,keyOf,Uu h.id,pub_root h.id]
theorem rt_any{s z:gu}(h:Whole s)(hz:Whole z)(ht:z.t=s.t)(ho:z.o=s.o)(hi:z.id=s.id){q:BitVec 32}(hq:q.toNat<hH s.t)(c m m2:List (BitVec 8))(hc:c.length=32):Mu (cy z) (iP s q c m)=0/\
  Yl (cy z) m2 (iP s q c m)=vH s.id q (dZ s.id (q+1#32<<<hT s.t.toNat) (mH ⟨s.id,q⟩ (nc s.o ⟨s.id,q⟩ s.aF c m) m2)) (jW s q.toNat):=by
 constructor
 ·rw[Mu,DO hz,sf_E h hq c m hc,sf_t c m hc,sf_o]
  simp[ht,ho]
 ·rw[Yl,DO hz,sf_q,sf_h c m hc,sf_one c m hc,sf_path h hq c m hc]
  simp only[hi]
theorem rt_own{s z:gu}(h:Whole s)(hz:Whole z)(ht:z.t=s.t)(ho:z.o=s.o)(hi:z.id=s.id){q:BitVec 32}(hq:q.toNat<hH s.t)(c m:List (BitVec 8))(hc:c.length=32):Yl (cy z) m (iP s q c m)=s.ns.getD 1 []:=by
 rw[(rt_any h hz ht ho hi hq c m m hc).2,TU s.o ⟨s.id,q⟩ s.aF c m hc h.o]
 exact Kb h hq
theorem ver_own{s z:gu}(h:Whole s)(hz:Whole z)(ht:z.t=s.t)(ho:z.o=s.o)(hi:z.id=s.id){q:BitVec 32}(hq:q.toNat<hH s.t)(c m:List (BitVec 8))(hc:c.length=32):nU (cy z) m (iP s q c m)=if s.ns.getD 1 []=z.ns.getD 1 []then 0 else 5:=by
 rw[nU,(rt_any h hz ht ho hi hq c m m hc).1,rt_own h hz ht ho hi hq c m hc,DO hz]
 simp
theorem ob.els{rows:Rows}{L:vI}{s:Sg}(h:ob rows L s){q:Nat}{l:List D}(hq:live rows q=some ⟨L8,l⟩):GQ rows L s q:=
 ⟨(ic h.a hq (by decide)).symm,(ic h.n hq (by decide)).symm,(ic h.m hq (by decide)).symm,(ic h.t hq (by decide)).symm,jI h.l hq (by decide)⟩
theorem E6{R:Rows}{L:vI}{t o:BitVec 32}{id aF:List (BitVec 8)}(h:ob R L (wA t o id aF (mI o id aF (hH t))))(ht:Ks t.toNat=true)(h10:hT t.toNat<=10)(ho:sr o.toNat=true)(eY:id.length=16)(n9:aF.length=32):Whole ((wA t o id aF (mI o id aF (hH t))).v L):=
 ⟨ht,h10,ho,eY,n9,rfl,Sg.JF h⟩
theorem Kc{R':Rows}{L:vI}{s:Sg}{d:D}{c m:List (BitVec 8)}(h:Whole (s.v L))(h':ob R' (L.next d) (s.next c m)):Whole ((s.next c m).v (L.next d)):=
 ⟨h.t,h.t10,h.o,h.id,h.sd,h.ns,Sg.JF h'⟩
end jU
end Go.Am
namespace Go.Am
attribute [local congr] dq bW dt bX bY cB bI bZ b5 cC bu cD b6 dj
namespace jU
open Go.Am.F
def jz(p:List (BitVec 8)):List (BitVec 8):=p.take (min p.length 120/4*4)++[0#8,0#8,0#8,0#8]
theorem DP(p:List (BitVec 8)):(jz p).length=min p.length 120/4*4+4:=by
 rw[jz,aao,aau]
 show min _ _+4=_
 omega
def dN(v:Nat)(p:List (BitVec 8)):AB:=ofS v 0 (jz p)
def yZ(v:Nat):List (BitVec 8):=qg.set 0 (BitVec.ofInt 8 (v:Int))
theorem Bu(v:Nat)(p:List (BitVec 8))(hv:v<=255):bT (dN v p)=true:=by
 have h:=DP p
 have e:∀n:Nat,n %4=0->((n:Int).tmod 4=0):=λn hn=>by
  have:(n:Int).tmod 4=((n %4:Nat):Int):=rfl
  rw[this,hn];rfl
 have e1:=e (jz p).length (by omega)
 generalize hn:(jz p).length=n at*
 have hm:dN v p=⟨v,n,0,cM (jz p)⟩:=by rw[dN,ofS,hn]
 rw[hm]
 simp only[bT,aan,aat]
 refine⟨⟨⟨⟨⟨⟨⟨by omega,by omega⟩,by omega⟩,by omega⟩,e1⟩,by decide⟩,by omega⟩,by decide⟩
theorem WG{rows:Rows}{d:D}{p:List (BitVec 8)}(h:aU rows d p)(n:Int)(hp:p.length<=9223372036854775807)(hn:n<=1099511627776)(k:D->Rows->Prop):aI GJ rows k [d,.raw (it n)]=k (.sl L8 (0+rows.length) [] 0 (p.take n.toNat).length false) (rows++[some ⟨L8,bs (p.take n.toNat)⟩]):=by
 refine(gf (.bs h) (.int n) (by rw[aan,abo,abo,aau];unfold most;omega) (by simp[dF,cj,be,Sh.pure]) k).trans ?_
 simp[dF,shift,ab,Sh.pure]
theorem OG{rows:Rows}{L:vI}{s:Sg}(h:ob rows L s){R:Rows}{q:Nat}(hq:rows.length<=q):GQ R L s q:=by
 have a:=bb h.a
 have b:=bb h.n
 have c:=bb h.m
 have d:=bb h.t
 refine⟨by omega,by omega,by omega,by omega,λex n e=>?_⟩
 rcases h.l with⟨e',e''⟩|⟨r,og,e',hl⟩
 ·first|(rw[e]at e';cases e')|(rw[e]at e'';cases e'')
 ·rw[e]at e'
  injection e' with _ e'
  have:=bb hl
  omega
theorem pT_le(t:Nat):pT t<=265:=by
 unfold pT
 repeat' split
 all_goals omega
structure ImC (C:bf):Prop where
 cu:C.fn 17=some GJ
 jo:C.fn 51=some Md
 of:C.fn 52=some fOf
 bo:C.fn 31=some tR
 s0:C.fn 53=none
 s1:∃C1,C.fy 53=some (aQ C1 3 iw iv)/\LmS C1
 im:C.fn 55=some Ot
theorem E7(C:bf)(H:ImC C){rows:Rows}{L:vI}{s:Sg}{d:D}{p:List (BitVec 8)}(v:Nat)(hv:v<=255)(hS:ob rows L s)(hW:Whole (s.v L))(Kt:s.nx.toNat<hH s.t)(hla:s.last.length<=1000)(hd:∀more,aU (rows++more) d p)(kf:dQ d=some p.length)(hp:p.length<=9223372036854775807){K:D->Rows->Prop}
  (hk:∀aa dl' r' n,ob aa (L.next dl') (s.next (yZ v) (bC (dN v p)))->n=(kj (dN v p) (iP (s.v L) s.nx (yZ v) (bC (dN v p))) (jz p)).length->live aa r'=some ⟨L8,bs (kj (dN v p) (iP (s.v L) s.nx (yZ v) (bC (dN v p))) (jz p))⟩->rows.length<=r'->
   (∀q row,live rows q=some row->GQ rows L s q->live aa q=some row)->(∀q ex n,dl'= .sl kg q [] 0 n ex->rows.length<=q)->K (.sl L8 r' [] 0 n false) aa):
  aQ C 4 jB jA [.ptr eW L.r [0],.raw (it (v:Int)),d,.raw (it (-1))] rows K:=by
 refine ag rfl ?_
 unfold jA jB
 simp only[-List.reduceReplicate,pP]
 simp only[-List.reduceReplicate,dw]
 obtain⟨C1,r1,hL⟩:=H.s1
 have qz:=hd []
 rw[aaL]at qz
 have w0:min ((p.length:Nat):Int) 120=((min p.length 120:Nat):Int):=by omega
 have w1:wz ((((min p.length 120:Nat):Int)).tdiv 4)=((min p.length 120/4:Nat):Int):=by
  rw[show(4:Int)=((4:Nat):Int)from rfl,<-aeF,aZ (by omega)]
 have w2:wz (((min p.length 120/4:Nat):Int)*4)=((min p.length 120/4*4:Nat):Int):=by rw[aZ (by omega)];omega
 have kC:=λk=>WG qz ((min p.length 120/4*4:Nat):Int) (by omega) (by omega) k
 rw[aaB]at kC
 have hz4:[D.raw (u8 0#8),.raw (u8 0#8),.raw (u8 0#8),.raw (u8 0#8)]=bs [0#8,0#8,0#8,0#8]:=rfl
 have tV:=DP p
 have kJ:∀k,aI Md (rows++[some ⟨L8,bs (p.take (min p.length 120/4*4))⟩,some ⟨L8,[.raw (u8 0#8),.raw (u8 0#8),.raw (u8 0#8),.raw (u8 0#8)]⟩,some ⟨.ref,[.sl L8 rows.length [] 0 (p.take (min p.length 120/4*4)).length false,.sl L8 (rows.length+1) [] 0 4 true]⟩]) k [.sl .ref (rows.length+2) [] 0 2 true]=_:=λk=>
  kJoin _ k (rows.length+2) 2 true [.sl L8 rows.length [] 0 (p.take (min p.length 120/4*4)).length false,.sl L8 (rows.length+1) [] 0 4 true] [p.take (min p.length 120/4*4),[0#8,0#8,0#8,0#8]] (aK rows _ 2) rfl (.cons (aU.own (bw rows _) _ rfl) (.cons (aU.own (aK rows _ 1) _ rfl) .nil)) (by simp) (by simp;omega)
 have my:[p.take (min p.length 120/4*4),[0#8,0#8,0#8,0#8]].flatten=jz p:=by simp[jz]
 rw[my]at kJ
 have kO:=λr ex R k (hl:live R r=some ⟨L8,bs (jz p)⟩)=>kOf R k v 0 (.sl L8 r [] 0 (jz p).length ex) (jz p) (aU.own hl _ rfl) (by omega)
 have Fo:ofS v 0 (jz p)=dN v p:=rfl
 simp only[Fo]at kO
 have hR:=Bu v p hv
 have ww:(dN v p).dg.length=32:=cm _
 have kB:=λrows k=>JR rows k (dN v p) ww hR
 have mf:=dK
 have hz0:∀x,(bs qg).set 0 (.raw (u8 x))=bs (qg.set 0 x):=λx=>by rw[bs,bs,acr]
 simp only[↓ah,aj,simprocAttr,aM,kf,w0,w1,w2,H.cu,kC,H.jo,kJ,H.of,kO,mf,H.bo,kB,H.s0,r1,hz0]
 have FB:=jX (dN v p) ww
 have hlv:iO (s.v L)=hH s.t:=hW.lv
 have V4:=hW.pn Kt
 refine sign_run C1 hL (hS.push _) hW.ok hW.o (c:=yZ v) (m:=bC (dN v p)) (by rw[yZ,aa6];rfl) (.inr ⟨_,false,by rw[FB],aK rows _ 5⟩) (by omega) (by rw[hlv];exact Kt) (by omega) λaa dl' r' g1 g2 g3 g4 g5 g6=>?_
 have e3:=g4 _ _ (aK rows _ 3) (OG hS (by omega))
 have e4:=g4 _ _ (aK rows _ 4) (OG hS (by omega))
 have hsl':(iP (s.v L) s.nx (yZ v) (bC (dN v p))).length=44+(32*pT s.o.toNat+32*hT s.t.toNat):=by
  rw[Dv hW.ok (by rw[hlv];exact Kt) (yZ v) (bC (dN v p)) (by rw[yZ,aa6];rfl),V4,ab2]
  rfl
 have ht9:hT s.t.toNat<=10:=hW.t10
 have hp9:=pT_le s.o.toNat
 have kI:=λk=>kImage aa k (dN v p) _ _ (iP (s.v L) s.nx (yZ v) (bC (dN v p))) (jz p) ww (aU.own (ex:=false) g2 _ rfl) (aU.own (ex:=false) e3 _ rfl) (by omega) (by omega) (by
  simp only[qi,hR,abA,aan,aat]
  exact⟨rfl,by omega⟩)
 rw[hsl']at kI
 have hpn':44+32*pT s.o.toNat+32*gD (s.v L) s.nx.toNat=44+32*pT s.o.toNat+32*hT s.t.toNat:=by rw[V4];rfl
 simp only[↓ah,aj,simprocAttr,aM,e4,hpn',H.im,kI]
 rw[aao]at g6
 refine hk _ dl' aa.length _ (g1.push _) rfl (bw aa _) (by omega) (λq row hq he=>ae (g4 q row (ae hq _) he) _) λq ex n hd=>?_
 have:=g5 q ex n hd
 rw[aao]at this
 omega
def sl8:OY:=List.replicate 8 (0,qg)
def zt:List (BitVec 8):=List.replicate 8192 0#8
theorem ram0_len:zt.length=8192:=aaS ..
def pt0:D:= .agg (.ar 64 L8) (List.replicate 64 (.raw (u8 0#8)))
theorem YV(C:bf){rows:Rows}{K:D->Rows->Prop}(hk:K (.ptr wR rows.length [0]) (rows++[some ⟨wR,[gJ sl8]⟩])):aQ C 0 rA rz [] rows K:=by
 refine ag rfl ?_
 unfold rz rA
 have zs:List.replicate 8 (D.agg SPl [.raw (it 0),.agg (.ar 32 L8) (bs qg)])=sl8.map plD:=rfl
 have sf:D.fits (.agg wR [.agg (.ar 8 SPl) (sl8.map plD),.raw (.bool false),.raw (.bool false)]) wR=true:=rfl
 simp only[dw,zs]
 simp only[↓ah,aj,simprocAttr,aM,sf]
 exact hk
theorem YW(C:bf){rows:Rows}{f q:Nat}{K:D->Rows->Prop}(hk:K (.ptr nj rows.length [0]) (rows++[some ⟨nj,[wQ 0 zt pt0 f q]⟩])):aQ C 2 iz iy [.ptr SF f [0],.ptr TQ q [0]] rows K:=by
 refine ag rfl ?_
 unfold iy iz
 have z1:List.replicate 8192 (D.raw (u8 0#8))=bs zt:=by rw[bs,zt,List.map_replicate]
 have z2:D.agg (.ar 64 L8) (List.replicate 64 (.raw (u8 0#8)))=pt0:=rfl
 have sf:∀l,D.fits (.agg nj l) nj=true:=λ_=>rfl
 rw[z1]
 rw[z2]
 simp only[↓ah,aj,simprocAttr,aM,sf]
 exact hk
structure EnC (C:bf):Prop where
 s0:C.fn 128=none
 s1:∃C1,C.fy 128=some (aQ C1 0 rA rz)
 ms:C.fn 129=some JZ
theorem enew_run(C:bf)(H:EnC C){rows:Rows}{K:D->Rows->Prop}(hk:K (.ptr RW (rows.length+1) [0]) (rows++[some ⟨wR,[gJ sl8]⟩,some ⟨RW,[.agg RW [.ptr wR rows.length [0],iU zR,.agg (.ar 32 L8) (bs qg),.raw (it 0)]]⟩])):aQ C 0 nI nH [] rows K:=by
 refine ag rfl ?_
 unfold nH nI
 obtain⟨C1,r1⟩:=H.s1
 have kM:=λrows k=>kMsNew rows k
 have sf:∀l,D.fits (.agg RW l) RW=true:=λ_=>rfl
 have mf:(iU zR).fits SMea=true:=rfl
 simp only[dw]
 simp only[↓ah,aj,simprocAttr,aM,H.s0,r1]
 refine YV C1 ?_
 simp only[↓ah,aj,simprocAttr,aM,H.ms,kM,sf,mf]
 exact hk
structure NmC (C:bf):Prop where
 s0:C.fn 64=none
 s1:∃C1,C.fy 64=some (aQ C1 2 iz iy)
 e0:C.fn 65=none
 e1:∃C1,C.fy 65=some (aQ C1 0 nI nH)/\EnC C1
 p0:C.fn 67=none
 p1:∃C1,C.fy 67=some (aQ C1 0 vz vv)
 co:C.fn 66=some J6
theorem nm_run(C:bf)(H:NmC C){rows:Rows}{f m q a w:Nat}{x:List (BitVec 8)}{c:rU}(hF:gE rows f m x)(hx:x.length=10240)(hc:uR rows q a w c){K:D->Rows->Prop}
  (hk:∀aa L,bG rows aa->L.f=f->L.m=m->L.q=q->L.a=a->L.w=w->(∀x∈[L.M,L.s,L.e,L.sl],rows.length<=x)->gF aa L ⟨0,zt,x,c⟩->J7 aa L zR sl8->K (.ptr ko L.M [0]) aa):
  aQ C 2 iu ir [.ptr SF f [0],.ptr TQ q [0]] rows K:=by
 refine ag rfl ?_
 unfold ir iu
 obtain⟨C1,r1⟩:=H.s1
 obtain⟨C2,r2,hE⟩:=H.e1
 obtain⟨C3,r3⟩:=H.p1
 have cf:∀a,(J5 a).fits Wu=true:=λ_=>rfl
 have sf:∀l,D.fits (.agg ko l) ko=true:=λ_=>rfl
 simp only[↓ah,aj,simprocAttr,aM,H.s0,r1]
 refine YW C1 ?_
 simp only[↓ah,aj,simprocAttr,aM,H.e0,r2]
 refine enew_run C2 hE ?_
 simp only[↓ah,aj,simprocAttr,aM,H.co,kCoreN,cf,H.p0,r3,nG,vv,vz,sf]
 exact hk _ ⟨rows.length+4,rows.length,rows.length+2,rows.length+1,f,m,q,a,w⟩ (bG.app _ _) rfl rfl rfl rfl rfl (by simp)
  ⟨⟨_,_,aK rows _ 4⟩,⟨pt0,bw rows _⟩,ram0_len,hF.push _,hx,hc.push _⟩ ⟨⟨_,_,aK rows _ 2⟩,aK rows _ 1,rfl,rfl⟩
theorem Rh(C:bf){rows:Rows}{K:D->Rows->Prop}(hk:K (.ptr l7 rows.length [0]) (rows++[some ⟨l7,[mc WB]⟩])):aQ C 0 oK oJ [] rows K:=by
 refine ag rfl ?_
 unfold oJ oK
 have sf:∀l,D.fits (.agg l7 l) l7=true:=λ_=>rfl
 simp only[-List.reduceReplicate,pP]
 simp only[↓ah,aj,simprocAttr,aM,sf]
 exact hk
end jU
end Go.Am
namespace Go.Am
namespace jU
open Go.Am.F
theorem E8(x:List Wd)(P Q:List Wr):∀n,n<=P.length->lX x (P++Q) n=lX x P n
 |0,_=>rfl
 |n+1,h=>by
  rw[lX,lX,E8 x P Q n (by omega),aaN (by omega)]
def yo(x:List Wd)(f:Nat)(l:List (BitVec 32)):Nat->List Wd
 |0=>x
 |n+1=>match(yo x f l n)[f+n]? with
  |some o=>(yo x f l n).set (f+n) (o.1|||l.getD n 0#32,o.2)
  |none=>yo x f l n
theorem DQ(x:List Wd)(f:Nat)(l:List (BitVec 32)):∀n,(yo x f l n).length=x.length
 |0=>rfl
 |n+1=>by
  rw[yo]
  split
  ·rw[aa6,DQ x f l n]
  ·exact DQ x f l n
theorem DR(x:List Wd)(f:Nat)(l:List (BitVec 32))(k:Nat):∀n,k<f\/f+n<=k->(yo x f l n)[k]?=x[k]?
 |0,_=>rfl
 |n+1,h=>by
  rw[yo]
  split
  ·rw[abP (by omega),DR x f l k n (by omega)]
  ·exact DR x f l k n (by omega)
theorem or_not(a b:BitVec 32):a&&&~~~(a|||b)=0#32:=by
 ext i hi;simp;intro h;simp[h]
theorem or_self(a b:BitVec 32):a|||(a|||b)=a|||b:=by
 ext i hi;simp
theorem MO(x:List Wd)(f:Nat)(l:List (BitVec 32)):∀n,f+n<=x.length->T4 x (rV (x.map (·.1)) f l n)/\lX x (rV (x.map (·.1)) f l n) (rV (x.map (·.1)) f l n).length=yo x f l n
 |0,_=>⟨λj p h=>by simp[rV]at h,rfl⟩
 | n + 1, h => by
  obtain⟨h1,h2⟩:=MO x f l n (by omega)
  have hx:f+n<x.length:=by omega
  have ho:=DR x f l (f+n) n (by omega)
  rw[aap hx]at ho
  have hg:(x.map (·.1)).getD (f+n) 0#32=(x[f+n]).1:=by simp[List.getD,hx]
  have hs:yo x f l (n+1)=(yo x f l n).set (f+n) ((x[f+n]).1|||l.getD n 0#32,(x[f+n]).2):=by
   rw[yo,ho]
  rw[rV,Qv,hg,hs]
  generalize rV (x.map (·.1)) f l n=P at*
  by_cases c:(x[f+n]).1|||l.getD n 0#32=(x[f+n]).1
  ·rw[aaI c,aaL,c]
   refine⟨h1,h2.trans ?_⟩
   have hl:f+n<(yo x f l n).length:=by rw[DQ];exact hx
   have hv:(yo x f l n)[f+n]=x[f+n]:=by rw[aap hl]at ho;exact abg ho
   rw[show((x[f+n]).1,(x[f+n]).2)=x[f+n]from rfl,<-hv,List.set_getElem_self]
  ·rw[aaA c]
   have hlen:(P++[(f+n,(x[f+n]).1|||l.getD n 0#32)]).length=P.length+1:=by simp
   have hp:lX x (P++[(f+n,(x[f+n]).1|||l.getD n 0#32)]) P.length=yo x f l n:=by rw[E8 _ _ _ _ (aaz _),h2]
   refine⟨λj p hj=>?_,?_⟩
   ·by_cases c2:j<P.length
    ·rw[aaN c2]at hj
     obtain⟨o,g1,g2⟩:=h1 j p hj
     exact⟨o,by rw[E8 _ _ _ _ (by omega)];exact g1,g2⟩
    ·have hj2:=(adA.1 hj).1
     have e:j=P.length:=by rw[hlen]at hj2;omega
     subst e
     rw[aaO (aaz _),acq]at hj
     cases hj
     exact⟨x[f+n],by rw[hp];exact ho,or_not _ _⟩
   ·rw[hlen,lX,aaO (aaz _),acq,hp]
    simp only[abM,ho,or_self]
theorem orAt_w(x:List Wd)(f:Nat)(l:List (BitVec 32)):∀n,n<=l.length->f+n<=x.length->(∀k,f<=k->k<f+n->(x.map (·.1)).getD k 0#32=0#32)->(yo x f l n).map (·.1)=(x.map (·.1)).take f++l.take n++(x.map (·.1)).drop (f+n)
 |0,_,_,_=>by simp[yo]
 | n + 1, h1, h2, h3 => by
  have ih:=orAt_w x f l n (by omega) (by omega) λk a b=>h3 k a (by omega)
  have hx:f+n<x.length:=by omega
  have ho:=DR x f l (f+n) n (by omega)
  rw[aap hx]at ho
  have hz:=h3 (f+n) (by omega) (by omega)
  have hg:(x.map (·.1)).getD (f+n) 0#32=(x[f+n]).1:=by simp[List.getD,hx]
  rw[hg]at hz
  rw[yo,ho]
  simp only[hz,BitVec.zero_or,acr,ih]
  have ll:l.getD n 0#32=l[n]'(by omega):=by simp[List.getD,(by omega:n<l.length)]
  have t1:l.take (n+1)=l.take n++[l[n]'(by omega)]:=by rw[aaR (by omega)]
  have t2:(x.map (·.1)).drop (f+n)=(x[f+n]).1::(x.map (·.1)).drop (f+(n+1)):=by
   rw[abD (by simpa using hx)]
   simp[ab2]
  have e1:((x.map (·.1)).take f++l.take n).length=f+n:=by simp;omega
  rw[t1,t2,ll,ab6 _ _ (by rw[e1];exact aaz _),e1,acq]
  simp only[List.set_cons_zero,aaC,acu,abp]
theorem Kd(c:rU)(f:Nat)(l:List (BitVec 32))(h:f+l.length<=c.ws.length)(hz:∀k,f<=k->k<f+l.length->c.w.getD k 0#32=0#32):
  T4 c.ws (jV c.w f l)/\(lX c.ws (jV c.w f l) (jV c.w f l).length).length=c.ws.length/\(lX c.ws (jV c.w f l) (jV c.w f l).length).map (·.1)=c.w.take f++l++c.w.drop (f+l.length):=by
 obtain⟨h1,h2⟩:=MO c.ws f l l.length h
 have h3:=orAt_w c.ws f l l.length (aaz _) h hz
 rw[aaV]at h3
 exact⟨h1,by rw[show jV c.w f l=rV (c.ws.map (·.1)) f l l.length from rfl,h2,DQ],by rw[show jV c.w f l=rV (c.ws.map (·.1)) f l l.length from rfl,h2];exact h3⟩
theorem lifeW:∀m,m<4->F8 (255#32<<<(8*m)) 4=m+1:=by decide
theorem cntW_ctr:∀n,n<256->TR (sD n)=n:=by decide+kernel
theorem Uv(n:Nat)(d:List (BitVec 8))(h:d.length=4*n):gO (words n d)=d:=by
 have key:∀n,4*n<=d.length->gO (words n d)=d.take (4*n):=by
  intro n
  induction n with
  |zero=>intro _;rfl
  | succ n ih =>
   intro hn
   rw[Bh,Jb,ih (by omega),show 4*(n+1)=4*n+4 by omega,adC]
   congr 1
   obtain⟨a,b,c,e,hq⟩:∃a b c e,(d.drop (4*n)).take 4=[a,b,c,e]:=by
    have hl:((d.drop (4*n)).take 4).length=4:=by rw[aau,aar];omega
    match(d.drop (4*n)).take 4,hl with
    |[a,b,c,e],_=>exact⟨a,b,c,e,rfl⟩
   rw[hq]
   simp only[gO,abq,adv,abl,abn,aaL]
   exact word_num a b c e
 rw[key n (by omega),aaq (by omega)]
end jU
end Go.Am

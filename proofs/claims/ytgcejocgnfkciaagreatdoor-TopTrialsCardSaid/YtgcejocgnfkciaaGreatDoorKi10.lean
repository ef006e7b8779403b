import Derived.Test.YtgcejocgnfkciaaGreatDoorKi9
set_option linter.unusedSimpArgs false
set_option linter.unusedVariables false
set_option maxRecDepth 10000
set_option maxHeartbeats 4000000
namespace Go.Am
attribute [local congr] cN bP cO bQ bT ca bC bU bV cb bk cd bW cM
namespace iZ
open Go.Am.F
noncomputable def fAt(args:List D)(jU:D):Fn:=λds rows=>open Classical in if ds=args/\rows=[]then some (jU,[])else none
theorem qM{f:FuncId}{A:j9}{G:Nat->Option D}{args:List D}{jU:D}(hA:aP G P f A)(h:A args [] λd rows=>yE rows d jU []):aP G P f (Fn.run (fAt args jU)):=by
 refine aH hA λds rows r hr=>?_
 unfold fAt at hr
 split at hr
 ·rename_i hh
  cases hr
  obtain⟨rfl,rfl⟩:=hh
  exact⟨rfl,h⟩
 ·cases hr
theorem kAt(args:List D)(jU:D)(h1:aV args=false)(h2:shift=shift)(rows:Rows)(k:D->Rows->Prop)(h3:shift rows.length jU=jU):aK (fAt args jU) rows k args=k jU rows:=by
 refine(bh h1 (r:=(jU,[])) (by simp[fAt])).trans ?_
 simp[ab,h3]
theorem DW{α:Type}{x:Option α}{a:α}{k:α->Prop}(h:x=some a)(hk:k a):bf x k:=by rw[h];exact hk
abbrev sRw:D:= .raw (.string ⟨#[114,119]⟩)
abbrev sW:D:= .raw (.string ⟨#[119]⟩)
noncomputable def T8:Fn:=fAt [sRw,.raw (u8 119#8)] (.raw (it 1))
theorem idxb_ok(C:aX)(hC:aJ C P):aP C.aY P 222 (Fn.run T8):=by
 refine qM (mZ C hC) (ae rfl ?_)
 unfold iz iA
 have e:UM ((119#8).toNat:Int) ⟨#[114,119]⟩=1:=by decide
 simp only[↓ag,ah,simprocAttr]
 simp only[u8,e]
 exact .val _ rfl
noncomputable def T9:Fn:=fAt [sRw,sW] (.raw (it 1))
theorem idxs_ok(C:aX)(hC:aJ C P)(h1:C.fn 222=some T8):aP C.aY P 221 (Fn.run T9):=by
 refine qM (oX C hC) (ae rfl ?_)
 unfold jq jt
 have kI:=λrows k=>kAt [sRw,.raw (u8 119#8)] (.raw (it 1)) rfl rfl rows k rfl
 have e1:((ByteArray.mk #[119]).toList==(ByteArray.mk #[114,119]).toList)=false:=by simp[ByteArray.toList_eq]
 have e2:(ByteArray.mk #[119]).size=1:=rfl
 have e3:(ByteArray.mk #[119]).data.toList[0]?=some 119:=rfl
 have e4:(119:UInt8).toBitVec=119#8:=rfl
 simp only[↓ag,ah,simprocAttr,e1,e2,e3,e4,h1,T8,kI,Int.toNat_zero,adH,aey]
 exact .val _ rfl
noncomputable def Ua:Fn:=fAt [sRw,sW] (.raw (it 1))
theorem idx1_ok(C:aX)(hC:aJ C P)(h1:C.fn 221=some T9):aP C.aY P 219 (Fn.run Ua):=by
 refine qM (Fx C hC) (ae rfl ?_)
 unfold vE vF
 have kI:=λrows k=>kAt [sRw,sW] (.raw (it 1)) rfl rfl rows k rfl
 simp only[↓ag,ah,simprocAttr,h1,T9,kI]
 exact .val _ rfl
noncomputable def Ub:Fn:=fAt [sRw,sW] (.raw (.bool true))
theorem hasw_ok(C:aX)(hC:aJ C P)(h1:C.fn 219=some Ua):aP C.aY P 215 (Fn.run Ub):=by
 refine qM (Aq C hC) (ae rfl ?_)
 unfold qB qC
 have kI:=λrows k=>kAt [sRw,sW] (.raw (it 1)) rfl rfl rows k rfl
 simp only[↓ag,ah,simprocAttr,h1,Ua,kI]
 exact .val _ rfl
noncomputable def fMay:Fn:=fAt [.raw (it 0),.raw (it 0),.raw (it 1)] sRw
theorem may_ok(C C1:aX)(hC:aJ C P)(n0:C.fn 220=none)(r0:C.dO 220=some (aG C1 0 mY mX)):aP C.aY P 216 (Fn.run fMay):=by
 refine qM (Oh C hC) (ae rfl ?_)
 unfold EN EO
 have nm:oz (.mp 0)=some (.mp 0):=rfl
 simp only[↓ag,ah,simprocAttr,n0,r0,mT,mX,mY]
 refine gL 6 ?_
 simp only[↓ag,ah,simprocAttr,aQ]
 refine gL 6 ?_
 simp only[↓ag,ah,simprocAttr,aQ]
 refine gL 6 ?_
 simp only[↓ag,ah,simprocAttr,aQ]
 refine gL 6 ?_
 simp only[↓ag,ah,simprocAttr,aQ]
 refine gL 6 ?_
 simp only[↓ag,ah,simprocAttr,aQ,nm]
 refine DW (a:=(some (Value.agg #[.string ⟨#[114,119]⟩]):Option Value)) rfl ?_
 have ed:dV (.cons LS .nil) (.agg #[.string ⟨#[114,119]⟩])= .agg (.cons LS .nil) [sRw]:=rfl
 simp only[↓ag,ah,simprocAttr,aQ,ed]
 exact .val _ rfl
abbrev SAc:Sh:= .cons LI (.cons LI (.cons dk (.cons LI (.cons LB (.cons LB .nil)))))
def OW(at_:BitVec 32):D:= .agg SAc [.raw (it 0),.raw (it 0),.raw (u32 at_),.raw (it 1),.raw (.bool true),.raw (.bool false)]
theorem Mp(x y:BitVec 32)(h:OW x=OW y):x=y:=by
 unfold OW at h
 injection h with _ h
 injection h with _ h
 injection h with _ h
 injection h with h _
 injection h with h
 exact Go.Am.A9.1 h
noncomputable def F3:Fn:=mc (bE OW) (λ_=>true) λ_=>(.raw (.bool true),[])
theorem Wt(C:aX)(hC:aJ C P):aP C.aY P 213 (Fn.run F3):=by
 refine aH (vT C hC) λds rows r h=>?_
 obtain⟨d,x,rfl,rfl,hd,hp,rfl⟩:=aZ h
 cases aF hd
 refine⟨rfl,ae rfl ?_⟩
 unfold nI nK OW
 simp only[↓ag,ah,simprocAttr,aQ]
 exact .val _ rfl
noncomputable def F4:Fn:=mc (bE OW) (λ_=>true) λ_=>(sW,[])
theorem Wu(C:aX)(hC:aJ C P):aP C.aY P 217 (Fn.run F4):=by
 refine aH (vU C hC) λds rows r h=>?_
 obtain⟨d,x,rfl,rfl,hd,hp,rfl⟩:=aZ h
 cases aF hd
 refine⟨rfl,ae rfl ?_⟩
 unfold nL nM OW
 simp only[↓ag,ah,simprocAttr,aQ]
 exact .val _ rfl
abbrev SSp2:Sh:= .cons dk (.cons LI .nil)
def OX(a:BitVec 32)(n:Int):D:= .agg SSp2 [.raw (u32 a),.raw (it n)]
def Ij:D:= .agg (.ar 6 SSp2) [OX 0#32 0,OX 536870912#32 4096,OX 536875008#32 4096,OX 268435456#32 10240,OX 1073741824#32 64,OX 1610612736#32 256]
def Mq(x:BitVec 32):Bool:=decide (536870912<=x.toNat)&&decide (x.toNat<536875008)
def Mr:Fn:=mc qc Mq λx=>(.cB [.raw (it 1),.raw (it ((x.toNat-536870912:Nat):Int))],[])
theorem where_ok(C:aX)(hC:aJ C P)(hg:C.aY 4=some Ij):aP C.aY P 214 (Fn.run Mr):=by
 refine aH (Jl C hC) λds rows r h=>?_
 obtain⟨d,x,rfl,rfl,hd,hp,rfl⟩:=aZ h
 cases eh hd
 simp only[Mq,aav,aaA]at hp
 refine⟨rfl,ae rfl ?_⟩
 unfold zt zu
 have e1:(0#32<=x)=True:=aaz (by rw[abJ];exact acv _)
 have e2:(536870912#32<=x)=True:=aaz (by rw[abJ];exact hp.1)
 have e3:(x-536870912#32).toNat=x.toNat-536870912:=by rw[BitVec.toNat_sub_of_le (by rw[abJ];exact hp.1)];rfl
 have e4:(((x.toNat-536870912:Nat):Int)<4096)=True:=aaz (by omega)
 have e5:(((x.toNat:Nat):Int)<0)=False:=aaI (by omega)
 have e6:x-0#32=x:=BitVec.sub_zero x
 simp only[↓ag,ah,simprocAttr,aQ,hg,Ij,OX]
 refine gL 3 ?_
 simp only[↓ag,ah,simprocAttr,aQ,e1,e2,e3,e4,e5,e6]
 exact .val _ rfl
noncomputable def xG:Fn:=fAt [.raw (it 1)] (.cB [.raw (u32 536870912#32),.raw (it 4096)])
theorem base_ok(C:aX)(hC:aJ C P)(hg:C.aY 4=some Ij):aP C.aY P 170 (Fn.run xG):=by
 refine qM (LH C hC) (ae rfl ?_)
 unfold BF BG
 simp only[↓ag,ah,simprocAttr,aQ,hg,Ij,OX]
 exact .val _ rfl
noncomputable def F5:Fn:=mc (bE OW) Mq λx=>(.cB [.raw (it 1),.raw (it ((x.toNat-536870912:Nat):Int)),.raw (it 0)],[])
theorem Wv(C:aX)(hC:aJ C P)(h1:C.fn 213=some F3)(h2:C.fn 214=some Mr)(h3:C.fn 216=some fMay)(h4:C.fn 217=some F4)(h5:C.fn 215=some Ub):
  aP C.aY P 204 (Fn.run F5):=by
 refine aH (Jj C hC) λds rows r h=>?_
 obtain⟨d,x,rfl,rfl,hd,hp,rfl⟩:=aZ h
 cases aF hd
 refine⟨rfl,ae rfl ?_⟩
 clear h hd
 unfold zn zo
 have k1:∀rows k,aK F3 rows k [OW x]=k (.raw (.bool true)) rows:=λrows k=>(bh rfl (eQ (bA Mp x) rfl)).trans (by simp[shift,ab])
 have k4:∀rows k,aK F4 rows k [OW x]=k sW rows:=λrows k=>(bh rfl (eQ (bA Mp x) rfl)).trans (by simp[shift,ab])
 have k2:∀rows k,aK Mr rows k [.raw (u32 x)]=k (.cB [.raw (it 1),.raw (it ((x.toNat-536870912:Nat):Int))]) rows:=λrows k=>(bh rfl (eQ (gA x) hp)).trans (by simp[shift,bu,ab])
 have k3:=λrows k=>kAt [.raw (it 0),.raw (it 0),.raw (it 1)] sRw rfl rfl rows k rfl
 have k5:=λrows k=>kAt [sRw,sW] (.raw (.bool true)) rfl rfl rows k rfl
 have f0:(OW x).fits SAc=true:=rfl
 have g0:(OW x).get [0]=some (.raw (it 0)):=rfl
 have g1:(OW x).get [1]=some (.raw (it 0)):=rfl
 have g2:(OW x).get [2]=some (.raw (u32 x)):=rfl
 have g3:(OW x).get [3]=some (.raw (it 1)):=rfl
 have e1:x %1#32=0#32:=by simp
 have e2:BitVec.ofInt 32 1=1#32:=rfl
 simp only[↓ag,ah,simprocAttr,aQ,f0,g0,g1,g2,g3,e1,e2,h1,h2,h3,h4,h5,k1,k2,k4,fMay,k3,Ub,k5]
 exact .val _ rfl
abbrev mB:Sh:= .cons LI (.cons (.ar 8192 L8) (.cons (.ar 64 L8) (.cons .ref (.cons .ref .nil))))
def wc(st:Int)(gT:List (BitVec 8))(pt:D)(f c:Nat):D:= .agg mB [.raw (it st),.agg (.ar 8192 L8) (bs gT),pt,.ptr SF f [0],.ptr Kt c [0]]
structure WiC (C:aX):Prop where
 ck:C.fn 204=some F5
 ba:C.fn 170=some xG
theorem OY(C:aX)(H:WiC C){rows:Rows}{s f c o n:Nat}{gT:List (BitVec 8)}{pt:D}(hs:live rows s=some ⟨mB,[wc 0 gT pt f c]⟩)(h:o+n<=4096)(h0:0<n){K:D->Rows->Prop}
  (hk:K (.cB [.raw (it 1),.raw (it (o:Int)),.raw (it 0)]) rows):
  aG C 5 fo fm [.ptr mB s [0],.raw (it 0),.raw (u32 (536870912#32+BitVec.ofInt 32 (o:Int))),.raw (it (n:Int)),.raw (.bool true)] rows K:=by
 refine ae rfl ?_
 unfold fm fo
 have hx:(536870912#32+BitVec.ofInt 32 (o:Int)).toNat=536870912+o:=by
  rw[abp,ach,aa7,aa7];omega
 generalize 536870912#32+BitVec.ofInt 32 (o:Int)=x at*
 have k1:∀rows k,aK F5 rows k [OW x]=k (.cB [.raw (it 1),.raw (it (o:Int)),.raw (it 0)]) rows:=λrows k=>(bh rfl (eQ (bA Mp x) (by simp[Mq,hx];omega))).trans (by simp[shift,bu,ab,hx])
 have k2:=λrows k=>kAt [.raw (it 1)] (.cB [.raw (u32 536870912#32),.raw (it 4096)]) rfl rfl rows k rfl
 have g0:cF [wc 0 gT pt f c] [0,0]=some (.raw (it 0)):=rfl
 have e1:wz (4096-(o:Int))=4096-(o:Int):=be (by omega)
 have e2:((4096-(o:Int))<(n:Int))=False:=aaI (by omega)
 simp only[OW]at k1
 simp only[wc]at hs
 simp only[↓ag,ah,simprocAttr,hs,H.ck,H.ba,k1,xG,k2,e1,e2]
 exact hk
structure StC (C1 C:aX):Prop where
 wi:WiC C1
 n0:C.fn 190=none
 r0:C.dO 190=some (aG C1 5 fo fm)
 n1:C.fn 192=none
 r1:∃C2,C.dO 192=some (aG C2 2 iL iK)
theorem OZ{rows:Rows}{s f c o len:Nat}{ex:Bool}{st:Int}{gT p:List (BitVec 8)}{pt:D}(hs:live rows s=some ⟨mB,[wc st gT pt f c]⟩)(hr:gT.length=8192)(h:o+len<=8192)(hp:p.length<=len){k:D->Rows->Prop}
  (hk:k (.raw (it (p.length:Int))) (rows.set s (some ⟨mB,[wc st (a7 gT o p) pt f c]⟩))):ou rows L8 (.sl L8 s [0,1] o len ex) (bs p) k:=by
 have e1:min (bs p).length len=p.length:=by rw[aB];omega
 have e2:(bs p).take p.length=bs p:=jd p
 have e3:a7 (bs gT) o (bs p)=bs (a7 gT o p):=Ig gT o p
 have hg:cF [wc st gT pt f c] [0,1]=some (.agg (.ar 8192 L8) (bs gT)):=rfl
 refine⟨rfl,DW hs ?_⟩
 rw[hg]
 refine⟨by rw[aB];omega,DW (a:=[wc st (a7 gT o p) pt f c]) ?_ ?_⟩
 ·rw[e1,e2,e3];rfl
 ·rw[e1];exact hk
theorem Ww(C C1:aX)(H:StC C1 C){rows:Rows}{s f c o:Nat}{gT p:List (BitVec 8)}{d pt:D}(hs:live rows s=some ⟨mB,[wc 0 gT pt f c]⟩)(hr:gT.length=8192)(h:o+p.length<=4096)(h0:0<p.length)(hd:rk rows L8 d=some (bs p))(AF:dP d=some p.length){K:D->Rows->Prop}
  (hk:K (.raw (it 0)) (rows.set s (some ⟨mB,[wc 0 (a7 gT o p) pt f c]⟩))):
  aG C 4 fR fQ [.ptr mB s [0],.raw (it 0),.raw (u32 (536870912#32+BitVec.ofInt 32 (o:Int))),d] rows K:=by
 refine ae rfl ?_
 unfold fQ fR
 obtain⟨C2,r1⟩:=H.r1
 have e1:((p.length:Int)=0)=False:=aaI (by omega)
 simp only[↓ag,ah,simprocAttr,AF,e1,H.n0,H.r0]
 refine OY C1 H.wi hs h h0 ?_
 simp only[↓ag,ah,simprocAttr,H.n1,r1,mT,iK,iL]
 refine⟨by omega,by omega,DW hd ⟨λk hk=>?_,OZ hs hr (by omega) (by omega) ?_⟩⟩
 ·rw[AF]at hk;cases hk;rw[aB]
 ·simp only[↓ag,ah,simprocAttr]
  exact hk
theorem kCall_vb{α:Type}{mk:α->D}(Y6:∀x y,mk x=mk y->x=y){pre:α->List (BitVec 8)->Bool}{O0:α->List (BitVec 8)->D}{rows:Rows}{k:D->Rows->Prop}{x:α}{d:D}{p:List (BitVec 8)}(h:bd rows d p)(hp:pre x p=true)
  (hr:aT (mk x)=false)(hv:view rows 9 (mk x)=some (mk x))(hno:b8 (O0 x p)=true)(hsh:shift rows.length (O0 x p)=O0 x p):aK (ux (bE mk) dq pre λx p=>(O0 x p,[])) rows k [mk x,d]=k (O0 x p) rows:=by
 obtain⟨⟨d',jP,hb⟩,hn⟩:=h
 have e1:∀d2,dq d2=some p->(ux (bE mk) dq pre λx p=>(O0 x p,[])) [mk x,d2] []=some (O0 x p,[]):=λd2 h2=>lg (bA Y6 x) h2 hp
 unfold aK
 have h1:aV [mk x,d]=aT d:=by simp[aV,hr]
 rw[h1]
 cases hh:aT d with
 |true=>
  simp only[acF,dC,hv,jP,bf,e1 _ hb.rd,hno,a8,acZ,aa9,hsh,ab,aa4]
  simp
 |false=>
  simp only[acF,bf,e1 _ (hn hh).rd,hsh,ab,aa4]
  simp
def oL(l:List (BitVec 8))(x:BitVec 8):List (BitVec 8):=l.map λb=>b^^^x
theorem O1(l:List (BitVec 8))(x:BitVec 8):(oL l x).length=l.length:=by simp[oL]
noncomputable def Uc:Fn:=ux (bE LP) rd8 (λb _=>decide (b.length=64)) λb x=>(.cD L8 (bs (oL b x)) true,[])
theorem mpad_ok(C:aX)(hC:aJ C P):aP C.aY P 218 (Fn.run Uc):=by
 refine aH (VK C hC) λds rows r h=>?_
 obtain⟨d,e,b,x,rfl,rfl,hd,he,hp,rfl⟩:=dE h
 cases aF hd
 cases G2 he
 simp only[aaA]at hp
 refine⟨rfl,ae rfl ?_⟩
 clear h hd he
 unfold Ki Kj
 simp only[LP,↓ag,ah,simprocAttr]
 refine bg 64 (λi env rows=>has env [(6,.raw (it (i:Int))),(1,.raw (u8 x)),(2,.ptr (.ar 64 L8) 0 [0])]/\rows=[some ⟨.ar 64 L8,[.agg (.ar 64 L8) (bs (oL (b.take i) x++b.drop i))]⟩]) ?_ ?_ ⟨?_,?_⟩
 ·rintro i hi env rows ⟨hh,rfl⟩ R hR
  simp only[has]at hh
  obtain⟨h6,h1,h2,-⟩:=hh
  have e0:((i:Int)<64)=True:=aaz (by omega)
  have e1:((0:Int)<=(i:Int))=True:=aaz (by omega)
  have e2:=cj i (by omega)
  have hl:(oL (b.take i) x).length=i:=by rw[O1,aaF];omega
  have eg:(bs (oL (b.take i) x++b.drop i))[i]?=some (.raw (u8 (b.getD i 0#8))):=by
   rw[nX (by rw[aax,hl,aaB];omega)]
   congr 3
   simp[List.getD,aaT (aet hl),hl]
  have es:(oL (b.take i) x++b.drop i).set i (b.getD i 0#8^^^x)=oL (b.take (i+1)) x++b.drop (i+1):=by
   have e3:b.drop i=b.getD i 0#8::b.drop (i+1):=by
    rw[abF (by omega)];simp[List.getD,(by omega:i<b.length)]
   rw[acp _ _ (aet hl),hl,acr,e3,qd (z:=0#8) (by omega)]
   simp[oL]
  simp only[↓ag,ah,simprocAttr,h6,h1,h2,e0,e1,e2,eg,Q6,es,aaG]
  exact hR _ _ ⟨by simp only[has,↓ag,ah,simprocAttr,h1,h2],rfl⟩
 ·rintro env rows ⟨hh,rfl⟩ R
  simp only[has]at hh
  obtain⟨h6,h1,h2,-⟩:=hh
  have hf:oL (b.take 64) x++b.drop 64=oL b x:=by rw[aay (by omega),acC (by omega),aa4]
  rw[hf]
  simp only[↓ag,ah,simprocAttr,h6,h1,h2]
  have hw:view [some ⟨.ar 64 L8,[.agg (.ar 64 L8) (bs (oL b x))]⟩] 9 (.sl L8 0 [0] 0 64 true)=some (.cD L8 (bs (oL b x)) true):=by
   have hl:(bs (oL b x)).length=64:=by rw[aB,O1,hp]
   have he:Am.elems [some ⟨.ar 64 L8,[.agg (.ar 64 L8) (bs (oL b x))]⟩] (.sl L8 0 [0] 0 64 true)=some (bs (oL b x)):=by
    have:(bs (oL b x)).take 64=bs (oL b x):=aay (aet hl)
    simp[elems,live,cF,D.get,this]
   simp only[Am.view,he,hl]
   simp[Sh.pure]
  exact .frz _ _ hw
 ·simp only[has,↓ag,ah,simprocAttr]
 ·rfl
theorem Ud(rows:Rows)(k:D->Rows->Prop)(b:List (BitVec 8))(x:BitVec 8)(h:b.length=64):aK Uc rows k [.agg (.ar 64 L8) (bs b),.raw (u8 x)]=k (.cD L8 (bs (oL b x)) true) rows:=by
 refine(bh (by simp[aV,aT,Sh.pure]) (r:=(.cD L8 (bs (oL b x)) true,[])) ?_).trans ?_
 ·exact lg (bA HO b) (Lm x) (by simp[h])
 ·simp[shift,ab,Sh.pure]
def FC(k:List (BitVec 8)):List (BitVec 8):=qF (if 64<k.length then eu k else k) 64
theorem keyS_len(k:List (BitVec 8)):(FC k).length=64:=by
 unfold FC
 split
 ·exact DE (by rw[du];decide)
 ·exact DE (by omega)
structure Jr where
 i:St
 o:St
def oc(m:Jr):D:= .agg S34 [tF m.i,tF m.o]
theorem O2(x y:Jr)(h:oc x=oc y):x=y:=by
 obtain⟨a,b⟩:=x
 obtain⟨a',b'⟩:=y
 simp only[oc,D.agg.injEq,abL,aa9,aci]at h
 rw[FR _ _ h.1,FR _ _ h.2]
def Jr.ok(m:Jr):Bool:=m.i.ok&&m.o.ok
theorem Mt{m:Jr}(h:m.ok=true):m.i.ok=true/\m.o.ok=true:=by simpa[Jr.ok]using h
def FD(k:List (BitVec 8)):Jr:=⟨feed FT (oL (FC k) 54#8),feed FT (oL (FC k) 92#8)⟩
theorem newM_ok(k:List (BitVec 8)):(FD k).ok=true:=by simp[Jr.ok,FD,eZ _ _ oa]
def mr(m:Jr)(p:List (BitVec 8)):Jr:=⟨feed m.i p,m.o⟩
theorem tR{m:Jr}(h:m.ok=true)(p:List (BitVec 8)):(mr m p).ok=true:=by
 have:=Mt h
 simp[Jr.ok,mr,eZ _ _ this.1,this.2]
def sumM(m:Jr):List (BitVec 8):=pi (feed m.o (pi m.i))
theorem Cf(m:Jr):aT (oc m)=false:=by simp[oc,tF,aT,aV,Sh.pure]
theorem mac_view(m:Jr)(rows:Rows):view rows 9 (oc m)=some (oc m):=by simp[oc,view,Sh.pure]
theorem KK(m:Jr)(n:Nat):shift n (oc m)=oc m:=by simp[oc,shift,Sh.pure]
theorem KL(m:Jr):b8 (oc m)=true:=by simp[oc,b8,Sh.pure]
theorem O3(m:Jr):D.fits (oc m) S34=true:=by simp[oc,D.fits]
def Ue:Fn:=mc dq (λk=>Nat.ble k.length most) λk=>(oc (FD k),[])
theorem mnew_ok(C:aX)(hC:aJ C P)(h1:C.fn 95=some DJ)(h2:C.fn 157=some Ov)(h3:C.fn 158=some rS)(h4:C.fn 218=some Uc):aP C.aY P 206 (Fn.run Ue):=by
 refine cv (VI C hC) λds rows r h=>?_
 obtain⟨d,p,rfl,rfl,hd,hp,rfl⟩:=aZ h
 obtain⟨x,hx⟩:=cy hd
 simp only[abP]at hp
 unfold most at hp
 refine⟨rfl,_,.cons hx .nil,ae rfl ?_⟩
 clear h hd hx
 unfold Ke Kf
 have M0:=keyS_len p
 have z64:(List.replicate 64 (D.raw (u8 0#8)))=bs (List.replicate 64 0#8):=Zp 64 0#8
 by_cases hl:64<p.length
 ·have hlI:((64:Int)<(p.length:Int))=True:=aaz (by omega)
  have hk:a7 (List.replicate 64 0#8) 0 ((((eu p).drop 0).take 32).take (min (((eu p).drop 0).take 32).length 64))=FC p:=by
   have e1:((eu p).drop 0).take 32=eu p:=by rw[abu,aay (by rw[du];exact aaL _)]
   have:=uH (l:=[]) (x:=eu p) (n:=64) (by rw[du];decide)
   simp only[aba,abr]at this
   have e2:qF [] 64=List.replicate 64 0#8:=rfl
   rw[e2]at this
   rw[e1,aay (by rw[du];exact aaL _),this,FC,aaM hl]
  simp only[↓ag,ah,simprocAttr,aB,hlI,h1,aaG]
  refine Eq.mpr (Rg _ _ _ 1 _ _ [p] rfl rfl (.cons (eB.to (.inr ⟨_,rfl⟩)) .nil) (by simp) (by simp;omega)) ?_
  have Kk:[p].flatten=p:=by simp
  rw[Kk]
  simp only[↓ag,ah,simprocAttr,el_sp,On,abu]
  have q1:((bs (eu p)).take 32).length=32:=by rw[eK,aB,aaF,du];rfl
  refine⟨q1,?_⟩
  have q2:(bs (eu p)).take 32=bs (((eu p).drop 0).take 32):=by rw[abu,eK]
  rw[q2]
  refine Eq.mpr (DD (l:=List.replicate 64 0#8) rfl (by simp)) ?_
  rw[hk]
  simp only[↓ag,ah,simprocAttr,h2,h3,h4,Rf,Ud _ _ _ _ M0]
  refine Eq.mpr (kU _ _ _ _ (oL (FC p) 54#8) (eB.to (.inr ⟨_,rfl⟩)) oa) ?_
  simp only[↓ag,ah,simprocAttr,h2,h3,h4,Rf,Ud _ _ _ _ M0]
  refine Eq.mpr (kU _ _ _ _ (oL (FC p) 92#8) (eB.to (.inr ⟨_,rfl⟩)) oa) ?_
  simp only[↓ag,ah,simprocAttr,m9]
  exact .val _ (Cf (FD p))
 ·have hlI:((64:Int)<(p.length:Int))=False:=aaI (by omega)
  have hk:a7 (List.replicate 64 0#8) 0 (p.take (min p.length 64))=FC p:=by
   have:=uH (l:=[]) (x:=p) (n:=64) (by simp;omega)
   simp only[aba,abr]at this
   have e2:qF [] 64=List.replicate 64 0#8:=rfl
   rw[e2]at this
   rw[aay (by omega),this,FC,aaE hl]
  simp only[↓ag,ah,simprocAttr,aB,hlI,h1,aaH]
  refine Eq.mpr (DD (l:=List.replicate 64 0#8) rfl (by simp)) ?_
  rw[hk]
  simp only[↓ag,ah,simprocAttr,h2,h3,h4,Rf,Ud _ _ _ _ M0]
  refine Eq.mpr (kU _ _ _ _ (oL (FC p) 54#8) (eB.to (.inr ⟨_,rfl⟩)) oa) ?_
  simp only[↓ag,ah,simprocAttr,h2,h3,h4,Rf,Ud _ _ _ _ M0]
  refine Eq.mpr (kU _ _ _ _ (oL (FC p) 92#8) (eB.to (.inr ⟨_,rfl⟩)) oa) ?_
  simp only[↓ag,ah,simprocAttr,m9]
  exact .val _ (Cf (FD p))
theorem kMNew(rows:Rows)(k:D->Rows->Prop)(d:D)(p:List (BitVec 8))(h:bd rows d p)(hp:p.length<=1099511627776):aK Ue rows k [d]=k (oc (FD p)) rows:=by
 refine(s9 h (by simpa[most]using hp) (by simp[KL,a8])).trans ?_
 simp[KK,ab]
noncomputable def Mu:Fn:=ux (bE oc) dq (λm _=>m.ok) λm p=>(oc (mr m p),[])
theorem mfeed_ok(C:aX)(hC:aJ C P)(h3:C.fn 158=some rS):aP C.aY P 207 (Fn.run Mu):=by
 refine cv (HH C hC) λds rows r h=>?_
 obtain⟨d,e,m,p,rfl,rfl,hd,he,hok,rfl⟩:=dE h
 cases aF hd
 obtain⟨x,hx⟩:=cy he
 refine⟨rfl,_,.cons (.refl _) (.cons hx .nil),ae rfl ?_⟩
 clear h hd he hx
 have ho:=Mt hok
 unfold xq xu
 simp only[oc,↓ag,ah,simprocAttr,h3]
 refine Eq.mpr (kU _ _ _ _ p (eB.to (.inr ⟨_,rfl⟩)) ho.1) ?_
 simp only[↓ag,ah,simprocAttr,m9]
 exact .val _ (Cf (mr m p))
theorem Ik(rows:Rows)(k:D->Rows->Prop)(m:Jr)(d:D)(p:List (BitVec 8))(h:bd rows d p)(hm:m.ok=true):aK Mu rows k [oc m,d]=k (oc (mr m p)) rows:=
 kCall_vb O2 (O0:=λm p=>oc (mr m p)) h hm (Cf m) (mac_view m rows) (KL _) (KK _ _)
noncomputable def Uf:Fn:=mc (bE oc) (λm=>m.ok) λm=>(aU (sumM m),[])
theorem msum_ok(C:aX)(hC:aJ C P)(h3:C.fn 158=some rS)(h4:C.fn 159=some uI):aP C.aY P 209 (Fn.run Uf):=by
 refine aH (Jk C hC) λds rows r h=>?_
 obtain⟨d,m,rfl,rfl,hd,hok,rfl⟩:=aZ h
 cases aF hd
 refine⟨rfl,ae rfl ?_⟩
 clear h hd
 have ho:=Mt hok
 have o2:=eZ (pi m.i) _ ho.2
 have hl:=Kn _ ho.1
 unfold zp zq
 simp only[oc,↓ag,ah,simprocAttr,h3,h4,Au _ _ _ ho.1]
 refine Eq.mpr (kU _ _ _ _ (((pi m.i).drop 0).take 32) (bd.arr rfl (by omega)) ho.2) ?_
 have e1:((pi m.i).drop 0).take 32=pi m.i:=by rw[abu,aay (by omega)]
 rw[e1]
 simp only[↓ag,ah,simprocAttr,h4,Au _ _ _ o2]
 exact .val _ rfl
theorem kMSum(rows:Rows)(k:D->Rows->Prop)(m:Jr)(h:m.ok=true):aK Uf rows k [oc m]=k (.agg (.ar 32 L8) (bs (sumM m))) rows:=by
 refine(bh (by simp[aV,Cf]) (r:=(aU (sumM m),[])) ?_).trans ?_
 ·exact eQ (bA O2 m) h
 ·simp[shift,ab,aU,Sh.pure]
theorem yp(m:Jr)(p q:List (BitVec 8)):mr (mr m p) q=mr m (p++q):=by simp[mr,eY]
def hmac(k p:List (BitVec 8)):List (BitVec 8):=sumM (mr (FD k) p)
end iZ
end Go.Am

namespace Go.Am
attribute [local congr] cN bP cO bQ bT ca bC bU bV cb bk cd bW cM
namespace iZ
open Go.Am.F
def fq(n:Nat):List (BitVec 8):=[BitVec.ofNat 8 (n/16777216),BitVec.ofNat 8 (n/65536),BitVec.ofNat 8 (n/256),BitVec.ofNat 8 n]
theorem O4(n:Nat):(fq n).length=4:=rfl
theorem Mv(n:Int)(m:BitVec 64)(k:D->Prop):cz .shr (it n) (u64 m) k=k (.raw (it (n.fdiv (2^(min m.toNat 64))))):=by
 simp only[cz,it,u64,aaK,IntKind.bits]
 simp
theorem oM(n m:Nat):(n:Int).fdiv (m:Int)=((n/m:Nat):Int):=by
 rw[acd _ (by omega)];rfl
def O5:Fn:=mc s6 (λn=>decide (0<=n)) λn=>eJ (fq n.toNat) false
theorem mnum_ok(C:aX)(hC:aJ C P):aP C.aY P 208 (Fn.run O5):=by
 refine aH (VJ C hC) λds rows r h=>?_
 obtain⟨d,n,rfl,rfl,hd,hp,rfl⟩:=aZ h
 cases bK hd
 simp only[aaA]at hp
 obtain⟨n,rfl⟩:=aaO hp
 refine⟨rfl,ae rfl ?_⟩
 clear h hd
 have e1:(n:Int).fdiv (2^(min 24 64))=((n/16777216:Nat):Int):=oM n 16777216
 have e2:(n:Int).fdiv (2^(min 16 64))=((n/65536:Nat):Int):=oM n 65536
 have e3:(n:Int).fdiv (2^(min 8 64))=((n/256:Nat):Int):=oM n 256
 have e4:∀m:Nat,BitVec.ofInt 8 (m:Int)=BitVec.ofNat 8 m:=λm=>rfl
 unfold Kg Kh
 simp only[↓ag,ah,simprocAttr,Mv,e1,e2,e3,e4]
 exact .own _ 0 0 _ true false _ rfl rfl (λh=>by cases h)
theorem Ug(rows:Rows)(k:D->Rows->Prop)(n:Nat):aK O5 rows k [.raw (it (n:Int))]=k (.sl L8 (0+rows.length) [] 0 4 false) (rows++[some ⟨L8,bs (fq n)⟩]):=by
 refine(bh rfl (r:=eJ (fq n) false) ?_).trans ?_
 ·rw[O5,eQ (oV _) (by simp)];rfl
 ·simp[eJ,shift,ab,Sh.pure,O4]
def sb(b:ByteArray):List (BitVec 8):=b.data.toList.map λx=>BitVec.ofNat 8 x.toNat
theorem Il(b:ByteArray):ofBytes b=bs (sb b):=by
 simp only[ofBytes,bs,sb,aes]
 refine acX λx _=>?_
 have hx:x.toNat<256:=x.toNat_lt
 simp only[Function.comp_def,u8,aa7]
 rw[abB (by omega)]
def rdStr:D->Option ByteArray
 | .raw (.string b)=>some b
 | _=>none
theorem RP{d:D}{b:ByteArray}(h:rdStr d=some b):d= .raw (.string b):=by
 unfold rdStr at h
 split at h
 ·cases h;rfl
 ·cases h
def AA:D->Option (List (List (BitVec 8)))
 | .raw (.slice none 0 0)=>some []
 | .cD s l _=>bif s== .ref then dC dq l else none
 | _=>none
theorem O6{d:D}{ls:List (List (BitVec 8))}(h:AA d=some ls):∃l e,Xq d (.cD .ref l e)/\dC dq l=some ls:=by
 unfold AA at h
 split at h
 ·cases h;exact⟨[],false,.nil _ _,rfl⟩
 ·rename_i s l e
  cases hb:(s==Sh.ref)with
  |false=>rw[hb]at h;cases h
  |true=>
   rw[hb]at h
   have:s= .ref:=by simpa using hb
   subst this
   exact⟨l,e,.refl _,h⟩
 ·cases h
def vI(ls:List (List (BitVec 8))):List (BitVec 8):=(ls.map λx=>fq x.length++x).flatten
theorem RQ(ls:List (List (BitVec 8)))(x:List (BitVec 8)):vI (ls++[x])=vI ls++fq x.length++x:=by simp[vI]
def derT(lab:ByteArray)(ls:List (List (BitVec 8))):List (BitVec 8):=fq lab.size++sb lab++fq ls.length++vI ls
def Wx(k:List (BitVec 8))(lab:ByteArray)(ls:List (List (BitVec 8))):List (BitVec 8):=hmac k (derT lab ls)
def Im(k:List (BitVec 8))(lab:ByteArray)(ls:List (List (BitVec 8))):Bool:=Nat.ble k.length 1099511627000&&(Nat.ble lab.size 1099511&&(Nat.ble ls.length 1099511&&Nat.ble ls.flatten.length 1099511627))
def Wy:Fn:=I0 dq rdStr AA Im λk lab ls=>(aU (Wx k lab ls),[])
theorem der_ok(C:aX)(hC:aJ C P)(h10:C.fn 206=some Ue)(h11:C.fn 207=some Mu)(h12:C.fn 209=some Uf)(h28:C.fn 208=some O5):aP C.aY P 198 (Fn.run Wy):=by
 refine cv (LL C hC) λds rows r h=>?_
 obtain⟨d,d1,d2,key,lab,ls,rfl,rfl,hd,he,hf,hp,rfl⟩:=fS h
 obtain⟨x,hx⟩:=cy hd
 cases RP he
 obtain⟨l,e,hn,hl⟩:=O6 hf
 simp only[Im,aav,abP]at hp
 obtain⟨hp0,Kk,tZ,hp3⟩:=hp
 obtain⟨hlen,kg⟩:=jT hl
 refine⟨rfl,_,.cons hx (.cons (.refl _) (.cons hn .nil)),ae rfl ?_⟩
 clear h hd he hx hn hf
 have PK:∀i (hi:i<ls.length),∃x,l[i]?=some x/\eB x ls[i]:=λi hi=>by
  have En:i<l.length:=by omega
  have hli:l[i]?=some l[i]:=aaw En
  exact⟨_,hli,fx (kg i _ _ hli (aaw hi))⟩
 have hfit:∀x y,eB x y->D.fits x .ref=true:=λx y hb=>by rcases hb with⟨h,_⟩|⟨e,h⟩<;>rw[h]<;>rfl
 have o1:=newM_ok key
 have o2:=tR o1 (fq lab.size)
 have o3:=tR o2 (sb lab)
 have o4:=tR o3 (fq l.length)
 unfold BO BP
 simp only[↓ag,ah,simprocAttr,h10]
 refine Eq.mpr (kMNew _ _ _ key (eB.to (.inr ⟨_,rfl⟩)) (by omega)) ?_
 simp only[↓ag,ah,simprocAttr,h11,h28,Ug,Il]
 refine Eq.mpr (Ik _ _ _ _ (fq lab.size) (bd.own rfl _ rfl) o1) ?_
 simp only[↓ag,ah,simprocAttr,h11,h28,Ug,Il]
 refine Eq.mpr (Ik _ _ _ _ (sb lab) (eB.to (.inr ⟨_,rfl⟩)) o2) ?_
 simp only[↓ag,ah,simprocAttr,h11,h28,Ug]
 refine Eq.mpr (Ik _ _ _ _ (fq l.length) (bd.own rfl _ rfl) o3) ?_
 simp only[↓ag,ah,simprocAttr,O3]
 have KZ:mr (mr (mr (FD key) (fq lab.size)) (sb lab)) (fq l.length)=mr (FD key) (fq lab.size++sb lab++fq l.length++vI (ls.take 0)):=by
  rw[yp,yp];simp[vI]
 rw[KZ]
 refine bg l.length (λi env rows=>has env [(23,.cD .ref l e),(24,.raw (it l.length)),(25,.raw (it (i:Int))),(6,.ptr (.ar 32 L8) 0 [0]),(7,.ptr S34 3 [0])]/\
  (∃z,live rows 0=some ⟨.ar 32 L8,[z]⟩)/\live rows 3=some ⟨S34,[oc (mr (FD key) (fq lab.size++sb lab++fq l.length++vI (ls.take i)))]⟩) ?_ ?_ ⟨?_,⟨_,rfl⟩,rfl⟩
 ·rintro i hi env rows ⟨hh,⟨z,r0⟩,r3⟩ R hR
  simp only[has]at hh
  obtain⟨q23,q24,q25,q6,q7,-⟩:=hh
  obtain⟨x,hx,hb⟩:=PK i (by omega)
  have e0:((i:Int)<(l.length:Int))=True:=aaz (by omega)
  have e1:((0:Int)<=(i:Int))=True:=aaz (by omega)
  have e2:=cj i (by omega)
  have hs:mr (mr (mr (FD key) (fq lab.size++sb lab++fq l.length++vI (ls.take i))) (fq ls[i].length)) ls[i]=mr (FD key) (fq lab.size++sb lab++fq l.length++vI (ls.take (i+1))):=by
   rw[yp,yp,aa2 (by omega),RQ]
   simp only[aaP]
  generalize fq lab.size++sb lab++fq l.length++vI (ls.take i)=T at*
  generalize fq lab.size++sb lab++fq l.length++vI (ls.take (i+1))=T' at*
  have hm:=tR o1 T
  have M1:=tR hm (fq ls[i].length)
  simp only[↓ag,ah,simprocAttr,aQ,q23,q24,q25,q6,q7,e0,e1,hx,hfit _ _ hb,hb.dP,r3,h11,h28,Ug,aaG]
  refine Eq.mpr (Ik _ _ _ _ (fq ls[i].length) (bd.own (wI (x:=⟨L8,bs (fq ls[i].length)⟩)) 4 rfl) hm) ?_
  simp only[↓ag,ah,simprocAttr,aQ,q23,q24,q25,q6,q7,h11]
  refine Eq.mpr (Ik _ _ _ _ ls[i] hb.to M1) ?_
  rw[hs]
  simp only[↓ag,ah,simprocAttr,aQ,q23,q24,q25,q6,q7,e2,O3,aj r3]
  exact hR _ _ ⟨by simp only[has,↓ag,ah,simprocAttr,q23,q24,q6,q7],⟨z,(aC (by decide)).trans (bG r0)⟩,od (bG r3)⟩
 ·rintro env rows ⟨hh,⟨z,r0⟩,r3⟩ R
  simp only[has]at hh
  obtain⟨q23,q24,q25,q6,q7,-⟩:=hh
  have e0:((l.length:Int)<(l.length:Int))=False:=aaI (by omega)
  have hT:fq lab.size++sb lab++fq l.length++vI (ls.take l.length)=derT lab ls:=by
   rw[derT,<-hlen,aa6]
  rw[hT]at r3
  have hm:=tR o1 (derT lab ls)
  have s0:∀x,live (rows.set 0 (some x)) 0=some x:=λx=>od r0
  simp only[↓ag,ah,simprocAttr,q23,q24,q25,q6,q7,e0,r3,h12,kMSum _ _ _ hm,r0,s0,aaH]
  exact .val _ rfl
 ·simp only[has,↓ag,ah,simprocAttr]
def fNum:Fn:=mc dq (λa=>Nat.ble 4 a.length) λa=>(.raw (it (((dt a).toNat:Nat):Int)),[])
theorem num_ok(C:aX)(hC:aJ C P):aP C.aY P 211 (Fn.run fNum):=by
 refine aH (HI C hC) λds rows r h=>?_
 obtain⟨d,a,rfl,rfl,hd,hp,rfl⟩:=aZ h
 have ha:=fx hd
 simp only[abP]at hp
 refine⟨rfl,ae rfl ?_⟩
 unfold xv xy
 have e0:∀(k:D->Rows->Prop) rows,oU (.leaf (.int .u8)) 0 rows k d=k (.b5 (.raw (u8 (a.getD 0 0#8)))) rows:=λk rows=>by have:=gP (k:=k) (rows:=rows) (n:=0) ha (by omega);simpa using this
 have e1:∀(k:D->Rows->Prop) rows,oU (.leaf (.int .u8)) 1 rows k d=k (.b5 (.raw (u8 (a.getD 1 0#8)))) rows:=λk rows=>by have:=gP (k:=k) (rows:=rows) (n:=1) ha (by omega);simpa using this
 have e2:∀(k:D->Rows->Prop) rows,oU (.leaf (.int .u8)) 2 rows k d=k (.b5 (.raw (u8 (a.getD 2 0#8)))) rows:=λk rows=>by have:=gP (k:=k) (rows:=rows) (n:=2) ha (by omega);simpa using this
 have e3:∀(k:D->Rows->Prop) rows,oU (.leaf (.int .u8)) 3 rows k d=k (.b5 (.raw (u8 (a.getD 3 0#8)))) rows:=λk rows=>by have:=gP (k:=k) (rows:=rows) (n:=3) ha (by omega);simpa using this
 simp only[↓ag,ah,simprocAttr,e0,e1,e2,e3]
 exact .val _ rfl
def fPre:Fn:=ux dq dq (λa b=>Nat.ble a.length most&&Nat.ble b.length most) λa b=>(.raw (.bool (decide (b.length<=a.length)&&decide (a.take b.length=b))),[])
theorem pre_ok(C:aX)(hC:aJ C P)(h20:C.fn 94=some DO):aP C.aY P 210 (Fn.run fPre):=by
 refine cv (BU C hC) λds rows r h=>?_
 obtain⟨d,e,a,b,rfl,rfl,hd,he,hp,rfl⟩:=dE h
 obtain⟨x,hx⟩:=cy hd
 obtain⟨y,hy⟩:=cy he
 refine⟨rfl,_,.cons hx (.cons hy .nil),ae rfl ?_⟩
 simp only[aav,abP]at hp
 unfold most at hp
 clear h hx hy hd he
 unfold rO rP
 by_cases hl:b.length<=a.length
 ·have wG:((b.length:Int)<=(a.length:Int))=True:=aaz (by omega)
  have Gu:((0:Int)<=(b.length:Int))=True:=aaz (by omega)
  simp only[↓ag,ah,simprocAttr,aB,wG,Gu,h20]
  simp only[acO,eK]
  refine Eq.mpr (Ro _ _ _ _ (a.take b.length) b (eB.to (.inr ⟨_,rfl⟩)) (eB.to (.inr ⟨_,rfl⟩)) (by rw[aaF];omega) (by omega)) ?_
  simp only[↓ag,ah,simprocAttr]
  simp only[hl,aaG,acz]
  exact .val _ rfl
 ·have wG:((b.length:Int)<=(a.length:Int))=False:=aaI (by omega)
  simp only[↓ag,ah,simprocAttr,aB,wG]
  simp only[hl,aaH,ace]
  exact .val _ rfl
theorem kPre(rows:Rows)(k:D->Rows->Prop)(d e:D)(p q:List (BitVec 8))(h:bd rows d p)(h':bd rows e q)(hp:p.length<=1099511627776)(hq:q.length<=1099511627776):aK fPre rows k [d,e]=k (.raw (.bool (decide (q.length<=p.length)&&decide (p.take q.length=q)))) rows:=by
 refine(Dl h h' (by simpa[most]using⟨hp,hq⟩) rfl).trans ?_
 simp[shift,ab]
structure zC where
 v:Int
 s:Int
 e:Int
 dg:List (BitVec 8)
abbrev SM:Sh:= .cons LI (.cons LI (.cons LI (.cons (.ar 32 L8) .nil)))
def cW(m:zC):D:= .agg SM [.raw (it m.v),.raw (it m.s),.raw (it m.e),.agg (.ar 32 L8) (bs m.dg)]
theorem Cg(x y:zC)(h:cW x=cW y):x=y:=by
 obtain⟨v,s,e,d⟩:=x
 obtain⟨v',s',e',d'⟩:=y
 unfold cW at h
 injection h with _ h
 injection h with h1 h
 injection h with h2 h
 injection h with h3 h
 injection h with h4 _
 injection h4 with _ h4
 injection h1 with h1
 injection h2 with h2
 injection h3 with h3
 cases G3.1 h1
 cases G3.1 h2
 cases G3.1 h3
 cases qE h4
 rfl
def cL(m:zC):Bool:=decide (0<=m.v)&&decide (m.v<=255)&&decide (4<=m.s)&&decide (m.s<=2048)&&decide (m.s.tmod 4=0)&&decide (0<=m.e)&&decide (m.e<m.s)&&decide (m.e.tmod 4=0)
noncomputable def DX:Fn:=mc (bE cW) (λ_=>true) λm=>(.raw (.bool (cL m)),[])
theorem right_ok (C : aX) (hC : aJ C P) : aP C.aY P 84 (Fn.run DX) := by
 refine aH (ra C hC) λds rows r h=>?_
 obtain⟨d,m,rfl,rfl,hd,hp,rfl⟩:=aZ h
 cases aF hd
 refine⟨rfl,ae rfl ?_⟩
 clear h hd
 obtain⟨v,s,e,dg⟩:=m
 unfold ky kz
 by_cases c1:0<=v
 case pos =>
  by_cases c2:v<=255
  case pos =>
   by_cases c3:4<=s
   case pos =>
    by_cases c4:s<=2048
    case pos =>
     by_cases c5:s.tmod 4=0
     case pos=>
      by_cases c6:0<=e
      case pos=>
       by_cases c7:e<s
       case pos=>
        by_cases c8:e.tmod 4=0
        case pos=>
         simp only[↓ag,ah,simprocAttr,cL,cW,c1,c2,c3,c4,c5,c6,c7,c8,aaG,aaH]
         exact .val _ rfl
        case neg=>
         simp only[↓ag,ah,simprocAttr,cL,cW,c1,c2,c3,c4,c5,c6,c7,c8,aaG,aaH]
         exact .val _ rfl
       case neg=>
        simp only[↓ag,ah,simprocAttr,cL,cW,c1,c2,c3,c4,c5,c6,c7,aaG,aaH]
        exact .val _ rfl
      case neg=>
       simp only[↓ag,ah,simprocAttr,cL,cW,c1,c2,c3,c4,c5,c6,aaG,aaH]
       exact .val _ rfl
     case neg=>
      simp only[↓ag,ah,simprocAttr,cL,cW,c1,c2,c3,c4,c5,aaG,aaH]
      exact .val _ rfl
    case neg=>
     simp only[↓ag,ah,simprocAttr,cL,cW,c1,c2,c3,c4,aaG,aaH]
     exact .val _ rfl
   case neg=>
    simp only[↓ag,ah,simprocAttr,cL,cW,c1,c2,c3,aaG,aaH]
    exact .val _ rfl
  case neg=>
   by_cases c3:4<=s
   case pos=>
    by_cases c4:s<=2048
    case pos=>
     by_cases c5:s.tmod 4=0
     case pos=>
      simp only[↓ag,ah,simprocAttr,cL,cW,c1,c2,c3,c4,c5,aaG,aaH]
      exact .val _ rfl
     case neg=>
      simp only[↓ag,ah,simprocAttr,cL,cW,c1,c2,c3,c4,c5,aaG,aaH]
      exact .val _ rfl
    case neg=>
     simp only[↓ag,ah,simprocAttr,cL,cW,c1,c2,c3,c4,aaG,aaH]
     exact .val _ rfl
   case neg=>
    simp only[↓ag,ah,simprocAttr,cL,cW,c1,c2,c3,aaG,aaH]
    exact .val _ rfl
 case neg=>
  by_cases c3:4<=s
  case pos=>
   by_cases c4:s<=2048
   case pos=>
    by_cases c5:s.tmod 4=0
    case pos=>
     simp only[↓ag,ah,simprocAttr,cL,cW,c1,c3,c4,c5,aaG,aaH]
     exact .val _ rfl
    case neg=>
     simp only[↓ag,ah,simprocAttr,cL,cW,c1,c3,c4,c5,aaG,aaH]
     exact .val _ rfl
   case neg=>
    simp only[↓ag,ah,simprocAttr,cL,cW,c1,c3,c4,aaG,aaH]
    exact .val _ rfl
  case neg=>
   simp only[↓ag,ah,simprocAttr,cL,cW,c1,c3,aaG,aaH]
   exact .val _ rfl
theorem Ci(m:zC):aT (cW m)=false:=by simp[cW,aT,aV,Sh.pure]
theorem fW(m:zC):(cW m).fits SM=true:=by simp[cW,D.fits]
theorem Io(n:Nat)(m:zC):shift n (cW m)=cW m:=by simp[cW,shift,Sh.pure]
theorem RR(rows:Rows)(k:D->Rows->Prop)(m:zC):aK DX rows k [cW m]=k (.raw (.bool (cL m))) rows:=by
 refine(bh (by simp[aV,Ci]) (r:=(.raw (.bool (cL m)),[])) ?_).trans ?_
 ·rw[DX,eQ (bA Cg m) rfl]
 ·simp[shift,ab]
def sD:List (BitVec 8):=[67#8,85#8,82#8,84#8]
def cG(m:zC):List (BitVec 8):=sD++fq m.v.toNat++fq m.s.toNat++fq m.e.toNat++m.dg
noncomputable def uQ:Fn:=mc (bE cW) (λm=>decide (m.dg.length=32)) λm=>bif cL m then(.cB [.sl L8 0 [] 0 48 false,.raw (it 0)],[some ⟨L8,bs (cG m)⟩])else(.cB [.raw (.slice none 0 0),.raw (it 1)],[])
def RS(m:zC):Nat->List (BitVec 8)
 |0=>sD
 |1=>sD++fq m.v.toNat
 |2=>sD++fq m.v.toNat++fq m.s.toNat
 | _=>sD++fq m.v.toNat++fq m.s.toNat++fq m.e.toNat
theorem yq{m:zC}(h:cL m=true):∃v s e:Nat,m.v=v/\m.s=s/\m.e=e/\v<=255/\s<=2048/\4<=s/\e<s/\s %4=0/\e %4=0:=by
 simp only[cL,aav,aaA]at h
 obtain⟨⟨⟨⟨⟨⟨⟨h1,h2⟩,h3⟩,h4⟩,h5⟩,h6⟩,h7⟩,h8⟩:=h
 obtain⟨v,hv⟩:=aaO h1
 obtain⟨s,hs⟩:=aaO (by omega:0<=m.s)
 obtain⟨e,he⟩:=aaO h6
 rw[hs]at h5
 rw[he]at h8
 have h5':(s:Int).tmod 4=((s %4:Nat):Int):=rfl
 have h8':(e:Int).tmod 4=((e %4:Nat):Int):=rfl
 rw[h5']at h5
 rw[h8']at h8
 exact⟨v,s,e,hv,hs,he,by omega,by omega,by omega,by omega,by omega,by omega⟩
theorem body_ok(C:aX)(hC:aJ C P)(hr:C.fn 84=some DX):aP C.aY P 31 (Fn.run uQ):=by
 refine aH (sv C hC) λds rows r h=>?_
 obtain⟨d,m,rfl,rfl,hd,hp,rfl⟩:=aZ h
 cases aF hd
 simp only[aaA]at hp
 refine⟨rfl,ae rfl ?_⟩
 clear h hd
 unfold lD lE
 cases hk:cL m
 ·simp only[↓ag,ah,simprocAttr,fW,hr,RR,hk,aaR]
  exact .val _ rfl
 ·obtain⟨v,s,e,hv,hs,he,b1,b2,b3,b4,-,-⟩:=yq hk
  have e1:∀n:Nat,(n:Int).fdiv (2^(min 24 64))=((n/16777216:Nat):Int):=λn=>oM n 16777216
  have e2:∀n:Nat,(n:Int).fdiv (2^(min 16 64))=((n/65536:Nat):Int):=λn=>oM n 65536
  have e3:∀n:Nat,(n:Int).fdiv (2^(min 8 64))=((n/256:Nat):Int):=λn=>oM n 256
  have e4:∀m:Nat,BitVec.ofInt 8 (m:Int)=BitVec.ofNat 8 m:=λm=>rfl
  have hg:cW m= .agg SM [.raw (it (v:Int)),.raw (it (s:Int)),.raw (it (e:Int)),.agg (.ar 32 L8) (bs m.dg)]:=by rw[cW,hv,hs,he]
  have Xw:=fW m
  have hkm:=λrows k=>RR rows k m
  rw[hk]at hkm
  rw[hg]at Xw hkm⊢
  simp only[↓ag,ah,simprocAttr,Xw,hr,hkm,aaY]
  refine bg 3 (λi env rows=>∃x,has env [(1,.ptr SM 0 [0]),(4,x),(18,.sl LI 2 [] 0 3 true),(19,.raw (it 3)),(20,.raw (it (i:Int)))]/\
   jg L8 x rows (bs (RS m i))/\live rows 0=some ⟨SM,[.agg SM [.raw (it (v:Int)),.raw (it (s:Int)),.raw (it (e:Int)),.agg (.ar 32 L8) (bs m.dg)]]⟩/\live rows 2=some ⟨LI,[.raw (it (v:Int)),.raw (it (s:Int)),.raw (it (e:Int))]⟩) ?_ ?_ ⟨.sl L8 1 [] 0 4 true,?_,.inr ⟨1,true,rfl,rfl⟩,rfl,rfl⟩
  ·rintro i hi env rows ⟨x,hh,how,r0,r2⟩ R hR
   simp only[has]at hh
   have En:i=0\/i=1\/i=2:=by omega
   have n0:=gQ how r0 (by decide)
   have n2:=gQ how r2 (by decide)
   rcases En with rfl|rfl|rfl
   all_goals
    simp only[↓ag,ah,simprocAttr,aQ,hh,r0,r2,Mv,e1,e2,e3,e4]
    refine jG how.push (by rw[aB];simp[RS,fq,sD,most]) (by rw[aB];simp[RS,fq,sD,most]) ?_
    intro x' r' how' Ns _ _
    simp only[↓ag,ah,simprocAttr,hh]
    refine hR _ _ ⟨x',?_,?_,Ns 0 _ (aj r0 _) (λex=>n0 ex _),Ns 2 _ (aj r2 _) (λex=>n2 ex _)⟩
    ·simp only[has,↓ag,ah,simprocAttr,hh]
    ·have pJ:∀n l,bs l++[.raw (u8 (BitVec.ofNat 8 (n/16777216))),.raw (u8 (BitVec.ofNat 8 (n/65536))),.raw (u8 (BitVec.ofNat 8 (n/256))),.raw (u8 (BitVec.ofNat 8 n))]=bs (l++fq n):=λn l=>by rw[<-oW];rfl
     rw[pJ]at how'
     simpa only[RS,hv,hs,he,aaK]using how'
  ·rintro env rows ⟨x,hh,how,r0,r2⟩ R
   simp only[has]at hh
   have e16:(bs m.dg).length=32:=by rw[aB,hp]
   have hE:Am.elems rows (.sl L8 0 [0,3] 0 32 true)=some (bs m.dg):=by
    simp only[Am.elems,r0]
    show some (List.take 32 ((bs m.dg).drop 0))=_
    rw[abu,aay (by omega)]
   simp only[↓ag,ah,simprocAttr,aQ,hh,r0,r2,hE,e16]
   have b16:(bs (RS m 3)).length=16:=by rw[aB];simp[RS,fq,sD]
   refine jG how (by rw[e16,b16];decide) (by rw[e16,b16];decide) ?_
   intro x' r' how' _ _ _
   simp only[↓ag,ah,simprocAttr,hh,how'.oz]
   have hb:bs (RS m 3)++bs m.dg=bs (cG m):=by rw[oW];rfl
   have hn:(bs (cG m)).length=48:=by rw[<-hb,aax,b16,e16]
   rw[hb]at how'
   rcases how' with⟨h1,-⟩|⟨r2,I7,rfl,Gu⟩
   ·rw[h1]at hn;simp at hn
   ·rw[hn]
    exact .I6 L8 r2 0 48 I7 false ⟨L8,_⟩ [.raw (it 0)] Gu rfl rfl (λh=>by cases h)
  ·simp only[has,↓ag,ah,simprocAttr]
theorem oN(m:zC)(h:m.dg.length=32):(cG m).length=48:=by simp[cG,sD,fq,h]
theorem RT(rows:Rows)(k:D->Rows->Prop)(m:zC)(h:m.dg.length=32)(hk:cL m=true):aK uQ rows k [cW m]=k (.cB [.sl L8 (0+rows.length) [] 0 48 false,.raw (it 0)]) (rows++[some ⟨L8,bs (cG m)⟩]):=by
 refine(bh (by simp[aV,Ci]) (r:=(.cB [.sl L8 0 [] 0 48 false,.raw (it 0)],[some ⟨L8,bs (cG m)⟩])) ?_).trans ?_
 ·rw[uQ,eQ (bA Cg m) (by simp[h]),hk];rfl
 ·simp[shift,bu,ab,Sh.pure]
theorem kBodyN(rows:Rows)(k:D->Rows->Prop)(m:zC)(h:m.dg.length=32)(hk:cL m=false):aK uQ rows k [cW m]=k (.cB [.raw (.slice none 0 0),.raw (it 1)]) rows:=by
 refine(bh (by simp[aV,Ci]) (r:=(.cB [.raw (.slice none 0 0),.raw (it 1)],[])) ?_).trans ?_
 ·rw[uQ,eQ (bA Cg m) (by simp[h]),hk];rfl
 ·simp[shift,bu,ab]
def fu:zC:=⟨0,0,0,uc⟩
def r8(p:List (BitVec 8)):zC:=⟨(dt (p.drop 4)).toNat,(dt (p.drop 8)).toNat,(dt (p.drop 12)).toNat,p.drop 16⟩
def dj(p:List (BitVec 8)):zC×Int:=
 bif decide (p.length=48)&&decide (p.take 4=sD)then
  (bif cL (r8 p)then(r8 p,0)else(fu,1))
 else(fu,2)
noncomputable def AB:Fn:=mc dq (λa=>Nat.ble a.length most) λp=>(.cB [cW (dj p).1,.raw (it (dj p).2)],[])
theorem RU(rows:Rows)(k:D->Rows->Prop)(x:List (BitVec 8))(e:Bool)(h:4<=x.length):aK fNum rows k [.cD L8 (bs x) e]=k (.raw (it (((dt x).toNat:Nat):Int))) rows:=by
 refine(bh rfl (eQ (wJ x e) (by simpa using h))).trans ?_
 simp[shift,ab]
theorem manD_mk(a b c:Int)(l:List (BitVec 8)):D.agg SM [.raw (it a),.raw (it b),.raw (it c),.agg (.ar 32 L8) (bs l)]=cW ⟨a,b,c,l⟩:=rfl
theorem xH:D.agg SM [.raw (it 0),.raw (it 0),.raw (it 0),.agg (.ar 32 L8) (List.replicate 32 (.raw (u8 0#8)))]=cW fu:=by rw[cW,fu,uc,Zp]
theorem parse_ok(C:aX)(hC:aJ C P)(h15:C.fn 84=some DX)(h17:C.fn 210=some fPre)(h18:C.fn 211=some fNum):aP C.aY P 201 (Fn.run AB):=by
 refine cv (DB C hC) λds rows r h=>?_
 obtain⟨d,p,rfl,rfl,hd,hp,rfl⟩:=aZ h
 obtain⟨x,hx⟩:=cy hd
 refine⟨rfl,_,.cons hx .nil,ae rfl ?_⟩
 simp only[abP]at hp
 unfold most at hp
 clear h hx hd
 unfold tD tE
 have hz:=xH
 have hfz:=fW fu
 have hT:[D.raw (u8 67#8),D.raw (u8 85#8),D.raw (u8 82#8),D.raw (u8 84#8)]=bs sD:=rfl
 by_cases hl:p.length=48
 ·have hq:dj p=if p.take 4=sD then(if cL (r8 p)then(r8 p,0)else(fu,1))else(fu,2):=by
   simp only[dj,hl,aaG,acz]
   by_cases h1:p.take 4=sD<;>cases h2:cL (r8 p)<;>simp[h1]
  have h4:(4:Nat)<=sD.length:=by decide
  simp only[↓ag,ah,simprocAttr,aB,hl,h17,hT,hz,hfz]
  refine⟨h4,Eq.mpr (kPre _ _ _ _ p sD (eB.to (.inr ⟨x,rfl⟩)) (jg.to (.inr ⟨1,true,rfl,rfl⟩)) (by omega) (by decide)) ?_⟩
  have t4:sD.length=4:=rfl
  have Gu:((4:Nat)<=p.length)=True:=aaz (by omega)
  have d4:4<=(p.drop 4).length:=by rw[aaB];omega
  have d8:4<=(p.drop 8).length:=by rw[aaB];omega
  have d12:4<=(p.drop 12).length:=by rw[aaB];omega
  have tk4:(bs (p.drop 4)).take 44=bs (p.drop 4):=aay (by rw[aB,aaB];omega)
  have tk8:(bs (p.drop 8)).take 40=bs (p.drop 8):=aay (by rw[aB,aaB];omega)
  have tk12:(bs (p.drop 12)).take 36=bs (p.drop 12):=aay (by rw[aB,aaB];omega)
  have tk16:(bs (p.drop 16)).take 32=bs (p.drop 16):=aay (by rw[aB,aaB];omega)
  simp only[t4,Gu,aaG,acz]
  by_cases ht:p.take 4=sD
  ·have hmo:∀l,D.agg SM [.raw (it ((dt (p.drop 4)).toNat:Int)),.raw (it ((dt (p.drop 8)).toNat:Int)),.raw (it ((dt (p.drop 12)).toNat:Int)),.agg (.ar 32 L8) (bs l)]=cW ⟨(dt (p.drop 4)).toNat,(dt (p.drop 8)).toNat,(dt (p.drop 12)).toNat,l⟩:=λl=>rfl
   have hmf:cW ⟨(dt (p.drop 4)).toNat,(dt (p.drop 8)).toNat,(dt (p.drop 12)).toNat,p.drop 16⟩=cW (r8 p):=rfl
   have Xw:=fW (r8 p)
   simp only[hq,ht,ab6,aaG]
   simp only[↓ag,ah,simprocAttr,aB,hl,h18,fH,tk4,tk8,tk12,tk16,RU _ _ _ _ d4,RU _ _ _ _ d8,RU _ _ _ _ d12,aaB,hmo,hmf,Xw,h15,RR]
   cases hk:cL (r8 p)
   ·simp only[↓ag,ah,simprocAttr,hz,hfz]
    exact .val _ rfl
   ·simp only[↓ag,ah,simprocAttr,Xw]
    exact .val _ rfl
  ·simp only[hq,ht,ab1,aaH]
   simp only[↓ag,ah,simprocAttr,hz,hfz]
   exact .val _ rfl
 ·have wG:((p.length:Int)=48)=False:=aaI (by omega)
  have hq:dj p=(fu,2):=by simp[dj,hl]
  rw[hq]
  simp only[↓ag,ah,simprocAttr,aB,wG,hz,hfz]
  exact .val _ rfl
theorem kParse(rows:Rows)(k:D->Rows->Prop)(d:D)(p:List (BitVec 8))(h:bd rows d p)(hp:p.length<=1099511627776):aK AB rows k [d]=k (.cB [cW (dj p).1,.raw (it (dj p).2)]) rows:=by
 refine(s9 h (by simpa[most]using hp) ?_).trans ?_
 ·simp[cW,b8,je,a8,Sh.pure]
 ·simp[shift,bu,Io,ab]
def ofS(v e:Int)(p:List (BitVec 8)):zC:=⟨v,p.length,e,eu p⟩
noncomputable def fOf:Fn:=I0 s6 s6 dq (λ_ _ p=>Nat.ble p.length 1099511627000) λv e p=>(cW (ofS v e p),[])
theorem of_ok(C:aX)(hC:aJ C P)(hs:C.fn 95=some DJ):aP C.aY P 52 (Fn.run fOf):=by
 refine cv (Jc C hC) λds rows r h=>?_
 obtain⟨d,e,f,v,en,p,rfl,rfl,hd,he,hf,hp,rfl⟩:=fS h
 cases bK hd
 cases bK he
 obtain⟨x,hx⟩:=cy hf
 refine⟨rfl,_,.cons (.refl _) (.cons (.refl _) (.cons hx .nil)),ae rfl ?_⟩
 simp only[abP]at hp
 clear h hd he hf hx
 unfold y8 y9
 have ks:=λk=>Rg [some ⟨SM,[cW fu]⟩,some ⟨.ref,[.cD L8 (bs p) x]⟩] k 1 1 true [.cD L8 (bs p) x] [p] rfl rfl (.cons (eB.to (.inr ⟨x,rfl⟩)) .nil) (by simp) (by simp;omega)
 simp only[acn,acx,aa4]at ks
 have hz:=xH
 have hfz:=fW fu
 have hmo:=manD_mk
 have Xw:=fW (ofS v en p)
 have hmf:cW ⟨v,p.length,en,eu p⟩=cW (ofS v en p):=rfl
 simp only[-List.reduceReplicate,xH]
 simp only[↓ag,ah,simprocAttr,aB,hz,hfz,hs,ks,hmo,hmf,Xw]
 exact .val _ (Ci _)
theorem kOf(rows:Rows)(k:D->Rows->Prop)(v e:Int)(d:D)(p:List (BitVec 8))(h:bd rows d p)(hp:p.length<=1099511627000):aK fOf rows k [.raw (it v),.raw (it e),d]=k (cW (ofS v e p)) rows:=by
 refine(gI (.int v) (.int e) (.bs h) (by simpa using hp) ?_ k).trans ?_
 ·simp[cW,b8,je,a8,Sh.pure]
 ·simp[Io,ab]
theorem Ip(n:Nat)(h:n<4294967296)(l:List (BitVec 8)):(dt (fq n++l)).toNat=n:=by
 have e:dt (fq n++l)=dt [BitVec.ofNat 8 (n/16777216),BitVec.ofNat 8 (n/65536),BitVec.ofNat 8 (n/256),BitVec.ofNat 8 n]:=rfl
 rw[e,Om]
 simp only[aa7]
 omega
theorem RV(m:zC)(hl:m.dg.length=32)(hk:cL m=true):dj (cG m)=(m,0):=by
 obtain⟨v,s,e,hv,hs,he,b1,b2,b3,b4,-,-⟩:=yq hk
 have d4:(cG m).drop 4=fq m.v.toNat++(fq m.s.toNat++(fq m.e.toNat++m.dg)):=by
  simp only[cG,aaP];rfl
 have d8:(cG m).drop 8=fq m.s.toNat++(fq m.e.toNat++m.dg):=by
  simp only[cG,aaP];rfl
 have d12:(cG m).drop 12=fq m.e.toNat++m.dg:=by
  simp only[cG,aaP];rfl
 have d16:(cG m).drop 16=m.dg:=by
  simp only[cG,aaP];rfl
 have t4:(cG m).take 4=sD:=by
  simp only[cG,aaP];rfl
 have hm:r8 (cG m)=m:=by
  obtain⟨v',s',e',dg⟩:=m
  simp only at hv hs he
  subst hv hs he
  simp only[r8,d4,d8,d12,d16,aaK]
  rw[Ip v (by omega),Ip s (by omega),Ip e (by omega)]
 simp only[dj,oN m hl,t4,hm,hk,aaG,acZ,aaY]
theorem parse_dg(p:List (BitVec 8)):(dj p).1.dg.length=32:=by
 unfold dj
 cases h1:decide (p.length=48)<;>cases h2:decide (p.take 4=sD)<;>simp only[acZ,adu,acG,ace,aaR,aaY]<;>try rfl
 cases cL (r8 p)<;>simp only[aaR,aaY]
 ·rfl
 ·have:=ac9 h1
  simp only[r8,aaB];omega
end iZ
end Go.Am

namespace Go.Am
attribute [local congr] cN bP cO bQ bT ca bC bU bV cb bk cd bW cM
namespace iZ
open Go.Am.F
theorem b_shlI(a:Nat)(h:a<256)(k:D->Prop):cz .shl (it (a:Int)) (u64 8#64) k=k (.raw (it ((a*256:Nat):Int))):=by
 have e:wz ((a:Int)*2^8)=((a*256:Nat):Int):=by rw[be (by omega)];omega
 show(0<=(8:Int)/\k (.raw (.int .i64 (IntKind.i64.wrap ((a:Int)*2^(min 8 64))))))=_
 rw[show IntKind.i64.wrap ((a:Int)*2^(min 8 64))=wz ((a:Int)*2^8)from rfl,e]
 simp[it]
theorem b_orI(a b:Nat)(ha:a<256)(hb:b<256)(k:D->Prop):cz .or (it ((a*256:Nat):Int)) (it (b:Int)) k=k (.raw (it ((a*256+b:Nat):Int))):=by
 have e1:(BitVec.ofInt 64 ((a*256:Nat):Int)|||BitVec.ofInt 64 (b:Int)).toNat=a*256+b:=by
  have x1:BitVec.ofInt 64 ((a*256:Nat):Int)=BitVec.ofNat 64 (a*256):=rfl
  have x2:BitVec.ofInt 64 (b:Int)=BitVec.ofNat 64 b:=rfl
  rw[x1,x2,adC,aa7,aa7,abB (by omega),abB (by omega)]
  have:=LN a b 8 (by omega)
  rw[acL]at this
  exact this
 show(IntKind.i64=IntKind.i64/\k (.raw (.int .i64 (IntKind.i64.wrap (((BitVec.ofInt 64 ((a*256:Nat):Int)|||BitVec.ofInt 64 (b:Int)).toNat:Nat):Int)))))=_
 rw[e1,show IntKind.i64.wrap ((a*256+b:Nat):Int)=wz ((a*256+b:Nat):Int)from rfl,be (by omega)]
 simp[it]
def n2I(n:Nat):List (BitVec 8):=[BitVec.ofNat 8 (n/256),BitVec.ofNat 8 n]
def jM(m:zC)(sig p:List (BitVec 8)):List (BitVec 8):=cG m++(n2I sig.length++(sig++p))
def qN(m:zC)(sig p:List (BitVec 8)):Bool:=cL m&&(decide ((p.length:Int)=m.s)&&decide (sig.length<=65535))
noncomputable def Mw:Fn:=I0 (bE cW) dq dq (λm sig p=>decide (m.dg.length=32)&&(Nat.ble sig.length 1099511627&&Nat.ble p.length 1099511627)) λm sig p=>
 bif qN m sig p then(.cB [.sl L8 0 [] 0 (jM m sig p).length false,.raw (it 0)],[some ⟨L8,bs (jM m sig p)⟩])else(.cB [.raw (.slice none 0 0),.raw (it 1)],[])
theorem kBJoin(rows:Rows)(k:D->Rows->Prop)(r n:Nat)(ex:Bool)(l:List D)(ls:List (List (BitVec 8)))(hl:live rows r=some ⟨.ref,l⟩)(hn:l.length=n)
  (hv:aW (λx y=>bd rows x y) l ls)(hp:ls.length<=1099511627776)(tZ:ls.flatten.length<=1099511627776):aK DH rows k [.sl .ref r [] 0 n ex,.raw (.slice none 0 0)]=k (.sl L8 (0+rows.length) [] 0 ls.flatten.length false) (rows++[some ⟨L8,bs ls.flatten⟩]):=by
 refine(kn (.parts hl hn hv) (.raw (a:=()) rfl) (by simp only[aav,abP];exact⟨hp,tZ⟩) (by simp[eJ,b8,a8,Sh.pure]) k).trans ?_
 simp[eJ,shift,ab,Sh.pure]
theorem image_ok(C:aX)(hC:aJ C P)(h7:C.fn 31=some uQ)(hj:C.fn 114=some DH):aP C.aY P 55 (Fn.run Mw):=by
 refine cv (Dr C hC) λds rows r h=>?_
 obtain⟨d,e,f,m,sig,p,rfl,rfl,hd,he,hf,hp,rfl⟩:=fS h
 cases aF hd
 obtain⟨x,hx⟩:=cy he
 obtain⟨y,hy⟩:=cy hf
 refine⟨rfl,_,.cons (.refl _) (.cons hx (.cons hy .nil)),ae rfl ?_⟩
 simp only[aav,aaA,abP]at hp
 obtain⟨hm,hs,pJ⟩:=hp
 clear h hd he hf hx hy
 unfold tz tA
 have Xw:=fW m
 have gs:(cW m).get [1]=some (.raw (it m.s)):=rfl
 cases hk:cL m
 ·have kb:=λrows k=>kBodyN rows k m hm hk
  have hi:qN m sig p=false:=by simp[qN,hk]
  simp only[↓ag,ah,simprocAttr,Xw,h7,kb,hi,aaR]
  exact .val _ rfl
 ·have kb:=λrows k=>RT rows k m hm hk
  by_cases c1:(p.length:Int)=m.s
  ·by_cases c2:sig.length<=65535
   ·have hi:qN m sig p=true:=by simp[qN,hk,c1,c2]
    have c2':(65535<(sig.length:Int))=False:=aaI (by omega)
    have e8:((sig.length:Int).fdiv (2^(min 8 64)))=((sig.length/256:Nat):Int):=oM sig.length 256
    have e4:∀m:Nat,BitVec.ofInt 8 (m:Int)=BitVec.ofNat 8 m:=λm=>rfl
    have b48:=oN m hm
    simp only[↓ag,ah,simprocAttr,Xw,h7,kb,hi,aaY,aB,gs,c1,c2',Mv,e8,e4,hj]
    refine Eq.mpr (kBJoin _ _ _ 4 _ _ [cG m,n2I sig.length,sig,p] rfl rfl (.cons (bd.own rfl 48 b48.symm) (.cons (bd.own (l:=n2I sig.length) rfl 2 rfl) (.cons (eB.to (.inr ⟨x,rfl⟩)) (.cons (eB.to (.inr ⟨y,rfl⟩)) .nil)))) (by simp) (by simp[b48,n2I];omega)) ?_
    have my:[cG m,n2I sig.length,sig,p].flatten=jM m sig p:=by simp[jM]
    rw[my]
    simp only[↓ag,ah,simprocAttr]
    exact .I6 L8 _ 0 _ false false _ [.raw (it 0)] rfl rfl rfl (λh=>by cases h)
   ·have hi:qN m sig p=false:=by simp[qN,c2]
    have c2':(65535<(sig.length:Int))=True:=aaz (by omega)
    simp only[↓ag,ah,simprocAttr,Xw,h7,kb,hi,aaR,aB,gs,c1,c2']
    exact .val _ rfl
  ·have hi:qN m sig p=false:=by simp[qN,c1]
   simp only[↓ag,ah,simprocAttr,Xw,h7,kb,hi,aaR,aB,gs,c1]
   exact .val _ rfl
theorem kImage(rows:Rows)(k:D->Rows->Prop)(m:zC)(d e:D)(sig p:List (BitVec 8))(hm:m.dg.length=32)(h:bd rows d sig)(h':bd rows e p)(hs:sig.length<=1099511627)(hp:p.length<=1099511627)(hi:qN m sig p=true):
  aK Mw rows k [cW m,d,e]=k (.cB [.sl L8 (0+rows.length) [] 0 (jM m sig p).length false,.raw (it 0)]) (rows++[some ⟨L8,bs (jM m sig p)⟩]):=by
 refine(gI (.agg rfl (bA Cg m)) (.bs h) (.bs h') (by simp[hm,hs,hp]) ?_ k).trans ?_
 ·rw[hi];simp[b8,je,a8,Sh.pure]
 ·rw[hi];simp[shift,bu,ab,Sh.pure]
def fD(q:List (BitVec 8)):Nat:=(q.getD 48 0#8).toNat*256+(q.getD 49 0#8).toNat
def cV(q:List (BitVec 8)):zC×List (BitVec 8)×List (BitVec 8)×Int:=
 bif decide (q.length<50)then(fu,[],[],2)else
 bif decide ((dj (q.take 48)).2≠0)then(fu,[],[],(dj (q.take 48)).2)else
 bif decide ((q.length:Int)<50+fD q+(dj (q.take 48)).1.s)then(fu,[],[],2)else
 ((dj (q.take 48)).1,(q.drop 50).take (fD q),(q.drop (50+fD q)).take (dj (q.take 48)).1.s.toNat,0)
theorem parse_s(p:List (BitVec 8))(h:(dj p).2=0):∃s:Nat,(dj p).1.s=(s:Int)/\s<=2048:=by
 unfold dj at h⊢
 cases h1:decide (p.length=48)<;>cases h2:decide (p.take 4=sD)<;>rw[h1,h2]at h<;>simp only[acZ,adu,acG,ace,aaR,aaY]at h⊢<;>try (exact absurd h (by decide))
 cases h3:cL (r8 p)<;>rw[h3]at h<;>simp only[aaR,aaY]at h⊢
 ·exact absurd h (by decide)
 ·obtain⟨v,s,e,hv,hs,he,b1,b2,b3,b4,-,-⟩:=yq h3
  exact⟨s,hs,b2⟩
theorem ownMk{rows:Rows}{r n:Nat}{ex:Bool}{l:List (BitVec 8)}(h:live rows r=some ⟨L8,bs l⟩)(hn:n=l.length):jg L8 (.sl L8 r [] 0 n ex) rows (bs l):=by
 subst hn
 exact .inr ⟨r,ex,by rw[aB],h⟩
def Read1(rows aa:Rows)(q:List (BitVec 8))(d:D):Prop:=∃L d1 d2,aa=rows++L/\d= .cB [cW (cV q).1,d1,d2,.raw (it (cV q).2.2.2)]/\jg L8 d1 aa (bs (cV q).2.1)/\jg L8 d2 aa (bs (cV q).2.2.1)
theorem read_run(C:aX){rows:Rows}{r n:Nat}{ex:Bool}{q:List (BitVec 8)}(hl:live rows r=some ⟨L8,bs q⟩)(hn:n=q.length)(hq:q.length<=1099511627){K:D->Rows->Prop}
  (h13:C.fn 201=some AB)(h30:C.fn 73=some uJ)
  (h:∀d aa,Read1 rows aa q d->K d aa):aG C 1 hU gZ [.sl L8 r [] 0 n ex] rows K:=by
 subst hn
 refine ae rfl ?_
 unfold gZ hU
 simp only[-List.reduceReplicate,xH]
 have hfz:=fW fu
 have hf:=fW
 by_cases c1:q.length<50
 ·have Wl:((q.length:Int)<50)=True:=aaz (by omega)
  have hr:cV q=(fu,[],[],2):=by unfold cV;rw[abv c1];rfl
  have fin:∀L,K (.cB [cW fu,.raw (.slice none 0 0),.raw (.slice none 0 0),.raw (it 2)]) (rows++L):=λL=>h _ _ ⟨L,_,_,rfl,by rw[hr],by rw[hr];exact .inl ⟨rfl,rfl⟩,by rw[hr];exact .inl ⟨rfl,rfl⟩⟩
  simp only[↓ag,ah,simprocAttr,aQ,Wl,hf]
  exact fin _
 ·have Wl:((q.length:Int)<50)=False:=aaI (by omega)
  have c48:(48:Int)<=(q.length:Int):=by omega
  have b48:∀L e,bd (rows++L) (.sl L8 r [] 0 48 e) (q.take 48):=λL e=>by
   have:=bd.sub (off:=0) (len:=48) (ex:=e) (aj hl L) (by omega)
   rwa [abu]at this
  have kp:=λL e k=>kParse (rows++L) k (.sl L8 r [] 0 48 e) (q.take 48) (b48 L e) (by rw[aaF];omega)
  simp only[↓ag,ah,simprocAttr,aQ,Wl,c48,hf,h13,kp]
  by_cases c2:(dj (q.take 48)).2=0
  ·obtain⟨s,hs,uZ⟩:=parse_s _ c2
   have gs:(cW (dj (q.take 48)).1).get [1]=some (.raw (it (s:Int))):=by rw[<-hs];rfl
   have g48:=nX (l:=q) (i:=48) (by omega)
   have g49:=nX (l:=q) (i:=49) (by omega)
   have i48:((48:Int)<(q.length:Int))=True:=aaz (by omega)
   have i49:((49:Int)<(q.length:Int))=True:=aaz (by omega)
   have t48:(q.getD 48 0#8).toNat<256:=(q.getD 48 0#8).isLt
   have t49:(q.getD 49 0#8).toNat<256:=(q.getD 49 0#8).isLt
   have sh8:=λk=>b_shlI _ t48 k
   have or8:=λk=>b_orI _ _ t48 t49 k
   have sgn:(q.getD 48 0#8).toNat*256+(q.getD 49 0#8).toNat=fD q:=rfl
   have sgb:fD q<65536:=by unfold fD;omega
   have w1:wz ((fD q:Int)+(s:Int))=((fD q+s:Nat):Int):=by rw[be (by omega)];omega
   have hlA:=λL=>aj hl L
   have c50:(50:Int)<=(q.length:Int):=by omega
   simp only[↓ag,ah,simprocAttr,aQ,c2,hf,hlA,g48,g49,i48,i49,sh8,or8,sgn,gs,w1,c50]
   by_cases c3:(q.length:Int)<50+(fD q:Int)+(s:Int)
   ·have hr:cV q=(fu,[],[],2):=by
     unfold cV
     rw[aaX c1,c2,hs,abv c3]
     rfl
    have fin:∀L,K (.cB [cW fu,.raw (.slice none 0 0),.raw (.slice none 0 0),.raw (it 2)]) (rows++L):=λL=>h _ _ ⟨L,_,_,rfl,by rw[hr],by rw[hr];exact .inl ⟨rfl,rfl⟩,by rw[hr];exact .inl ⟨rfl,rfl⟩⟩
    have RW:(((q.length-50:Nat):Int)<((fD q+s:Nat):Int))=True:=aaz (by omega)
    simp only[↓ag,ah,simprocAttr,aQ,RW,hf]
    exact fin _
   ·have hr:cV q=((dj (q.take 48)).1,(q.drop 50).take (fD q),(q.drop (50+fD q)).take s,0):=by
     unfold cV
     rw[aaX c1,c2,hs,aaX c3]
     rfl
    have fin:∀L d1 d2,jg L8 d1 (rows++L) (bs ((q.drop 50).take (fD q)))->jg L8 d2 (rows++L) (bs ((q.drop (50+fD q)).take s))->K (.cB [cW (dj (q.take 48)).1,d1,d2,.raw (it 0)]) (rows++L):=λL d1 d2 k1 k2=>h _ _ ⟨L,_,_,rfl,by rw[hr],by rw[hr];exact k1,by rw[hr];exact k2⟩
    have RW:(((q.length-50:Nat):Int)<((fD q+s:Nat):Int))=False:=aaI (by omega)
    have d0:(0:Int)<=(fD q:Int):=by omega
    have d1:(fD q:Int)<=((q.length-50:Nat):Int):=by omega
    have d2:(fD q:Int)<=((fD q+s:Nat):Int):=by omega
    have d3:((fD q+s:Nat):Int)<=((q.length-50:Nat):Int):=by omega
    have d4:fD q+s-fD q=s:=by omega
    have l1:((q.drop 50).take (fD q)).length=fD q:=by rw[aaF,aaB];omega
    have l2:((q.drop (50+fD q)).take s).length=s:=by rw[aaF,aaB];omega
    have kc1:=λL e k=>L3 (rows++L) k (.sl L8 r [] 50 (fD q) e) ((q.drop 50).take (fD q)) (bd.sub (aj hl L) (by omega)) (by omega)
    have kc2:=λL e k=>L3 (rows++L) k (.sl L8 r [] (50+fD q) s e) ((q.drop (50+fD q)).take s) (bd.sub (aj hl L) (by omega)) (by omega)
    rw[l1]at kc1
    rw[l2]at kc2
    simp only[↓ag,ah,simprocAttr,aQ,RW,hf,d0,d1,acO,h30,kc1]
    simp only[↓ag,ah,simprocAttr,aQ,hf,gs,w1,d0,d1,d2,d3,d4,h30,kc2]
    refine fin _ _ _ ?_ ?_
    ·exact ownMk (by rw[cg];rfl) l1.symm
    ·exact ownMk (by rw[cg];rfl) l2.symm
  ·have hr:cV q=(fu,[],[],(dj (q.take 48)).2):=by
    unfold cV
    rw[aaX c1,abv c2]
    rfl
   have fin:∀L,K (.cB [cW fu,.raw (.slice none 0 0),.raw (.slice none 0 0),.raw (it (dj (q.take 48)).2)]) (rows++L):=λL=>h _ _ ⟨L,_,_,rfl,by rw[hr],by rw[hr];exact .inl ⟨rfl,rfl⟩,by rw[hr];exact .inl ⟨rfl,rfl⟩⟩
   simp only[↓ag,ah,simprocAttr,aQ,c2,hf]
   exact fin _
theorem read_img(m:zC)(sig p:List (BitVec 8))(hm:m.dg.length=32)(hi:qN m sig p=true):cV (jM m sig p)=(m,sig,p,0):=by
 have hi':=hi
 unfold qN at hi'
 simp only[aav,aaA]at hi'
 obtain⟨hk,hs,hg⟩:=hi'
 have b48:=oN m hm
 have t48:(jM m sig p).take 48=cG m:=by unfold jM;rw[<-b48,aa3]
 have d48:(jM m sig p).drop 48=n2I sig.length++(sig++p):=by unfold jM;rw[<-b48,abi]
 have d50:(jM m sig p).drop 50=sig++p:=by
  rw[show(50:Nat)=48+2 from rfl,<-aby,d48];rfl
 have g48:(jM m sig p).getD 48 0#8=BitVec.ofNat 8 (sig.length/256):=by
  rw[aaD,show(48:Nat)=48+0 from rfl,<-abh,d48];rfl
 have g49:(jM m sig p).getD 49 0#8=BitVec.ofNat 8 sig.length:=by
  rw[aaD,show(49:Nat)=48+1 from rfl,<-abh,d48];rfl
 have hN:fD (jM m sig p)=sig.length:=by
  unfold fD
  rw[g48,g49]
  simp only[aa7]
  omega
 have hL:(jM m sig p).length=50+sig.length+p.length:=by
  unfold jM n2I
  simp only[aax,aa0,aba,b48]
  omega
 have d2:(jM m sig p).drop (50+sig.length)=p:=by rw[<-aby,d50,abi]
 unfold cV
 rw[t48,RV m hm hk,hN,hL,d50,d2]
 rw[aaX (by omega)]
 simp only[aaR,ne_eq,ada,aaH]
 rw[aaX (by omega)]
 simp only[aaR]
 rw[<-hs,aaK,aa3,aa6]
theorem read_len(q:List (BitVec 8)):(cV q).2.1.length<=q.length/\(cV q).2.2.1.length<=q.length:=by
 unfold cV
 cases decide (q.length<50)
 ·cases decide ((dj (q.take 48)).2≠0)
  ·cases decide ((q.length:Int)<50+fD q+(dj (q.take 48)).1.s)
   ·simp only[aaR,aaF,aaB];omega
   ·simp
  ·simp
 ·simp
def FE(bi:List (BitVec 8))(least:Int)(q:List (BitVec 8)):Int:=
 if(cV q).2.2.2≠0 then(cV q).2.2.2 else if vX bi (q.take 48) (cV q).2.1≠0 then vX bi (q.take 48) (cV q).2.1 else
 if(cV q).1.v<least then 15 else if eu (cV q).2.2.1≠(cV q).1.dg then 16 else 0
theorem Uh(q:List (BitVec 8)):(cV q).1.dg.length=32:=by
 unfold cV
 cases decide (q.length<50)<;>cases decide ((dj (q.take 48)).2≠0)<;>cases decide ((q.length:Int)<50+fD q+(dj (q.take 48)).1.s)<;>first|exact parse_dg _|rfl
theorem Ui{q:List (BitVec 8)}(h:(cV q).2.2.2=0):50<=q.length:=by
 rcases aa1 q.length 50 with c|c
 ·unfold cV at h
  rw[abv c]at h
  cases h
 ·exact c
theorem O7(p:List (BitVec 8))(h:(dj p).2=0):cL (dj p).1=true:=by
 unfold dj at h⊢
 cases h1:decide (p.length=48)<;>cases h2:decide (p.take 4=sD)<;>rw[h1,h2]at h<;>simp only[acZ,adu,acG,ace,aaR,aaY]at h⊢<;>try (exact absurd h (by decide))
 cases h3:cL (r8 p)<;>rw[h3]at h<;>simp only[aaR,aaY]at h⊢
 ·exact absurd h (by decide)
 ·exact h3
theorem DY{q:List (BitVec 8)}(h:(cV q).2.2.2=0):cL (cV q).1=true/\∃s:Nat,(cV q).1.s=(s:Int)/\4<=s/\s<=2048/\(cV q).2.2.1=sub q (50+fD q) s/\50+fD q+s<=q.length:=by
 unfold cV at h⊢
 cases h1:decide (q.length<50)<;>rw[h1]at h<;>simp only[aaR,aaY]at h⊢
 ·cases h2:decide ((dj (q.take 48)).2≠0)<;>rw[h2]at h<;>simp only[aaR,aaY]at h⊢
  ·have hp:=O7 (q.take 48) (by simpa using h2)
   cases h3:decide ((q.length:Int)<50+fD q+(dj (q.take 48)).1.s)<;>rw[h3]at h<;>simp only[aaR,aaY]at h⊢
   ·obtain⟨v,s,e,hv,hs,he,b1,b2,b3,b4,-,-⟩:=yq hp
    rw[hs]at h3⊢
    simp only[abX]at h3
    refine⟨hp,s,rfl,?_,b2,by rw[aaK,sub],by omega⟩
    simp only[cL,aav,aaA]at hp
    omega
   ·exact absurd h (by decide)
  ·exact absurd h (by simpa using h2)
 ·exact absurd h (by decide)
theorem jg.Iq{s s':Sh}{d:D}{rows:Rows}{els els':List D}{q:Nat}{x:Option Row}(h:jg s d rows els)(hq:live rows q=some ⟨s',els'⟩)(hs:s'≠s):jg s d (rows.set q x) els:=by
 rcases h with⟨h1,h2⟩|⟨r,ex,h1,h2⟩
 ·exact .inl ⟨h1,h2⟩
 ·refine .inr ⟨r,ex,h1,?_⟩
  rw[aC]
  ·exact h2
  ·rintro rfl
   rw[hq]at h2
   injection h2 with h2
   injection h2 with h2 _
   exact hs h2
theorem RX(C C1:aX)(nR:C.fn 182=none)(rR:C.dO 182=some (aG C1 1 hU gZ))(h13:C1.fn 201=some AB)(h30:C1.fn 73=some uJ)
  (hV:C.fn 88=some ym)(hS:C.fn 95=some DJ){rows:Rows}{r n:Nat}{ex:Bool}{q bi:List (BitVec 8)}{dp:D}{least:Int}(hl:live rows r=some ⟨L8,bs q⟩)(hn:n=q.length)(hq:q.length<=10000)(hp:∀L,bd (rows++L) dp bi)(tZ:bi.length<=1000){K:D->Rows->Prop}
  (h0:FE bi least q=0->∀aa d,bO rows aa->jg L8 d aa (bs (cV q).2.2.1)->K (.cB [cW (cV q).1,d,.raw (it 0)]) aa)
  (h1:FE bi least q≠0->∀aa,bO rows aa->K (.cB [cW fu,.raw (.slice none 0 0),.raw (it (FE bi least q))]) aa):
  aG C 3 iQ iP [dp,.raw (it least),.sl L8 r [] 0 n ex] rows K:=by
 subst hn
 refine ae rfl ?_
 unfold iP iQ
 simp only[-List.reduceReplicate,xH]
 simp only[-List.reduceReplicate,eG]
 have hzm:D.agg SM [.raw (it 0),.raw (it 0),.raw (it 0),.agg (.ar 32 L8) (bs uc)]=cW fu:=rfl
 have hf:=fW
 simp only[↓ag,ah,simprocAttr,aQ,nR,rR]
 refine read_run C1 (aj hl _) rfl (by omega) h13 h30 ?_
 rintro _ R1 ⟨L,d1,d2,rfl,rfl,hO1,hO2⟩
 have PQ:bO rows (rows++[some ⟨SM,[cW fu]⟩]++L):=(bO.app _ _).trans (bO.app _ _)
 have hpL:∀L',bd (rows++[some ⟨SM,[cW fu]⟩]++L++L') dp bi:=λL'=>by rw[aaP,aaP];exact hp _
 have KZ:live (rows++[some ⟨SM,[cW fu]⟩]++L) rows.length=some ⟨SM,[cW fu]⟩:=aj (by rw[bx];rfl) _
 generalize rows++[some ⟨SM,[cW fu]⟩]++L=R at*
 have wG:=PQ _ _ hl
 have rA:=λL'=>aj KZ L'
 have AI:=Uh q
 obtain⟨Xt,uZ⟩:=read_len q
 have hlen:=@Ui q
 have gv:∀m,(cW m).get [0]=some (.raw (it m.v)):=λ_=>rfl
 have gd:∀m,(cW m).get [3]=some (.agg (.ar 32 L8) (bs m.dg)):=λ_=>rfl
 unfold FE at h0 h1
 generalize hR:cV q=I at*
 obtain⟨m,sg,p,E⟩:=I
 simp only at h0 h1 hO1 hO2 AI Xt uZ hlen
 have nt2:=hO2.oz
 have qW:∀L' x,live ((R++L').set rows.length (some x)) rows.length=some x:=λL' x=>aE (rA L')
 have fin:∀L',bO rows ((R++L').set rows.length (some ⟨SM,[cW fu]⟩)):=λL'=>(PQ.trans (bO.app R L')).set (aaL _) _
 by_cases c1:E=0
 ·subst c1
  have hq50:=hlen rfl
  have e48:((48:Int)<=((q.length:Nat):Int))=True:=aaz (by omega)
  simp only[ne_eq,ada,ab1]at h0 h1
  have kV:=λL' pA k=>kVerify (R++L') k dp (.sl L8 r [] 0 48 pA) d1 bi (q.take 48) sg (hpL _) (by
   have:=bd.sub (rows:=R++L') (off:=0) (len:=48) (ex:=pA) (aj wG _) (by omega)
   rwa [abu]at this) hO1.push.to (by omega) (by rw[aaF];omega) (by omega)
  generalize hVe:vX bi (q.take 48) sg=V at*
  by_cases c2:V=0
  ·subst c2
   simp only[ada,ab1]at h0 h1
   by_cases c3:m.v<least
   ·have RW:(m.v<least)=True:=aaz c3
    rw[aaM c3]at h0 h1
    simp only[↓ag,ah,simprocAttr,aQ,hf,hV,kV,e48,RW,gv,hzm,nt2,rA,qW]
    exact h1 (by decide) _ (fin _)
   ·have RW:(m.v<least)=False:=aaI c3
    rw[aaE c3]at h0 h1
    simp only[↓ag,ah,simprocAttr,aQ,hf,hV,kV,e48,RW,gv,gd,hzm,nt2,hS,rA,qW,Ko hO2]
    refine Eq.mpr (Rg _ _ _ _ _ _ [p] (by rw[cg];rfl) rfl (.cons hO2.push.to .nil) (by simp) (by simp;omega)) ?_
    have hsum:(eu [p].flatten)=eu p:=by simp
    rw[hsum]
    have hq:=L4 (eu p) m.dg (du p) AI
    by_cases c4:eu p=m.dg
    ·rw[abv c4]at hq
     simp only[c4,ada,ab1]at h0 h1
     simp only[↓ag,ah,simprocAttr,aQ,hf,gd,hq,nt2,rA,qW]
     exact h0 trivial _ d2 ((PQ.trans (bO.app _ _)).set (aaL _) _) (jg.Iq hO2.push (rA _) (by decide))
    ·rw[aaX c4]at hq
     rw[aaM c4]at h0 h1
     simp only[↓ag,ah,simprocAttr,aQ,hf,gd,hq,nt2,rA,qW,hzm]
     exact h1 (by decide) _ (fin _)
  ·have c2':(V=0)=False:=aaI c2
   rw[aaM c2]at h0 h1
   simp only[↓ag,ah,simprocAttr,aQ,hf,hV,kV,e48,c2',hzm,rA,qW]
   exact h1 c2 _ (fin _)
 ·have Wl:(E=0)=False:=aaI c1
  rw[aaM c1]at h0 h1
  simp only[↓ag,ah,simprocAttr,aQ,hf,Wl,hzm,rA,qW]
  exact h1 c1 _ (fin _)
abbrev SVw:Sh:= .cons LI (.cons SM (.cons .ref .nil))
def yS(e:Int)(m:zC)(p:D):D:= .agg SVw [.raw (it e),cW m,p]
def dG(x bi:List (BitVec 8))(least:Int)(i:Nat):Int:=FE bi least (sub x (4096*i) 4096)
def iI(x:List (BitVec 8))(i:Nat):zC×List (BitVec 8)×List (BitVec 8)×Int:=cV (sub x (4096*i) 4096)
def Wz(x bi:List (BitVec 8))(least:Int)(i:Nat):D×Rows:=
 if dG x bi least i=0 then(yS 0 (iI x i).1 (.sl L8 0 [] 0 (iI x i).2.2.1.length false),[some ⟨L8,bs (iI x i).2.2.1⟩])else(yS (dG x bi least i) fu (.raw (.slice none 0 0)),[])
noncomputable def EZ:Fn:=Xu (bE vY) dq s6 s6 (λK p _ i=>decide (mq K=10240)&&decide (p.length<=1000)&&(decide (i=0)||decide (i=1))) λK p l i=>Wz (nP K) p l i.toNat
theorem look_ok(C C1 C2:aX)(hC:aJ C P)(j7:C.fn 130=some B1)(hrd:C.fn 23=some vH)(n0:C.fn 131=none)(r0:C.dO 131=some (aG C1 3 iQ iP))
  (nR:C1.fn 182=none)(rR:C1.dO 182=some (aG C2 1 hU gZ))(h13:C2.fn 201=some AB)(h30:C2.fn 73=some uJ)(hV:C1.fn 88=some ym)(hS:C1.fn 95=some DJ):
  aP C.aY P 68 (Fn.run EZ):=by
 refine cv (Je C hC) λds rows r h=>?_
 obtain⟨d0,d1,d2,d3,K,bi,least,i,rfl,rfl,hd,he,hf,hg,hp,rfl⟩:=tL h
 cases aF hd
 obtain⟨ex,hx⟩:=cy he
 cases bK hf
 cases bK hg
 simp only[aav,abN,aaA]at hp
 obtain⟨⟨hl,pJ⟩,hi⟩:=hp
 refine⟨rfl,_,.cons (.refl _) (.cons hx (.cons (.refl _) (.cons (.refl _) .nil))),ae rfl ?_⟩
 clear h hd he hf hg hx
 unfold zc zd
 obtain⟨j,rfl,hj⟩:∃j:Nat,i=(j:Int)/\j<=1:=⟨i.toNat,by omega,by omega⟩
 rcases K with _|⟨x,ek⟩
 ·simp[mq]at hl
 simp only[mq]at hl
 simp only[-List.reduceReplicate,xH]
 have hsb:jK (j:Int)=true:=by unfold jK;rcases(by omega:j=0\/j=1)with rfl|rfl<;>rfl
 have ks:=λrows k=>ZN rows k (j:Int)
 rw[hsb]at ks
 have e1:wz (4096*(j:Int))=((4096*j:Nat):Int):=by rw[be (by omega)];omega
 have e0:lW (some (x,ek)) ((4096*j:Nat):Int) 4096=0:=by simp only[lW];rw[aaE (by omega)]
 have kr:=λrows k=>aao (Mn rows (some (x,ek))) (by simp[mq];omega) ((4096*j:Nat):Int) 4096 k
 simp only[Ih,aaM e0,nP,aaK,shift,bu,ab,Sh.pure,aaY,show(4096:Int).toNat=4096 from rfl]at kr
 simp only[aaK,nP]
 have hq:(sub x (4096*j) 4096).length=4096:=jj (by omega)
 have hf:=fW
 have hvz:D.agg SVw [.raw (it 0),cW fu,.raw (.slice none 0 0)]=yS 0 fu (.raw (.slice none 0 0)):=rfl
 have hvf:∀e m d,d.fits .ref=true->(yS e m d).fits SVw=true:=λ_ _ _ _=>rfl
 have hO0:FE bi least (sub x (4096*j) 4096)=0->Wz x bi least j=(yS 0 (cV (sub x (4096*j) 4096)).1 (.sl L8 0 [] 0 (cV (sub x (4096*j) 4096)).2.2.1.length false),[some ⟨L8,bs (cV (sub x (4096*j) 4096)).2.2.1⟩]):=λh=>aaM h
 have hO1:FE bi least (sub x (4096*j) 4096)≠0->Wz x bi least j=(yS (FE bi least (sub x (4096*j) 4096)) fu (.raw (.slice none 0 0)),[]):=λh=>aaE h
 generalize Wz x bi least j=O at*
 simp only[vY]at kr⊢
 generalize sub x (4096*j) 4096=q at*
 simp only[↓ag,ah,simprocAttr,aQ,j7,ks,e1,hrd,kr,n0,r0]
 refine RX C1 C2 nR rR h13 h30 hV hS (q:=q) rfl hq.symm (by omega) (λL=>eB.to (.inr ⟨ex,rfl⟩)) pJ (λhz aa d hK hO=>?_) (λhz aa hK=>?_)
 ·rw[hO0 hz]
  obtain⟨Tz,s,Xt,uZ,hs3,hs4,hs5⟩:=DY (q:=q) (by
   unfold FE at hz
   split at hz
   ·rename_i h;exact absurd hz h
   ·rename_i h;simpa using h)
  have hpl2:(cV q).2.2.1.length=s:=by rw[hs4];exact jj hs5
  have KZ:=hK 0 _ rfl
  generalize (cV q).2.2.1=p at*
  generalize (cV q).1=m at*
  have hnt:=hO.oz
  have hof:=Ko hO
  have rA:=λL=>aj KZ L
  have qW:=λL x=>aE (y:=x) (rA L)
  simp only[↓ag,ah,simprocAttr,aQ,hf,rA,qW,hnt,hof,yS]
  rcases jg.Iq (q:=0) (x:=some ⟨SVw,[.agg SVw [.raw (it 0),cW m,d]]⟩) (hO.push (more:=[some ⟨SM,[cW m]⟩])) (rA _) (by decide)with⟨h1,rfl⟩|⟨r,pA,rfl,E9⟩
  ·have:p.length=0:=by rw[<-aB,h1];rfl
   omega
  ·simp only[aB]at E9⊢
   exact .ownA _ [_,_] _ _ _ _ _ _ _ [] E9 rfl rfl rfl (λh=>by cases h)
 ·rw[hO1 hz]
  have KZ:=hK 0 _ rfl
  have rA:=λL=>aj KZ L
  have qW:=λL x=>aE (y:=x) (rA L)
  simp only[↓ag,ah,simprocAttr,aQ,hf,rA,qW,yS]
  exact .val _ rfl
def Uj(p:List (BitVec 8)):JS:=⟨dt (p.drop 4),(p.getD 8 0#8).toNat,((p.getD 9 0#8).toNat:Int)-1,(p.getD 10 0#8).toNat⟩
def xI:JS:=⟨0#32,0,0,0⟩
def bZ(p:List (BitVec 8)):JS×Bool:=
 bif decide (p.length=32)&&(cR (Uj p)&&decide (dh (Uj p)=p))then(Uj p,true)else(xI,false)
theorem of_bytes(s:JS)(h:cR s=true):Uj (dh s)=s:=by
 obtain⟨a,t,n,ha,ht,hn,b1,b2,b3⟩:=OF h
 have g:∀i,i<12->(dh s).getD i 0#8=(B2 s).getD i 0#8:=λi hi=>by
  rw[dh,aaD,aaQ (by rw[FW];exact hi),<-aaD]
 have hx:∀x:Nat,x<=3->((BitVec.ofInt 8 (x:Int)).toNat:Int)=(x:Int):=λx hx=>by
  show((BitVec.ofNat 8 x).toNat:Int)=_
  rw[aa7];omega
 have e1:dt ((dh s).drop 4)=s.q:=by
  rw[Kl,g 4 (by omega),g (4+1) (by omega),g (4+2) (by omega),g (4+3) (by omega)]
  show dt (bt s.q)=s.q
  obtain⟨q,_,_,_⟩:=s
  show dt (bt q)=q
  have hb:∀x:BitVec 32,dt (bt x)=x:=λx=>by
   simp only[dt,bt,List.getD_cons_zero,List.getD_cons_succ]
   apply BitVec.eq_of_getLsbD_eq
   intro i hi
   simp only[BitVec.getLsbD_or,BitVec.getLsbD_shiftLeft,BitVec.getLsbD_setWidth,BitVec.getLsbD_ushiftRight]
   rcases(by omega:i<8\/(8<=i/\i<16)\/(16<=i/\i<24)\/(24<=i/\i<32))with c|⟨c,c'⟩|⟨c,c'⟩|⟨c,c'⟩
   ·simp[show i<24 by omega,show i<16 by omega,show i<8 by omega,show i<32 by omega]
   ·simp[show i<24 by omega,show i<16 by omega,show¬i<8 by omega,show i<32 by omega,show i-8<8 by omega,show 8+(i-8)=i by omega,show i-8<32 by omega]
   ·simp[show i<24 by omega,show¬i<16 by omega,show¬i<8 by omega,show i<32 by omega,show i-16<8 by omega,show 16+(i-16)=i by omega,show¬i-8<8 by omega,show i-16<32 by omega]
   ·simp[show¬i<24 by omega,show¬i<16 by omega,show¬i<8 by omega,show i<32 by omega,show i-24<8 by omega,show 24+(i-24)=i by omega,show¬i-8<8 by omega,show¬i-16<8 by omega,show i-24<32 by omega]
  exact hb q
 have e2:((dh s).getD 8 0#8)=BitVec.ofInt 8 s.a:=by rw[g 8 (by omega)];rfl
 have e3:((dh s).getD 9 0#8)=BitVec.ofInt 8 (s.t+1):=by rw[g 9 (by omega)];rfl
 have e4:((dh s).getD 10 0#8)=BitVec.ofInt 8 s.n:=by rw[g 10 (by omega)];rfl
 unfold Uj
 rw[e1,e2,e3,e4,ha,ht,hn,show((t:Int)-1+1)=(t:Int) by omega,hx a (by omega),hx t (by omega),hx n b3,<-ha,<-ht,<-hn]
theorem O8(s:JS)(h:cR s=true):bZ (dh s)=(s,true):=by
 rw[bZ,of_bytes s h,fB,h]
 simp
noncomputable def F6:Fn:=mc dq (λp=>Nat.ble p.length most) λp=>(.cB [jD (bZ p).1,.raw (.bool (bZ p).2)],[])
theorem WA(C:aX)(hC:aJ C P)(hb:C.fn 60=some rV)(he:C.fn 94=some DO):aP C.aY P 119 (Fn.run F6):=by
 refine cv (Fq C hC) λds rows r h=>?_
 obtain⟨d,p,rfl,rfl,hd,hp,rfl⟩:=aZ h
 obtain⟨x,hx⟩:=cy hd
 refine⟨rfl,_,.cons hx .nil,ae rfl ?_⟩
 simp only[abP]at hp
 unfold most at hp
 clear h hx hd
 unfold vt vu
 have hz:D.agg SJ [.raw (u32 0#32),.raw (it 0),.raw (it 0),.raw (it 0)]=jD xI:=rfl
 by_cases hl:p.length=32
 ·have g:∀i,i<32->(bs p)[i]?=some (.raw (u8 (p.getD i 0#8))):=λi hi=>nX (by omega)
  have hn:(p.getD 4 0#8).setWidth 32<<<24|||(p.getD 5 0#8).setWidth 32<<<16|||(p.getD 6 0#8).setWidth 32<<<8|||(p.getD 7 0#8).setWidth 32=dt (p.drop 4):=by
   rw[Kl];rfl
  have w:wz (((p.getD 9 0#8).toNat:Int)-1)=((p.getD 9 0#8).toNat:Int)-1:=by
   have:=(p.getD 9 0#8).isLt
   rw[be (by omega)]
  have hof:∀q:BitVec 32,q=dt (p.drop 4)->D.agg SJ [.raw (u32 q),.raw (it ((p.getD 8 0#8).toNat:Int)),.raw (it (((p.getD 9 0#8).toNat:Int)-1)),.raw (it ((p.getD 10 0#8).toNat:Int))]=jD (Uj p):=λq hq=>by rw[hq];rfl
  have hof':=hof _ hn
  simp only[↓ag,ah,simprocAttr,aB,hl,g 4 (by omega),g 5 (by omega),g 6 (by omega),g 7 (by omega),g 8 (by omega),g 9 (by omega),g 10 (by omega),w,hn,hz,hof _ rfl,bY,hb]
  cases hk:cR (Uj p)
  ·have hq:bZ p=(xI,false):=by rw[bZ,hk];simp
   have kb:=λrows k=>kBytesN rows k (Uj p) hk
   have ke:=λrows k=>Ro rows k (.raw (.slice none 0 0)) (.cD L8 (bs p) x) [] p (eB.to (.inl ⟨rfl,rfl⟩)) (eB.to (.inr ⟨x,rfl⟩)) (by simp) hp
   have hne:decide (([]:List (BitVec 8))=p)=false:=aaX (by intro h;rw[<-h]at hl;cases hl)
   rw[hne]at ke
   rw[hq]
   simp only[↓ag,ah,simprocAttr,kb,he,ke,hz,bY]
   exact .val _ rfl
  ·have kb:=λrows k=>TI rows k (Uj p) hk
   simp only[↓ag,ah,simprocAttr,kb,he]
   refine Eq.mpr (Ro _ _ _ _ (dh (Uj p)) p (bd.own rfl _ (fB _).symm) (eB.to (.inr ⟨x,rfl⟩)) (by rw[fB];omega) hp) ?_
   by_cases Qo:dh (Uj p)=p
   ·have hq:bZ p=(Uj p,true):=by rw[bZ,hk,hl,abv Qo];simp
    rw[hq,abv Qo]
    simp only[↓ag,ah,simprocAttr,bY]
    exact .val _ rfl
   ·have hq:bZ p=(xI,false):=by rw[bZ,aaX Qo];simp
    rw[hq,aaX Qo]
    simp only[↓ag,ah,simprocAttr,hz,bY]
    exact .val _ rfl
 ·have wG:((p.length:Int)=32)=False:=aaI (by omega)
  have hq:bZ p=(xI,false):=by rw[bZ,aaX hl];rfl
  rw[hq]
  simp only[↓ag,ah,simprocAttr,aB,wG,hz,bY]
  exact .val _ rfl
theorem kParseJ(rows:Rows)(k:D->Rows->Prop)(d:D)(p:List (BitVec 8))(h:bd rows d p)(hp:p.length<=1099511627776):aK F6 rows k [d]=k (.cB [jD (bZ p).1,.raw (.bool (bZ p).2)]) rows:=by
 refine(s9 h (by simpa[most]using hp) ?_).trans ?_
 ·simp[jD,b8,je,a8,Sh.pure]
 ·simp[shift,bu,H2,ab]
def cS:JS:=⟨0#32,0,-1,0⟩
noncomputable def DZ:Fn
 |[],[]=>some (jD cS,[])
 | _,_=>none
theorem first_ok(C:aX)(hC:aJ C P):aP C.aY P 118 (Fn.run DZ):=by
 refine aH (Fp C hC) λds rows r h=>?_
 unfold DZ at h
 split at h
 ·cases h
  refine⟨rfl,ae rfl ?_⟩
  unfold vp vq
  simp only[↓ag,ah,simprocAttr]
  exact .val _ rfl
 ·cases h
theorem kFirst(rows:Rows)(k:D->Rows->Prop):aK DZ rows k []=k (jD cS) rows:=by
 refine(bh rfl (r:=(jD cS,[])) rfl).trans ?_
 simp[H2,ab]
def Cj(K:FV)(i:Nat)(s:JS×Int):JS×Int:=
 if lW K ((256*i:Nat):Int) 32=0 then
  (bif (bZ (sub (nP K) (256*i) 32)).2&&(decide (s.2=-1)||decide (s.1.q<(bZ (sub (nP K) (256*i) 32)).1.q))then((bZ (sub (nP K) (256*i) 32)).1,(i:Int))else s)
 else s
def cA(K:FV):JS×Int:=Cj K 33 (Cj K 32 (cS,-1))
noncomputable def sE:Fn:=mc (bE vY) (λK=>decide (mq K<=1048576)) λK=>(.cB [jD (cA K).1,.raw (it (cA K).2)],[])
def atJ(K:FV):Nat->JS×Int
 |0=>(cS,-1)
 |1=>Cj K 32 (cS,-1)
 | _=>cA K
theorem u32_gt(x y:BitVec 32)(k:D->Prop):cz .gtr (u32 x) (u32 y) k=k (.raw (.bool (decide (y<x)))):=by
 have:(x.toNat:Int)>(y.toNat:Int)↔y<x:=by rw[ab0];omega
 simp only[cz,u32]
 by_cases h:y<x
 ·have:=this.2 h
  simp[h,ab0.1 h]
 ·have h2:¬y.toNat<x.toNat:=λe=>h (ab0.2 e)
  simp[h,h2]
theorem readj_ok(C:aX)(hC:aJ C P)(hf:C.fn 118=some DZ)(hr:C.fn 23=some vH)(hp:C.fn 119=some F6):aP C.aY P 58 (Fn.run sE):=by
 refine aH (Hc C hC) λds rows r h=>?_
 obtain⟨d,K,rfl,rfl,hd,hp',rfl⟩:=aZ h
 cases aF hd
 simp only[aaA]at hp'
 refine⟨rfl,ae rfl ?_⟩
 clear h hd
 unfold wP wQ
 have hz:D.agg SJ [.raw (u32 0#32),.raw (it 0),.raw (it 0),.raw (it 0)]=jD xI:=rfl
 have hg:∀rs,OR rs (vY K) K:=λrs=>Mn rs K
 have kr:=λrows (i:Nat) k=>aao (hg rows) hp' ((256*i:Nat):Int) 32 k
 generalize hkk:vY K=kk at kr⊢
 simp only[↓ag,ah,simprocAttr,aQ,hz,bY,hf,kFirst]
 refine bg 2 (λi env rows=>has env [(6,.raw (it ((32+i:Nat):Int))),(5,.raw (it (atJ K i).2)),(4,.ptr SJ 1 [0]),(2,.ptr SJ 0 [0]),(0,kk)]/\live rows 1=some ⟨SJ,[jD (atJ K i).1]⟩/\∃x,live rows 0=some ⟨SJ,[x]⟩) ?_ ?_ ?_
 ·rintro i hi env rows ⟨hh,r1,⟨x0,r0⟩⟩ R hR
  simp only[has]at hh
  have e0:(((32+i:Nat):Int)<34)=True:=aaz (by omega)
  have e1:wz (256*((32+i:Nat):Int))=((256*(32+i):Nat):Int):=by rw[be (by omega)];omega
  have e2:wz (((32+i:Nat):Int)+1)=((32+(i+1):Nat):Int):=by rw[be (by omega)];omega
  have hs:atJ K (i+1)=Cj K (32+i) (atJ K i):=by
   have:i=0\/i=1:=by omega
   rcases this with rfl|rfl<;>rfl
  have fin:∀env' aa,(has env' [(6,.raw (it ((32+(i+1):Nat):Int))),(5,.raw (it (atJ K (i+1)).2)),(4,.ptr SJ 1 [0]),(2,.ptr SJ 0 [0]),(0,kk)]/\live aa 1=some ⟨SJ,[jD (atJ K (i+1)).1]⟩/\∃x,live aa 0=some ⟨SJ,[x]⟩)->R env' aa:=λenv' aa h=>hR env' aa h
  rw[hs]at fin
  have kr':=kr rows (32+i)
  by_cases c:lW K ((256*(32+i):Nat):Int) 32=0
  ·rw [Ih, aaM c] at kr'
   have j7:(sub (nP K) (256*(32+i)) 32).length=32:=by
    rcases K with _|⟨x,ex⟩
    ·cases c
    ·obtain⟨b1,b2,b3,b4⟩:=Mm c
     exact jj (x:=x) (by omega)
   have e32:(32:Int).toNat=32:=rfl
   simp only[aaK,e32,shift,bu,ab,abw,adO,Sh.pure,aaY,abO]at kr'
   simp only[Cj,aaM c]at fin
   generalize sub (nP K) (256*(32+i)) 32=p at kr' fin j7
   generalize atJ K i=st at hh r1 fin
   have kp:=λk=>kParseJ (rows++[some ⟨L8,bs p⟩]) k (.sl L8 rows.length [] 0 32 false) p (bd.own (by rw[bx];rfl) _ j7.symm) (by omega)
   generalize bZ p=qk at kp fin
   obtain⟨q,ok⟩:=qk
   obtain⟨s1,at1⟩:=st
   simp only at hh r1 fin kp
   have f1:=λl=>aj r1 l
   have f0:=λl=>aj r0 l
   have hw:∀rs,live rs 1=some ⟨SJ,[jD s1]⟩->live (rs.set 1 (some ⟨SJ,[jD q]⟩)) 1=some ⟨SJ,[jD q]⟩:=λrs h=>aE h
   have hw0:∀rs,live rs 0=some ⟨SJ,[x0]⟩->live (rs.set 1 (some ⟨SJ,[jD q]⟩)) 0=some ⟨SJ,[x0]⟩:=λrs h=>cE h (by decide)
   cases ok
   ·simp only[ace,aaR]at fin
    simp only[↓ag,ah,simprocAttr,aQ,hh,e0,e1,e2,hr,kr',hp,kp,bY,f1]
    exact fin _ _ ⟨by simp only[has,↓ag,ah,simprocAttr,hh],f1 _,_,f0 _⟩
   ·simp only[acz]at fin
    by_cases c2:at1=-1
    ·have c3:(at1=-1)=True:=aaz c2
     simp only[c3,aaG,adN,aaY]at fin
     simp only[↓ag,ah,simprocAttr,aQ,hh,e0,e1,e2,hr,kr',hp,kp,bY,f1,c3]
     exact fin _ _ ⟨by simp only[has,↓ag,ah,simprocAttr,hh],hw _ (f1 _),_,hw0 _ (f0 _)⟩
    ·have c3:(at1=-1)=False:=aaI c2
     by_cases c4:s1.q<q.q
     ·have c5:(s1.q<q.q)=True:=aaz c4
      simp only[c3,c5,aaG,aaH,acA,aaY]at fin
      simp only[↓ag,ah,simprocAttr,aQ,hh,e0,e1,e2,hr,kr',hp,kp,bY,f1,c3,H3,u32_gt,c5,aaG]
      exact fin _ _ ⟨by simp only[has,↓ag,ah,simprocAttr,hh],hw _ (f1 _),_,hw0 _ (f0 _)⟩
     ·have c5:(s1.q<q.q)=False:=aaI c4
      simp only[c3,c5,aaH,acA,aaR]at fin
      simp only[↓ag,ah,simprocAttr,aQ,hh,e0,e1,e2,hr,kr',hp,kp,bY,f1,c3,H3,u32_gt,c5,aaH]
      exact fin _ _ ⟨by simp only[has,↓ag,ah,simprocAttr,hh],f1 _,_,f0 _⟩
  ·rw[Ih,aaE c]at kr'
   have c1:(lW K ((256*(32+i):Nat):Int) 32=0)=False:=aaI c
   simp only[shift,bu,ab]at kr'
   simp only[Cj,aaE c]at fin
   generalize atJ K i=st at hh r1 fin
   simp only[↓ag,ah,simprocAttr,aQ,hh,e0,e1,e2,hr,kr',c1]
   exact fin _ _ ⟨by simp only[has,↓ag,ah,simprocAttr,hh],r1,_,r0⟩
 ·rintro env rows ⟨hh,r1,⟨x0,r0⟩⟩ R
  simp only[has]at hh
  have Xx:atJ K 2=cA K:=rfl
  rw[Xx]at hh r1
  have e5:live (rows.set 0 (some ⟨SJ,[jD (cA K).1]⟩)) 0=some ⟨SJ,[jD (cA K).1]⟩:=aE r0
  simp only[↓ag,ah,simprocAttr,aQ,hh,r1,r0,bY,e5]
  exact .val _ rfl
 ·have:atJ K 0=(cS,-1):=rfl
  rw[this]
  exact⟨by simp only[has,↓ag,ah,simprocAttr],rfl,_,rfl⟩
theorem kReadJ{rows:Rows}{d:D}{K:FV}(h:OR rows d K)(hl:mq K<=1048576)(k:D->Rows->Prop):aK sE rows k [d]=k (.cB [jD (cA K).1,.raw (it (cA K).2)]) rows:=by
 refine(Cd h (vs:=[]) rfl rfl (r:=(.cB [jD (cA K).1,.raw (it (cA K).2)],[])) ?_ (by simp[jD,b8,je,a8,Sh.pure]) k).trans ?_
 ·simp only[sE,Zi,bA uN,abf,hl,aaG,aaY]
 ·simp[shift,bu,H2,ab]
def RY(x:List (BitVec 8)):JS×Int:=
 if x.length<8704 then(cS,-1)else
 bif (bZ (sub x 8192 32)).2&&(!(bZ (sub x 8448 32)).2||decide ((bZ (sub x 8448 32)).1.q<=(bZ (sub x 8192 32)).1.q))then((bZ (sub x 8192 32)).1,32)else
 bif (bZ (sub x 8448 32)).2 then((bZ (sub x 8448 32)).1,33)else(cS,-1)
theorem qO(x:List (BitVec 8))(e:Bool)(h:8704<=x.length):cA (some (x,e))=RY x:=by
 have w1:lW (some (x,e)) ((256*32:Nat):Int) 32=0:=by simp only[lW];rw[aaE (by omega)]
 have w2:lW (some (x,e)) ((256*33:Nat):Int) 32=0:=by simp only[lW];rw[aaE (by omega)]
 unfold cA Cj RY
 rw[aaM w1,aaM w2,aaE (by omega)]
 show(bif (bZ (sub x 8448 32)).2&&(decide ((bif (bZ (sub x 8192 32)).2&&(decide ((-1:Int)=-1)||decide (cS.q<(bZ (sub x 8192 32)).1.q))then((bZ (sub x 8192 32)).1,(32:Int))else(cS,-1)).2=-1)||decide ((bif (bZ (sub x 8192 32)).2&&(decide ((-1:Int)=-1)||decide (cS.q<(bZ (sub x 8192 32)).1.q))then((bZ (sub x 8192 32)).1,(32:Int))else(cS,-1)).1.q<(bZ (sub x 8448 32)).1.q))then((bZ (sub x 8448 32)).1,(33:Int))else bif (bZ (sub x 8192 32)).2&&(decide ((-1:Int)=-1)||decide (cS.q<(bZ (sub x 8192 32)).1.q))then((bZ (sub x 8192 32)).1,(32:Int))else(cS,-1))=_
 generalize bZ (sub x 8192 32)=A
 generalize bZ (sub x 8448 32)=B
 obtain⟨a,x1⟩:=A
 obtain⟨b,y1⟩:=B
 have hlt:decide (a.q<b.q)=!decide (b.q<=a.q):=by
  by_cases c:b.q<=a.q
  ·rw[abv c,aaX (by rw[ab0];rw[abJ]at c;omega)];rfl
  ·rw[aaX c,abv (by rw[ab0];rw[abJ]at c;omega)];rfl
 cases x1<;>cases y1<;>simp[hlt]<;>cases decide (b.q<=a.q)<;>simp
theorem WB{α β γ δ:Type}{rd:D->Option α}{rd':D->Option β}{Fy:D->Option γ}{rd3:D->Option δ}{pre:α->β->γ->δ->Bool}{out:α->β->γ->δ->D×Rows}{rows:Rows}{d e f g:D}{a:α}{b:β}{c:γ}{z:δ}(h:bF rows rd d a)(h':bF rows rd' e b)(h2:bF rows Fy f c)(h3:bF rows rd3 g z)(hp:pre a b c z=true)
  (hr:(b8 (out a b c z).1&&a8 (out a b c z).2)=true)(k:D->Rows->Prop):
  aK (fn4 rd rd' Fy rd3 pre out) rows k [d,e,f,g]=k (shift rows.length (out a b c z).1) (rows++ab rows.length (out a b c z).2):=by
 obtain⟨⟨x,hx,hx'⟩,hn⟩:=h
 obtain⟨⟨y,hy,hy'⟩,hm⟩:=h'
 obtain⟨⟨u,hz,K2⟩,ho⟩:=h2
 obtain⟨⟨v,hw,hw'⟩,hq⟩:=h3
 refine tH (ds':=[x,y,u,v]) (by simp only[dC,hx,hy,hz,hw]) (aaq hx' hy' K2 hw' hp) (λhh=>?_) hr
 simp only[aV,acy,aci]at hh
 exact aaq (hn hh.1) (hm hh.2.1) (ho hh.2.2.1) (hq hh.2.2.2) hp
theorem bF.fl{rows:Rows}{r m:Nat}{x:List (BitVec 8)}(h:dw rows r m x):∃e,bF rows (bE vY) (.ptr SF r [0]) (some (x,e)):=by
 obtain⟨e,hv⟩:=h.view
 exact⟨e,⟨_,hv,bA uN _⟩,λh=>by simp[aT]at h⟩
theorem kAfterG{rows:Rows}{r m:Nat}{x:List (BitVec 8)}(h:dw rows r m x)(hx:x.length<=1048576)(i a:Int){d:D}{p:List (BitVec 8)}(hp:bd rows d p)(pJ:p.length<=1048576)(h0:qL (some (x,false)) i a p=0)(k:D->Rows->Prop):
  aK DV rows k [.ptr SF r [0],.raw (it i),.raw (it a),d]=k (.cB [.sl L8 rows.length [] 0 256 false,.raw (it 0)]) (rows++[some ⟨L8,bs (pF (some (x,false)) i a p)⟩]):=by
 obtain⟨e,hf⟩:=bF.fl h
 have hE:qL (some (x,e)) i a p=qL (some (x,false)) i a p:=rfl
 have hD:pF (some (x,e)) i a p=pF (some (x,false)) i a p:=rfl
 have ho:Jq (some (x,e)) i a p=(.cB [.sl L8 0 [] 0 256 false,.raw (it 0)],[some ⟨L8,bs (pF (some (x,false)) i a p)⟩]):=by
  rw[Jq,hE,aaM h0,hD]
 refine(WB hf (.int i) (.int a) (.bs hp) (by simp[mq,hx,pJ]) (by rw[ho];simp[b8,je,a8,Sh.pure]) k).trans ?_
 rw[ho]
 simp[shift,bu,ab,Sh.pure]
def dH:List (BitVec 8):=List.replicate 256 255#8
theorem RZ:dH.length=256:=by rw[dH,aaV]
theorem Mx(i:Nat)(h:i<256):dH.getD i 0#8=255#8:=rep255 256 i h
noncomputable def KM:Fn
 |[],[]=>some (.sl L8 0 [] 0 256 false,[some ⟨L8,bs dH⟩])
 | _,_=>none
theorem allf_ok(C:aX)(hC:aJ C P)(hr:C.fn 103=some pE):aP C.aY P 57 (Fn.run KM):=by
 refine aH (Jd C hC) λds rows r h=>?_
 unfold KM at h
 split at h
 ·cases h
  refine⟨rfl,ae rfl ?_⟩
  unfold za zb
  simp only[↓ag,ah,simprocAttr,hr]
  refine Eq.mpr (Ml (b:=255#8) (bd.own (l:=[255#8]) rfl _ rfl) 256 (by omega) _) ?_
  rw[show List.replicate 256 255#8=dH from rfl]
  simp only[↓ag,ah,simprocAttr]
  exact .own L8 _ 0 256 false false _ rfl rfl id
 ·cases h
theorem kAllF(rows:Rows)(k:D->Rows->Prop):aK KM rows k []=k (.sl L8 (0+rows.length) [] 0 256 false) (rows++[some ⟨L8,bs dH⟩]):=by
 refine(bh rfl (r:=(.sl L8 0 [] 0 256 false,[some ⟨L8,bs dH⟩])) rfl).trans ?_
 simp only[shift,ab,Sh.pure,abw,adO,aaY]
abbrev r9:Sh:= .cons L8 (.cons LI (.cons LI (.cons .ref (.cons LI (.cons dk .nil)))))
def opD(kind:BitVec 8)(page:Nat)(d:D):D:= .agg r9 [.raw (u8 kind),.raw (it (page:Int)),.raw (it 0),d,.raw (it 0),.raw (u32 0#32)]
theorem op_g0(k:BitVec 8)(i:Nat)(d:D):(opD k i d).get [0]=some (.raw (u8 k)):=rfl
theorem op_g1(k:BitVec 8)(i:Nat)(d:D):(opD k i d).get [1]=some (.raw (it (i:Int))):=rfl
theorem op_g2(k:BitVec 8)(i:Nat)(d:D):(opD k i d).get [2]=some (.raw (it 0)):=rfl
theorem op_g3(k:BitVec 8)(i:Nat)(d:D):(opD k i d).get [3]=some d:=rfl
inductive FF (rows:Rows) (m:Nat):BitVec 8->D->List (BitVec 8)->Prop where
 |er:FF rows m 1#8 (.raw (.slice none 0 0)) []
 |wr (q:Nat) (p:List (BitVec 8)) (ex:Bool):live rows q=some ⟨L8,bs p⟩->0<p.length->p.length<=256->q≠m->FF rows m 2#8 (.sl L8 q [] 0 p.length ex) p
theorem FF.fits{rows:Rows}{m:Nat}{k:BitVec 8}{d:D}{p:List (BitVec 8)}(h:FF rows m k d p)(i:Nat):(opD k i d).fits r9=true:=by
 cases h<;>rfl
theorem FF.bs{rows:Rows}{m:Nat}{k:BitVec 8}{d:D}{p:List (BitVec 8)}(h:FF rows m k d p)(L:Rows):bd (rows++L) d p:=by
 cases h with
 |er=>exact eB.to (.inl ⟨rfl,rfl⟩)
 |wr q p ex h1 h2 h3 h4=>exact bd.own (aj h1 L) _ rfl
theorem FF.len{rows:Rows}{m:Nat}{k:BitVec 8}{d:D}{p:List (BitVec 8)}(h:FF rows m k d p):p.length<=256:=by
 cases h with
 |er=>simp
 |wr q p ex h1 h2 h3 h4=>exact h3
def lX(x:List (BitVec 8))(i:Nat)(p w:List (BitVec 8)):List (BitVec 8):=Xv x i (pF (some (x,false)) i 0 p) w
theorem ng(x:List (BitVec 8))(i:Nat)(p w:List (BitVec 8)):(lX x i p w).length=x.length:=T6 _ _ _ _
theorem Uk(x:List (BitVec 8))(i:Nat)(p:List (BitVec 8))(hp:p.length<=256)(hx:256*i+256<=x.length):(pF (some (x,false)) i 0 p).length=256:=by
 unfold pF
 split
 ·rw[aaV]
 ·have j7:(sub (nP (some (x,false))) (256*(i:Int).toNat) 256).length=256:=jj (x:=x) (by omega)
  rw[show(0:Int).toNat=0 from rfl,jh _ _ _ (by omega),j7]
theorem tearB{rows:Rows}{r m q1 q2 n:Nat}{x w k:List (BitVec 8)}{Ru I7:Bool}(h:dw rows r m x)(hx:x.length<=1048576)(Va:live rows q1=some ⟨L8,bs w⟩)(hn:n=w.length)(Qo:live rows q2=some ⟨L8,bs k⟩)(n1:m≠q1)(n2:m≠q2)(hw:w.length<=1048576)(M0:k.length<=1048576)(i:Int)(hE:erE x i=0){K:D->Rows->Prop}
  (hk:∀aa,T7 rows aa r m (Xv x i w k)->K (.raw (it 0)) aa):aG CF 4 df cZ [.ptr SF r [0],.raw (it i),.sl L8 q1 [] 0 n Ru,.sl L8 q2 [] 0 k.length I7] rows K:=by
 subst hn
 refine tearA h hx Va Qo n1 n2 hw M0 i λaa U=>?_
 rw[hE]
 exact hk aa U
theorem T7.of{rows L aa:Rows}{r m:Nat}{x:List (BitVec 8)}(h:T7 (rows++L) aa r m x):T7 rows aa r m x:=⟨h.fl,λq row hq hn=>h.frame q row (aj hq L) hn⟩
theorem WC(C:aX){dc:D}{rows:Rows}{r m qm i:Nat}{ex:Bool}{kind:BitVec 8}{d:D}{x p w:List (BitVec 8)}(hF:dw rows r m x)(hx:x.length<=1048576)(hi:256*i+256<=x.length)(ho:FF rows m kind d p)
  (hm:live rows qm=some ⟨L8,bs w⟩)(nm:m≠qm)(hw:w.length<=1048576)(h0:qL (some (x,false)) (i:Int) 0 p=0)
  (hA:C.fn 116=some DV)(nT:C.fn 117=none)(rT:C.dO 117=some (aG CF 4 df cZ)){K:D->Rows->Prop}
  (hk:∀aa,T7 rows aa r m (lX x i p w)->K (.raw (it 0)) aa):aG C 4 iO iN [.ptr SF r [0],dc,opD kind i d,.sl L8 qm [] 0 w.length ex] rows K:=by
 refine ae rfl ?_
 unfold iN iO
 have hE:erE x (i:Int)=0:=by simp only[erE,vZ];rw[aaE (by omega)]
 have hfit:=ho.fits i
 have hd:=Uk x i p ho.len hi
 have ka:=λL k=>kAfterG (hF.push L) hx (i:Int) 0 (ho.bs L) (by have:=ho.len;omega) h0 k
 have lt:=hF.lt
 cases ho with
 |er=>
  simp only[↓ag,ah,simprocAttr,aQ,hfit,op_g0,op_g1,op_g2,op_g3,hA,ka,nT,rT]
  refine tearB (hF.push _) hx (w:=pF (some (x,false)) (i:Int) 0 []) (by rw[cg];rfl) hd.symm (aj hm _) (by omega) nm (by omega) hw _ hE λaa U=>?_
  simp only[↓ag,ah,simprocAttr]
  exact hk aa U.of
 |wr q p ex h1 h2 h3 h4=>
  have c0:((p.length:Int)=0)=False:=aaI (by omega)
  simp only[↓ag,ah,simprocAttr,aQ,hfit,op_g0,op_g1,op_g2,op_g3,c0,hA,ka,nT,rT]
  refine tearB (hF.push _) hx (w:=pF (some (x,false)) (i:Int) 0 p) (by rw[cg];rfl) hd.symm (aj hm _) (by omega) nm (by omega) hw _ hE λaa U=>?_
  simp only[↓ag,ah,simprocAttr]
  exact hk aa U.of
structure JO where
 k:BitVec 8
 i:Nat
 d:D
 p:List (BitVec 8)
def JO.D(o:JO):Am.D:=opD o.k o.i o.d
def uR(x:List (BitVec 8))(l:List JO):List (BitVec 8):=l.foldl (λx o=>lX x o.i o.p dH) x
theorem ku(x:List (BitVec 8))(l:List JO):(uR x l).length=x.length:=by
 induction l generalizing x with
 |nil=>rfl
 |cons o l ih=>exact(ih _).trans (ng _ _ _ _)
theorem O9(x:List (BitVec 8))(l:List JO)(j:Nat)(o:JO)(h:l[j]?=some o):uR x (l.take (j+1))=lX (uR x (l.take j)) o.i o.p dH:=by
 obtain⟨hj,rfl⟩:=ac4.1 h
 rw[aa2 hj,uR,List.foldl_append]
 rfl
theorem FF.keep{rows aa:Rows}{m:Nat}{k:BitVec 8}{d:D}{p:List (BitVec 8)}(h:FF rows m k d p)(f:∀q row,live rows q=some row->q≠m->live aa q=some row):FF aa m k d p:=by
 cases h with
 |er=>exact .er
 |wr q p ex h1 h2 h3 h4=>exact .wr q p ex (f _ _ h1 h4) h2 h3 h4
theorem My(C C0:aX){dc:D}{rows:Rows}{r m ro n:Nat}{ex:Bool}{x:List (BitVec 8)}{ops:List JO}(hF:dw rows r m x)(hx:x.length<=1048576)(hro:live rows ro=some ⟨r9,ops.map JO.D⟩)(nro:ro≠m)(hn:ops.length=n)(hn2:n<=1048576)
  (hop:∀(j:Nat) (o:JO),ops[j]?=some o->FF rows m o.k o.d o.p/\256*o.i+256<=x.length/\qL (some (uR x (ops.take j),false)) (o.i:Int) 0 o.p=0)
  (hA:C0.fn 116=some DV)(nT:C0.fn 117=none)(rT:C0.dO 117=some (aG CF 4 df cZ))
  (bN:C.fn 57=some KM)(nJ:C.fn 56=none)(rJ:C.dO 56=some (aG C0 4 iO iN)){K:D->Rows->Prop}
  (hk:∀aa,T7 rows aa r m (uR x ops)->K (.raw (it 0)) aa):aG C 3 fJ fI [.ptr SF r [0],dc,.sl r9 ro [] 0 n ex] rows K:=by
 subst hn
 refine ae rfl ?_
 unfold fI fJ
 simp only[↓ag,ah,simprocAttr]
 refine bg ops.length (λj env rs=>has env [(12,.raw (it (j:Int))),(11,.raw (it (ops.length:Int))),(10,.sl r9 ro [] 0 ops.length ex),(0,.ptr SF r [0]),(1,dc)]/\T7 rows rs r m (uR x (ops.take j))) ?_ ?_ ?_
 ·rintro j hj env rs ⟨hh,U⟩ R hR
  simp only[has]at hh
  have e0:((j:Int)<(ops.length:Int))=True:=aaz (by omega)
  have e1:=cj j (by omega)
  obtain⟨o,ho⟩:∃o,ops[j]?=some o:=⟨_,aaw hj⟩
  obtain⟨b1,b2,b3⟩:=hop j o ho
  have g:(ops.map JO.D)[j]?=some (opD o.k o.i o.d):=by rw[abl,ho];rfl
  have hl:=U.frame _ _ hro nro
  have hlA:=λL=>aj hl L
  have b1':=b1.keep U.frame
  have hfit:=b1.fits o.i
  have e2:((0:Int)<=(j:Int))=True:=aaz (by omega)
  simp only[↓ag,ah,simprocAttr,aQ,hh,e0,e1,e2,hl,hlA,g,hfit,bN,kAllF,nJ,rJ]
  have lt:=U.fl.lt
  have hm:=cg rs [some ⟨r9,[opD o.k o.i o.d]⟩,some ⟨L8,bs dH⟩] 1
  refine WC C0 (dc:=dc) (w:=dH) (U.fl.push _) (by rw[ku];exact hx) (by rw[ku];exact b2) (b1'.keep λq row hq _=>aj hq _) (by rw[cg];rfl) (by omega) (by rw[RZ];omega) b3 hA nT rT λaa U'=>?_
  have hs:=O9 x ops j o ho
  rw[<-hs]at U'
  simp only[↓ag,ah,simprocAttr,aQ,hh,e1]
  refine hR _ _ ⟨by simp only[has,↓ag,ah,simprocAttr,hh],U'.fl,λq row hq hn=>U'.of.frame q row (U.frame q row hq hn) hn⟩
 ·rintro env rs ⟨hh,U⟩ R
  simp only[has]at hh
  rw[aa6]at U
  have e0:((ops.length:Int)<(ops.length:Int))=False:=aaI (by omega)
  simp only[↓ag,ah,simprocAttr,aQ,hh,e0]
  exact hk _ U
 ·exact⟨by simp only[has,↓ag,ah,simprocAttr],hF,λq row hq _=>hq⟩
def fF(K:FV)(s:JS):JS:=⟨(cA K).1.q+1#32,s.a,s.t,s.n⟩
def fa(K:FV):Nat:=if(cA K).2=32 then 33 else 32
def mu(K:FV)(s:JS):Bool:=!decide ((cA K).1.q+1#32=0#32)&&cR s
def jc(K:FV)(s:JS)(q:Nat):List JO:=[⟨1#8,fa K,.raw (.slice none 0 0),[]⟩,⟨2#8,fa K,.sl L8 q [] 0 32 false,dh (fF K s)⟩]
theorem Mz(x y:BitVec 32)(k:D->Prop):cz .eql (u32 x) (u32 y) k=k (.raw (.bool (decide (x=y)))):=by
 simp only[cz,u32]
 by_cases h:x=y
 ·subst h;simp
 ·have:¬(x.toNat:Int)=(y.toNat:Int):=λe=>h (aaS (by omega))
  simp[h,this]
theorem Ul(s:JS)(q:BitVec 32):(jD s).set [0] (.raw (u32 q))=some (jD ⟨q,s.a,s.t,s.n⟩):=rfl
def Sl(rows:Rows)(d:D)(p:List (BitVec 8)):Prop:=eB d p\/∃r ex,d= .sl L8 r [] 0 p.length ex/\live rows r=some ⟨L8,bs p⟩
theorem Sl.to{rows:Rows}{d:D}{p:List (BitVec 8)}(h:Sl rows d p):bd rows d p:=by
 rcases h with h|⟨r,ex,rfl,h⟩
 ·exact h.to
 ·exact bd.own h _ rfl
theorem Sl.keep{rows aa:Rows}{d:D}{p:List (BitVec 8)}(h:Sl rows d p)(f:∀q row,live rows q=some row->live aa q=some row):Sl aa d p:=by
 rcases h with h|⟨r,ex,rfl,h⟩
 ·exact .inl h
 ·exact .inr ⟨r,ex,rfl,f _ _ h⟩
theorem Made.tX{rows qP mN:Rows}{r m:Nat}{x y:List (BitVec 8)}(h:Made rows qP r m x)(U:T7 qP mN r m y):Made rows mN r m y:=
 ⟨U.fl,λq row hq=>U.frame q row (h.frame q row hq) (by have:=a9 hq;have:=h.hm;omega),h.hr,h.hm⟩
theorem Made.more{rows qP:Rows}{r m:Nat}{x:List (BitVec 8)}(h:Made rows qP r m x)(L:Rows):Made rows (qP++L) r m x:=
 ⟨h.fl.push L,λq row hq=>aj (h.frame q row hq) L,h.hr,h.hm⟩
structure JC (C:aX):Prop where
 nW:C.fn 45=none
 rW:C.dO 45=some (aG CF 3 dR dQ)
 nN:C.fn 43=none
 rN:C.dO 43=some (aG CF 1 mj mi)
 cut:C.fn 17=some Ok
theorem yt{a b:List (BitVec 8)}(hl:a.length=b.length)(h:∀i,i<a.length->a.getD i 0#8=b.getD i 0#8):a=b:=by
 refine ac1 hl λi h1 h2=>?_
 have:=h i h1
 simpa[List.getD,h1,h2]using this
theorem sub_congr{x y:List (BitVec 8)}(a n:Nat)(hl:x.length=y.length)(h:∀t,a<=t->t<a+n->x.getD t 0#8=y.getD t 0#8):sub x a n=sub y a n:=by
 refine yt (by simp only[sub,aaF,aaB,hl]) λi hi=>?_
 have hi':i<n:=by simp only[sub,aaF]at hi;omega
 rw[yo _ _ _ _ hi',yo _ _ _ _ hi']
 exact h _ (by omega) (by omega)
theorem erE0{x:List (BitVec 8)}{i:Nat}(hi:256*i+256<=x.length):erE x (i:Int)=0:=by
 simp only[erE,vZ];rw[aaE (by omega)]
theorem Ir(x:List (BitVec 8))(i:Nat)(p w:List (BitVec 8))(hi:256*i+256<=x.length)(t:Nat)(ht:t<256*i\/256*i+256<=t):(lX x i p w).getD t 0#8=x.getD t 0#8:=by
 unfold lX Xv
 rw[aaM (erE0 hi),aaK]
 have hM:OU (pF (some (x,false)) (i:Int) 0 p) w<=256:=by unfold OU;omega
 rw[F2 _ _ _ _ _ _ (by omega),aaE (by omega)]
theorem D0(x:List (BitVec 8))(i:Nat)(p:List (BitVec 8))(hp:p.length<=256)(hi:256*i+256<=x.length):sub (lX x i p dH) (256*i) 256=pF (some (x,false)) (i:Int) 0 p:=by
 have hd:=Uk x i p hp hi
 refine yt (by rw[hd];exact jj (by rw[ng];omega)) λj hj=>?_
 have mJ:j<256:=by rw[jj (by rw[ng];omega)]at hj;exact hj
 rw[yo _ _ _ _ mJ]
 unfold lX Xv
 rw[aaM (erE0 hi),aaK]
 have hM:OU (pF (some (x,false)) (i:Int) 0 p) dH=256:=by unfold OU;rw[hd,RZ];rfl
 rw[hM,F2 _ _ _ _ _ _ (by omega),aaM (by omega),adJ,Mx _ mJ,teV_all]
theorem Um(x:List (BitVec 8))(i:Int):pF (some (x,false)) i 0 []=dH:=by rw[pF,aaM rfl,dH]
theorem Un{x:List (BitVec 8)}{i:Nat}(hi:256*i+256<=x.length):qL (some (x,false)) (i:Int) 0 []=0:=by
 have hP:vZ (some (x,false)) (i:Int)=0:=erE0 hi
 rw[qL,aaE (by rw[hP];simp),aaM rfl]
theorem err_wr{x p:List (BitVec 8)}{i:Nat}(hi:256*i+256<=x.length)(hp:p.length<=256)(hs:sub x (256*i) 256=dH):qL (some (x,false)) (i:Int) 0 p=0:=by
 have hP:vZ (some (x,false)) (i:Int)=0:=erE0 hi
 rw[qL,aaE (by rw[hP];simp)]
 split
 ·rfl
 ·rw[aaE (by omega),aaM]
  rw[aaK]
  show clears ((sub x (256*i) 256).drop 0) p
  rw[hs,abu,dH]
  exact RO _ _ hp
theorem dat_wr{x p:List (BitVec 8)}{i:Nat}(h0:0<p.length)(hp:p.length<=256)(hs:sub x (256*i) 256=dH):(pF (some (x,false)) (i:Int) 0 p).take p.length=p:=by
 have hne:p≠[]:=by intro h;rw[h]at h0;simp at h0
 rw[pF,aaE hne,aaK]
 show(a7 (sub x (256*i) 256) 0 p).take p.length=p
 rw[a7,acq,abr,aa3]
theorem sub_take(x:List (BitVec 8))(a n k:Nat)(h:k<=n):sub x a k=(sub x a n).take k:=by
 simp only[sub,acR];congr 1;omega
theorem xJ(K:FV):fa K=32\/fa K=33:=by unfold fa;split<;>simp
theorem erased{x:List (BitVec 8)}{i:Nat}(hi:256*i+256<=x.length):sub (lX x i [] dH) (256*i) 256=dH:=by
 rw[D0 x i [] (by simp) hi,Um]
theorem Uo{x:List (BitVec 8)}{K:FV}{s:JS}{q:Nat}(hx:8704<=x.length):∀(j:Nat) (o:JO),(jc K s q)[j]?=some o->o.p.length<=256/\256*o.i+256<=x.length/\qL (some (uR x ((jc K s q).take j),false)) (o.i:Int) 0 o.p=0:=by
 have hi:256*fa K+256<=x.length:=by rcases xJ K with h|h<;>rw[h]<;>omega
 intro j o h
 match j with
 |0=>cases h;exact⟨by simp,hi,Un hi⟩
 |1=>
  cases h
  refine⟨by rw[fB];omega,hi,?_⟩
  show qL (some (lX x (fa K) [] dH,false)) (fa K:Int) 0 (dh (fF K s))=0
  exact err_wr (by rw[ng];exact hi) (by rw[fB];omega) (erased hi)
 |j+2=>cases h
theorem WD{x:List (BitVec 8)}{K:FV}{s:JS}{q:Nat}(hx:8704<=x.length):sub (uR x (jc K s q)) (256*fa K) 32=dh (fF K s):=by
 have hi:256*fa K+256<=x.length:=by rcases xJ K with h|h<;>rw[h]<;>omega
 have En:256*fa K+256<=(lX x (fa K) [] dH).length:=by rw[ng];exact hi
 show sub (lX (lX x (fa K) [] dH) (fa K) (dh (fF K s)) dH) (256*fa K) 32=_
 rw[sub_take _ _ 256 32 (by omega),D0 _ _ _ (by rw[fB];omega) En]
 have:=dat_wr (p:=dh (fF K s)) (by rw[fB];omega) (by rw[fB];omega) (erased hi)
 rwa [fB]at this
theorem Ck{x:List (BitVec 8)}{K:FV}{s:JS}{q:Nat}(hx:8704<=x.length)(t:Nat)(ht:t<256*fa K\/256*fa K+256<=t):(uR x (jc K s q)).getD t 0#8=x.getD t 0#8:=by
 have hi:256*fa K+256<=x.length:=by rcases xJ K with h|h<;>rw[h]<;>omega
 have En:256*fa K+256<=(lX x (fa K) [] dH).length:=by rw[ng];exact hi
 show(lX (lX x (fa K) [] dH) (fa K) (dh (fF K s)) dH).getD t 0#8=_
 rw[Ir _ _ _ _ En t ht,Ir _ _ _ _ hi t ht]
def tS(A B:JS×Bool):JS×Int:=
 bif A.2&&(!B.2||decide (B.1.q<=A.1.q))then(A.1,32)else bif B.2 then(B.1,33)else(cS,-1)
theorem Pa(x:List (BitVec 8))(h:8704<=x.length):RY x=tS (bZ (sub x 8192 32)) (bZ (sub x 8448 32)):=by
 have hn:¬x.length<8704:=by omega
 unfold RY tS
 simp only[hn,ab1]
theorem Up(A B:JS×Bool):((tS A B).2=32/\A.2=true/\(tS A B).1=A.1/\(B.2=true->B.1.q<=A.1.q))\/((tS A B).2=33/\B.2=true/\(tS A B).1=B.1/\(A.2=true->A.1.q<B.1.q))\/((tS A B).2=-1/\A.2=false/\B.2=false/\(tS A B).1=cS):=by
 obtain⟨a,x⟩:=A
 obtain⟨b,y⟩:=B
 by_cases c:b.q<=a.q
 ·cases x<;>cases y<;>simp[tS,c]
 ·have c':a.q<b.q:=by rw[ab0];rw[abJ]at c;omega
  cases x<;>cases y<;>simp[tS,c,c']
theorem R9{x:List (BitVec 8)}{e:Bool}{s:JS}{q:Nat}(hx:8704<=x.length)(h:fa (some (x,e))=33):sub (uR x (jc (some (x,e)) s q)) 8192 32=sub x 8192 32:=
 sub_congr _ _ (ku _ _) λt h1 h2=>Ck hx t (by rw[h];omega)
theorem Sa{x:List (BitVec 8)}{e:Bool}{s:JS}{q:Nat}(hx:8704<=x.length)(h:fa (some (x,e))=32):sub (uR x (jc (some (x,e)) s q)) 8448 32=sub x 8448 32:=
 sub_congr _ _ (ku _ _) λt h1 h2=>Ck hx t (by rw[h];omega)
theorem Sb(K:FV)(s:JS):cR (fF K s)=cR s:=by
 unfold fF
 generalize (cA K).1.q+1#32=z
 rfl
theorem next_ref{x:List (BitVec 8)}{e:Bool}{s:JS}{q:Nat}(hx:8704<=x.length)(hb:mu (some (x,e)) s=true):RY (uR x (jc (some (x,e)) s q))=(fF (some (x,e)) s,(fa (some (x,e)):Int)):=by
 have hr:=qO x e hx
 have hp:=Pa x hx
 have hrt:cR (fF (some (x,e)) s)=true:=by
  simp only[mu,aav]at hb
  exact(Sb _ s).trans hb.2
 have hpb:=O8 _ hrt
 have hne:¬(cA (some (x,e))).1.q+1#32=0#32:=by
  simp only[mu,aav,acT,abX]at hb
  exact hb.1
 have hlt:(cA (some (x,e))).1.q<(fF (some (x,e)) s).q:=by
  show(cA (some (x,e))).1.q<(cA (some (x,e))).1.q+1#32
  generalize (cA (some (x,e))).1.q=z at hne
  rw[ab0,ach]
  have h1:z.toNat+1≠4294967296:=λh=>hne (by
   apply aaS
   rw[ach]
   show(z.toNat+1) %4294967296=0
   rw[h])
  have:=z.isLt
  show z.toNat<(z.toNat+1) %4294967296
  omega
 rw[Pa _ (by rw[ku];exact hx)]
 have Uq:=WD (x:=x) (K:=some (x,e)) (s:=s) (q:=q) hx
 rw[hr,hp]at hlt
 by_cases c:(cA (some (x,e))).2=32
 ·have h33:fa (some (x,e))=33:=aaM c
  rw[R9 hx h33]
  rw[h33]at Uq
  rw[Uq,hpb,h33]
  rw[hr,hp]at c
  rcases Up (bZ (sub x 8192 32)) (bZ (sub x 8448 32))with⟨g1,g2,g3,g4⟩|⟨g1,g2,g3,g4⟩|⟨g1,g2,g3,g4⟩
  ·rw[g3]at hlt
   generalize bZ (sub x 8192 32)=A at hlt g2
   obtain⟨a,xa⟩:=A
   cases g2
   have hlt:a.q<(fF (some (x,e)) s).q:=hlt
   have:¬(fF (some (x,e)) s).q<=a.q:=by rw[abJ];rw[ab0]at hlt;omega
   simp[tS,this]
  ·rw[g1]at c;cases c
  ·rw[g1]at c;cases c
 ·have rf:fa (some (x,e))=32:=aaE c
  rw[Sa hx rf]
  rw[rf]at Uq
  rw[Uq,hpb,rf]
  rw[hr,hp]at c
  rcases Up (bZ (sub x 8192 32)) (bZ (sub x 8448 32))with⟨g1,g2,g3,g4⟩|⟨g1,g2,g3,g4⟩|⟨g1,g2,g3,g4⟩
  ·exact absurd g1 c
  ·rw[g3]at hlt
   generalize bZ (sub x 8448 32)=B at hlt g2
   obtain⟨b,xb⟩:=B
   cases g2
   have hlt:b.q<(fF (some (x,e)) s).q:=hlt
   have:b.q<=(fF (some (x,e)) s).q:=by rw[abJ];rw[ab0]at hlt;omega
   simp[tS,this]
  ·generalize bZ (sub x 8448 32)=B at g3
   obtain⟨b,xb⟩:=B
   cases g3
   simp[tS]
def vwAt(x bi:List (BitVec 8))(least:Int)(i n:Nat):D:=
 if dG x bi least i=0 then yS 0 (iI x i).1 (.sl L8 n [] 0 (iI x i).2.2.1.length false)else yS (dG x bi least i) fu (.raw (.slice none 0 0))
def vwR(x bi:List (BitVec 8))(least:Int)(i:Nat):Rows:=if dG x bi least i=0 then[some ⟨L8,bs (iI x i).2.2.1⟩]else[]
theorem dw.rd{rows:Rows}{r m:Nat}{x:List (BitVec 8)}(h:dw rows r m x):∃e,bF rows (bE vY) (.ptr SF r [0]) (some (x,e)):=by
 obtain⟨e,hv⟩:=h.view
 exact⟨e,⟨_,hv,bA uN _⟩,λh=>by simp[aT]at h⟩
theorem kLook{rows:Rows}{f m:Nat}{x bi:List (BitVec 8)}{dp:D}(hF:dw rows f m x)(hx:x.length=10240)(hp:bd rows dp bi)(tZ:bi.length<=1000)(least:Int)(i:Nat)(hi:i<=1)(k:D->Rows->Prop):
  aK EZ rows k [.ptr SF f [0],dp,.raw (it least),.raw (it (i:Int))]=k (vwAt x bi least i rows.length) (rows++vwR x bi least i):=by
 obtain⟨e,hr⟩:=hF.rd
 refine(xC hr (.bs hp) (.int _) (.int _) (by simp[mq,hx,tZ];omega) ?_ k).trans ?_
 ·simp only[Wz,yS,cW]
  split<;>simp[b8,je,a8,Sh.pure]
 ·simp only[Wz,vwAt,vwR,aaK,nP]
  by_cases c:dG x bi least i=0<;>simp[c,yS,cW,shift,bu,ab,Sh.pure]
theorem cslot_ok(C:aX)(hC:aJ C P):aP C.aY P 130 (Fn.run B1):=by
 refine aH (Jh C hC) λds rows r h=>?_
 obtain⟨d,i,rfl,rfl,hd,hp,rfl⟩:=aZ h
 cases bK hd
 refine⟨rfl,ae rfl ?_⟩
 clear h hd
 unfold zi zj jK
 by_cases c0:i=0
 ·simp only[↓ag,ah,simprocAttr,c0,aaG,adN]
  exact .val _ rfl
 ·simp only[↓ag,ah,simprocAttr,c0,aaH,acA]
  exact .val _ rfl
structure Cho where
 i:Int
 s:JS
 c:Bool
 t:Bool
 e:Int
abbrev SCo:Sh:= .cons LI (.cons SJ (.cons LB (.cons LB (.cons LI .nil))))
def MA(c:Cho):D:= .agg SCo [.raw (it c.i),jD c.s,.raw (.bool c.c),.raw (.bool c.t),.raw (it c.e)]
def rdBo:D->Option Bool
 | .raw (.bool b)=>some b
 | _=>none
theorem WE{d:D}{b:Bool}(h:rdBo d=some b):d= .raw (.bool b):=by
 unfold rdBo at h
 split at h
 ·cases h;rfl
 ·cases h
noncomputable def F7:Fn:=Xu s6 (bE jD) (bE jD) rdBo (λ_ _ _ _=>true) λi n w t=>(MA ⟨i,n,!decide (n=w),t,0⟩,[])
theorem WG(C:aX)(hC:aJ C P):aP C.aY P 134 (Fn.run F7):=by
 refine aH (Fs C hC) λds rows r h=>?_
 obtain⟨d0,d1,d2,d3,i,n,w,t,rfl,rfl,hd,he,hf,hg,hp,rfl⟩:=tL h
 cases bK hd
 cases aF he
 cases aF hf
 cases WE hg
 refine⟨rfl,ae rfl ?_⟩
 clear h hd he hf hg
 unfold vv vz
 have hz:D.agg SJ [.raw (u32 0#32),.raw (it 0),.raw (it 0),.raw (it 0)]=jD ⟨0#32,0,0,0⟩:=rfl
 have e:=Rq n w
 simp only[hz]
 simp only[↓ag,ah,simprocAttr,aQ,bY,e]
 exact .val _ rfl
theorem kChosen(rows:Rows)(k:D->Rows->Prop)(i:Int)(n w:JS)(t:Bool):aK F7 rows k [.raw (it i),jD n,jD w,.raw (.bool t)]=k (MA ⟨i,n,!decide (n=w),t,0⟩) rows:=by
 refine(bh rfl (Ri (oV i) (bA Aw n) (bA Aw w) (x3:=t) rfl rfl)).trans ?_
 simp[MA,jD,shift,bu,ab,Sh.pure]
def FG(e0 e1 i:Int):Bool:=(decide (i=0)&&decide (e0=0))||(decide (i=1)&&decide (e1=0))
def ny(jk:Int)(s:JS)(e0 e1:Int):Cho:=
 if jk=4 then⟨-1,s,false,false,17⟩else if jk<1\/3<jk then⟨-1,s,false,false,14⟩else
 bif FG e0 e1 s.t&&decide (s.n<3)then⟨s.t,⟨s.q,s.a,s.t,s.n+1⟩,true,true,0⟩else
 bif FG e0 e1 s.a then⟨s.a,⟨s.q,s.a,-1,0⟩,!decide ((⟨s.q,s.a,-1,0⟩:JS)=s),false,0⟩else
 bif FG e0 e1 (1-s.a)then⟨1-s.a,⟨s.q,1-s.a,-1,0⟩,!decide ((⟨s.q,1-s.a,-1,0⟩:JS)=s),false,0⟩else
 ⟨-1,⟨s.q,s.a,-1,0⟩,!decide ((⟨s.q,s.a,-1,0⟩:JS)=s),false,3⟩
def e2D(x:Int×Int):D:= .agg (.ar 2 LI) [.raw (it x.1),.raw (it x.2)]
theorem e2D_inj(x y:Int×Int)(h:e2D x=e2D y):x=y:=by
 simp only[e2D,D.agg.injEq,abL,D.raw.injEq,G3,aci,aa9]at h
 exact Prod.ext h.1 h.2
noncomputable def Sd:Fn:=I0 s6 (bE jD) (bE e2D) (λ_ s _=>cR s) λl s x=>(MA (ny l s x.1 x.2),[])
theorem xK(C C1:aX)(hs:C1.fn 130=some B1){rows:Rows}{r:Nat}{e0 e1 i:Int}(hr:live rows r=some ⟨.ar 2 LI,[e2D (e0,e1)]⟩){K:D->Rows->Prop}(hk:K (.raw (.bool (FG e0 e1 i))) rows):
  aG C1 2 iq ik [.raw (it i),.ptr (.ar 2 LI) r [0]] rows K:=by
 refine ae rfl ?_
 unfold ik iq
 have ks:=λrows k=>ZN rows k i
 unfold FG at hk
 simp only[e2D]at hr
 by_cases c0:i=0
 ·subst c0
  simp only[↓ag,ah,simprocAttr,hs,ks,jK,hr]
  simpa using hk
 ·by_cases c1:i=1
  ·subst c1
   simp only[↓ag,ah,simprocAttr,hs,ks,jK,hr]
   simpa using hk
  ·simp only[↓ag,ah,simprocAttr,hs,ks,jK,c0,c1]
   simpa[c0,c1]using hk
theorem sel_ok(C C1:aX)(hC:aJ C P)(hs:C1.fn 130=some B1)(hc:C.fn 134=some F7)(n0:C.fn 133=none)(r0:C.dO 133=some (aG C1 2 iq ik)):aP C.aY P 70 (Fn.run Sd):=by
 refine aH (Fk C hC) λds rows r h=>?_
 obtain⟨d0,d1,d2,l,s,⟨e0,e1⟩,rfl,rfl,hd,he,hf,hp,rfl⟩:=fS h
 cases bK hd
 cases aF he
 cases aF hf
 refine⟨rfl,ae rfl ?_⟩
 clear h hd he hf
 unfold u7 u9
 have hz:D.agg SJ [.raw (u32 0#32),.raw (it 0),.raw (it 0),.raw (it 0)]=jD ⟨0#32,0,0,0⟩:=rfl
 have ef:(e2D (e0,e1)).fits (.ar 2 LI)=true:=rfl
 have hmb:KU 133 []=false:=rfl
 simp only[hz,ny]
 by_cases c1:l=4
 ·have Wl:(l=4)=True:=aaz c1
  simp only[↓ag,ah,simprocAttr,aQ,bY,ef,Wl,ab6]
  exact .val _ rfl
 have Wl:(l=4)=False:=aaI c1
 by_cases c2:l<1
 ·have c2':(l<1)=True:=aaz c2
  simp only[↓ag,ah,simprocAttr,aQ,bY,ef,Wl,c2',ab6,ab1,aeD]
  exact .val _ rfl
 have c2':(l<1)=False:=aaI c2
 by_cases c3:3<l
 ·have RW:(3<l)=True:=aaz c3
  simp only[↓ag,ah,simprocAttr,aQ,bY,ef,Wl,c2',RW,ab6,ab1,aee]
  exact .val _ rfl
 have RW:(3<l)=False:=aaI c3
 have kc:=λrows k=>kChosen rows k
 obtain⟨q,a,t,n⟩:=s
 have hr:(a=0\/a=1)/\0<=n/\n<=3:=by
  simp only[cR,jK,aav,abN,aaA]at hp
  exact⟨hp.1.1.1,hp.1.2,hp.2⟩
 clear hp hz hmb
 have js1:∀s v,(jD s).set [1] (.raw (it v))=some (jD ⟨s.q,v,s.t,s.n⟩):=λ_ _=>rfl
 have js2:∀s v,(jD s).set [2] (.raw (it v))=some (jD ⟨s.q,s.a,v,s.n⟩):=λ_ _=>rfl
 have js3:∀s v,(jD s).set [3] (.raw (it v))=some (jD ⟨s.q,s.a,s.t,v⟩):=λ_ _=>rfl
 have w1:wz (n+1)=n+1:=be (by omega)
 have w2:wz (1-a)=1-a:=be (by omega)
 have cf:∀c,(MA c).fits SCo=true:=λ_=>rfl
 have hne:(⟨q,a,t,n+1⟩:JS)≠⟨q,a,t,n⟩:=λh=>by injection h;omega
 have CN:decide ((⟨q,a,t,n+1⟩:JS)=⟨q,a,t,n⟩)=false:=aaX hne
 simp only[↓ag,ah,simprocAttr,aQ,bY,ef,Wl,c2',RW,ab1,or_self,zz,Ks,TF,n0,r0]
 refine⟨rfl,xK C C1 hs rfl ?_⟩
 cases k1:FG e0 e1 t&&decide (n<3)with
 |true=>
  obtain⟨k2,k3⟩:=acS.1 k1
  have k3':(n<3)=True:=aaz (ac9 k3)
  simp only[↓ag,ah,simprocAttr,aQ,k2,k3',bY,Ks,TF,js3,w1,hc,kc,CN,cf]
  exact .val _ rfl
 | false =>
  simp only[aaR]
  have k4:FG e0 e1 t=false\/FG e0 e1 t=true/\(n<3)=False:=by
   cases h:FG e0 e1 t
   ·exact .inl rfl
   ·rw[h,acz]at k1
    exact .inr ⟨rfl,aaI (of_decide_eq_false k1)⟩
  rcases k4 with k2|⟨k2,k3⟩
  ·simp only[↓ag,ah,simprocAttr,aQ,k2,bY,zz,js2,js3,n0,r0]
   refine⟨rfl,xK C C1 hs rfl ?_⟩
   cases k5:FG e0 e1 a with
   |true=>
    simp only[↓ag,ah,simprocAttr,aQ,k5,bY,zz,hc,kc,cf]
    exact .val _ rfl
   | false =>
    simp only[↓ag,ah,simprocAttr,aQ,k5,bY,zz,w2,n0,r0]
    refine⟨rfl,xK C C1 hs rfl ?_⟩
    cases k6:FG e0 e1 (1-a)with
    |true=>
     simp only[↓ag,ah,simprocAttr,aQ,k6,bY,js1,hc,kc,cf]
     exact .val _ rfl
    |false=>
     simp only[↓ag,ah,simprocAttr,aQ,k6,bY,Rq]
     exact .val _ rfl
  ·simp only[↓ag,ah,simprocAttr,aQ,k2,k3,bY,zz,TF,js2,js3,n0,r0]
   refine⟨rfl,xK C C1 hs rfl ?_⟩
   cases k5:FG e0 e1 a with
   |true=>
    simp only[↓ag,ah,simprocAttr,aQ,k5,bY,zz,hc,kc,cf]
    exact .val _ rfl
   | false =>
    simp only[↓ag,ah,simprocAttr,aQ,k5,bY,zz,w2,n0,r0]
    refine⟨rfl,xK C C1 hs rfl ?_⟩
    cases k6:FG e0 e1 (1-a)with
    |true=>
     simp only[↓ag,ah,simprocAttr,aQ,k6,bY,js1,hc,kc,cf]
     exact .val _ rfl
    |false=>
     simp only[↓ag,ah,simprocAttr,aQ,k6,bY,Rq]
     exact .val _ rfl
theorem kSel(rows:Rows)(k:D->Rows->Prop)(l:Int)(s:JS)(hs:cR s=true)(e0 e1:Int):aK Sd rows k [.raw (it l),jD s,.agg (.ar 2 LI) [.raw (it e0),.raw (it e1)]]=k (MA (ny l s e0 e1)) rows:=by
 refine(bh rfl (r:=(MA (ny l s e0 e1),[])) ?_).trans ?_
 ·have h:=bA e2D_inj (e0,e1)
  simp only[Sd,Ar,oV,bA Aw,abf,hs]
  rw[show D.agg (.ar 2 LI) [.raw (it e0),.raw (it e1)]=e2D (e0,e1)from rfl,h]
  rfl
 ·simp[MA,jD,shift,bu,ab,Sh.pure]
end iZ
end Go.Am

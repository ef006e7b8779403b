import Derived.Test.YtgcejocgnfkciaaGreatDoorKr19
namespace Go.Am
set_option linter.unusedSimpArgs false
set_option linter.unusedVariables false
attribute [local congr] cd bt cg bu bw bO bg bx bz bP a7 bQ bA b9
namespace iC
open Go.Am.F
set_option maxRecDepth 10000
theorem kPathC(rows:Rows)(k:D→Rows→Prop)(s:oJ)(q:BitVec 32)(hp:ml s=true)(hq:q.toNat<iA s):
  aJ Q2 rows k [wH s,.raw (u32 q)]=k (.sl (.ar 32 L8) (0+rows.length) [] 0 (gX s q.toNat) false) (rows++[some ⟨.ar 32 L8,(l9 s q.toNat).map aW⟩]):=by
 refine(bi (by simp[aN,BQ (eQ.1 hp).2.2.2.2.2.2,aQ]) (jP (bV Ed s) (fK q) hp)).trans ?_
 simp only[if_pos hq]
 simp[shift,ae,Sh.pure]
def iD(s:oJ)(q:BitVec 32)(c m:List (BitVec 8)):List (BitVec 8):=bC q++lq s.o ⟨s.id,q⟩ s.aL c m++bC s.t++(l9 s q.toNat).flatten
theorem X3{s:oJ}(hp:ml s=true){q:Nat}(hq:q<iA s):gX s q≤11:=by
 obtain⟨gV,qX,p8,Ph,hn,wv,HV⟩:=eQ.1 hp
 have h0:iA s+q≠0:=by unfold iA;omega
 have:=(Nat.log2_lt h0 (k:=12)).2 (by unfold iA at*;omega)
 unfold gX;omega
theorem Gi{s:oJ}(hp:ml s=true){q:BitVec 32}(hq:q.toNat<iA s)(c m:List (BitVec 8))(hc:c.length=32):(iD s q c m).length=44+32*pT s.o.toNat+32*gX s q.toNat:=by
 rw[iD]
 simp only[List.length_append,sj _ _ _ _ _ hc,r8 (Gh hp hq),sr]
 show 4+(36+32*pT s.o.toNat)+4+32*gX s q.toNat=_
 omega
noncomputable def Kd:Fn:=Xu (b8 wH) qN (b8 aW) dN (fun s _ c m=>ml s&&sH s.o.toNat&&decide (c.length=32)&&decide (m.length≤1099511627776)) fun s q c m=>
 if q.toNat<iA s then(.cA [.sl L8 0 [] 0 (44+32*pT s.o.toNat+32*gX s q.toNat) false,.raw (it 0)],[some ⟨L8,bs (iD s q c m)⟩])else(.cA [.raw (.slice none 0 0),.raw (it 1)],[])
set_option maxHeartbeats 2000000 in
theorem X4(C:be)(hC:aI C P)(h1:C.fn 38=some qE)(h2:C.fn 40=some Gg)(h3:C.fn 113=some Q2)(h4:C.fn 50=some xP)(h5:C.fn 112=some QX):aO C.aZ P 54 (Fn.run Kd):=by
 refine cr (yl C hC) fun ds rows r h=>?_
 obtain⟨d0,d1,d2,d3,s,q,c,m,rfl,rfl,g0,g1,g2,g3,hp,rfl⟩:=sc h
 cases aF g0
 cases dL g1
 cases aF g2
 obtain⟨xm,hx⟩:=cy g3
 simp only[Bool.and_eq_true,decide_eq_true_eq]at hp
 obtain⟨⟨⟨hp,ho⟩,hc⟩,hm⟩:=hp
 obtain⟨gV,qX,p8,Ph,hn,wv,HV⟩:=eQ.1 hp
 refine⟨rfl,_,.cons (.refl _) (.cons (.refl _) (.cons (.refl _) (.cons hx .nil))),ag rfl ?_⟩
 clear h g0 g1 g2 g3 hx
 unfold o7 o8
 have kL:=fun rows k=>Gf rows k s hp
 have kS:=fun rows k=>kSiteC rows k s q hp
 have hlv:iA s≤1024:=by unfold iA;omega
 have hq32:=q.isLt
 have hcv:BitVec.ofInt 64 ((iA s:Nat):Int)=BitVec.ofNat 64 (iA s):=BitVec.ofInt_natCast _ _
 have bL:=fun(rows:Rows) (l:List (BitVec 8)) (e:Bool)=>(ec.to (rows:=rows) (d:= .cF L8 (bs l) e) (.inr ⟨e,rfl⟩))
 have kG:=fun rows k=>kSign rows k s.o ⟨s.id,q⟩ s.aL c m (.cF L8 (bs m) xm) (bL rows m xm) gV qX hc ho
 simp only[dW]
 by_cases hq:q.toNat<iA s
 rotate_left
 ·have c1:(BitVec.ofNat 64 (iA s)≤q.setWidth 64)=True:=eq_true (by rw[BitVec.le_def,BitVec.toNat_ofNat,BitVec.toNat_setWidth];omega)
  rw[if_neg hq]
  simp only[wH]at kL
  simp only[wH,aW,↓aj,ak,simprocAttr,aa,aX,h1,kL,hcv,c1]
  exact .val _ rfl
 have c1:(BitVec.ofNat 64 (iA s)≤q.setWidth 64)=False:=eq_false (by rw[BitVec.le_def,BitVec.toNat_ofNat,BitVec.toNat_setWidth];omega)
 rw[if_pos hq]
 have kP:=fun rows k=>kPathC rows k s q hp hq
 have jO:=sj s.o ⟨s.id,q⟩ s.aL c m hc
 have hN:=X3 hp hq
 have sO:=sr s q.toNat
 have hp32:=Gh hp hq
 have hpt:pT s.o.toNat≤265:=(j8 ho).2.2.1
 have hsg:iD s q c m=bC q++lq s.o ⟨s.id,q⟩ s.aL c m++bC s.t++(l9 s q.toNat).flatten:=rfl
 rw[hsg]
 generalize lq s.o ⟨s.id,q⟩ s.aL c m=SG at*
 generalize l9 s q.toNat=l at*
 generalize gX s q.toNat=N at*
 simp only[wH]at kL kS kP
 generalize hM:pT s.o.toNat=M at*
 have w4:∀x:BitVec 32,List.take 4 (bs (bC x))=bs (bC x):=fun x=>List.take_of_length_le (Nat.le_refl _)
 have l4:∀x:BitVec 32,(bs (bC x)).length=4:=fun x=>rfl
 have sg1:List.take (36+32*M) (bs SG)=bs SG:=List.take_of_length_le (by rw[aC,jO];exact Nat.le_refl _)
 have sg2:(bs SG).length=36+32*M:=by rw[aC,jO]
 have la:(bs (bC q++SG)).length=4+(36+32*M):=by rw[aC,List.length_append,jO];rfl
 have ta:List.take (4+(36+32*M)) (bs (bC q++SG))=bs (bC q++SG):=List.take_of_length_le (by rw[la];exact Nat.le_refl _)
 simp only[wH,aW,↓aj,ak,simprocAttr,aa,aX,h1,kL,hcv,c1,h2,kS,h5,kG,h4,Mw,h3,kP,w4,l4,sg1,sg2,la,ta,nU]
 refine⟨by omega,by omega,by omega,by omega,?_⟩
 generalize hT:bC q++(SG++bC s.t)=T0
 have e:bC q++(SG++(bC s.t++l.flatten))=T0++l.flatten:=by rw[←hT];simp only[List.append_assoc]
 have lT:T0.length=44+32*M:=by rw[←hT,List.length_append,List.length_append,jO];show 4+(36+32*M+4)=_;omega
 rw[e]
 have hln:l.length=N:=sO
 have hlt:∀i,i≤l.length→(T0++(l.take i).flatten).length=44+32*M+32*i:=fun i hi=>by
  rw[List.length_append,lT,r8 (fun x hx=>hp32 x (List.mem_of_mem_take hx)),List.length_take]
  omega
 refine bB N (fun i env rows=>has env [(57,.raw (it (i:Int))),(56,.raw (it (N:Int))),(55,.sl (.ar 32 L8) 6 [] 0 N false)]∧
  live rows 6=some ⟨.ar 32 L8,l.map aW⟩∧∃d,look env 12=some d∧iK L8 d rows (bs (T0++(l.take i).flatten))) ?_ ?_ ⟨?_,rfl,.sl L8 5 [] 0 (4+(36+(32*M+4))) false,by simp only[↓aj,ak,simprocAttr,aa],.inr ⟨5,false,by rw[List.take_zero,List.flatten_nil,List.append_nil,aC,lT,show 4+(36+(32*M+4))=44+32*M by omega],by rw[List.take_zero,List.flatten_nil,List.append_nil];rfl⟩⟩
 ·rintro i hi env rows ⟨hh,r1,d,h7,hO⟩ R hR
  simp only[has]at hh
  have e0:((i:Int)<(N:Int))=True:=eq_true (by omega)
  have b0:∀n:Nat,((0:Int)≤(n:Int))=True:=fun n=>eq_true (by omega)
  have e1:=cE i (by omega)
  have uv:i<l.length:=by omega
  have hx:=hp32 _ (List.getElem_mem uv)
  have g:(l.map aW)[i]?=some (.agg (.ar 32 L8) (bs l[i])):=by simp[aW,uv]
  have hs:T0++(l.take i).flatten++l[i]=T0++(l.take (i+1)).flatten:=by
   rw[List.append_assoc,List.take_succ_eq_append_getElem uv,List.flatten_append];simp
  have hlen:=hlt i (by omega)
  generalize l[i]=xi at*
  have lt6:=bn r1
  have ea:∀ex,elems (rows++[some ⟨.ar 32 L8,[.agg (.ar 32 L8) (bs xi)]⟩]) (.sl L8 rows.length [0] 0 32 ex)=some (bs xi):=fun ex=>oG (n:=32) (by rw[b6];rfl) rfl hx
  simp only[↓aj,ak,simprocAttr,aa,aX,hh,e0,e1,b0,h7,r1,g,ea,aC,hx]
  refine iX (hO.push) (by rw[aC,aC,hx,hlen];simp[most];omega) (by rw[aC,aC,hx,hlen];simp[most];omega) fun d' ab F4 oD vS _=>?_
  rw[nU,hs]at F4
  have r1':=oD 6 _ (aA r1 _) (fun ex=>ia hO r1 (by decide) ex _)
  simp only[↓aj,ak,simprocAttr,aa,aX,hh,e1]
  exact hR _ _ ⟨by simp only[has,↓aj,ak,simprocAttr,aa,hh],r1',d',by simp only[↓aj,ak,simprocAttr,aa],F4⟩
 ·rintro env rows ⟨hh,r1,d,h7,hO⟩ R
  simp only[has]at hh
  have e0:((N:Int)<(N:Int))=False:=eq_false (by omega)
  have htk:l.take N=l:=List.take_of_length_le (by omega)
  rw[htk]at hO
  have hlen:=hlt l.length (Nat.le_refl _)
  rw[List.take_length]at hlen
  simp only[↓aj,ak,simprocAttr,aa,aX,hh,e0,h7]
  rcases hO with⟨h,_⟩|⟨r,Pj,rfl,hlv⟩
  ·have:=congrArg List.length h
   rw[aC,hlen,List.length_nil]at this
   omega
  ·have hle:(bs (T0++l.flatten)).length=44+(32*M+32*N):=by rw[aC,hlen];omega
   rw[hle]
   exact .ownU [] L8 r 0 _ Pj false _ [.raw (it 0)] hlv rfl rfl rfl (fun h=>by cases h)
 ·simp only[has,↓aj,ak,simprocAttr,aa]
theorem kForceV(rows:Rows)(k:D→Rows→Prop)(d e:D)(s:oJ)(q:BitVec 32)(c m:List (BitVec 8))(h:bT rows (b8 wH) d s)(hm:bc rows e m)(hp:ml s=true)(ho:sH s.o.toNat=true)(hc:c.length=32)(hml:m.length≤1099511627776)(hq:q.toNat<iA s):
  aJ Kd rows k [d,.raw (u32 q),.agg (.ar 32 L8) (bs c),e]=k (.cA [.sl L8 (0+rows.length) [] 0 (44+32*pT s.o.toNat+32*gX s q.toNat) false,.raw (it 0)]) (rows++[some ⟨L8,bs (iD s q c m)⟩]):=by
 refine(vO h (bT.raw (fK q)) (iQ c) (.bs hm) (by simp[hp,ho,hc,hml]) (by simp only[if_pos hq];rfl) k).trans ?_
 simp only[if_pos hq]
 simp[shift,bh,ae,Sh.pure]
theorem shl_it(b w:Nat)(hb:b≤4)(hw:w≤30)(k:D→Prop):bE .shl (it (b:Int)) (it (w:Int)) k=k (.raw (it ((b*2^w:Nat):Int))):=by
 have hm:min ((w:Int)).toNat IntKind.i64.bits=w:=by show min ((w:Int)).toNat 64=w;omega
 have hp:2^w≤2^30:=Nat.pow_le_pow_right (by decide) hw
 have hq:b*2^w≤4*2^30:=Nat.mul_le_mul hb hp
 have e:(b:Int)*2^w=((b*2^w:Nat):Int):=by simp
 simp only[bE,it]
 rw[hm,e]
 have hz:IntKind.i64.wrap ((b*2^w:Nat):Int)=((b*2^w:Nat):Int):=bf (by omega)
 rw[hz]
 simp
structure Plc where
 q:BitVec 32
 i:Int
 j:Int
def Q3(q:BitVec 32)(i:Int):D:= .agg ML [.raw (u32 q),.raw (it i)]
def j2(m:List (BitVec 8)):ByteArray:=⟨(ub m).toArray⟩
def eJ(rows ab:Rows):Prop:=∀q row,live rows q=some row→live ab q=some row
theorem eJ.refl(rows:Rows):eJ rows rows:=fun _ _ h=>h
theorem eJ.app(rows L:Rows):eJ rows (rows++L):=fun _ _ h=>bJ h
theorem eJ.trans{a b c:Rows}(h:eJ a b)(h':eJ b c):eJ a c:=fun q row hq=>h' q row (h q row hq)
theorem eJ.set{rows rs:Rows}(h:eJ rows rs){q:Nat}(hq:rows.length≤q)(x:Option Row):eJ rows (rs.set q x):=fun p row hp=>by
 have:=bn hp
 rw[aE (by omega)]
 exact h p row hp
structure Sg where
 t:BitVec 32
 o:BitVec 32
 id:List (BitVec 8)
 aL:List (BitVec 8)
 ns:List (List (BitVec 8))
 nx:BitVec 32
 sm:List D
 tm:List D
 last:List (List (BitVec 8)×List (BitVec 8))
structure yI where
 r:Nat
 nr:Nat
 ms:Nat
 mt:Nat
 ne:Bool
 dl:D
def Gj(x:List (BitVec 8)×List (BitVec 8)):D:= .agg jZ [.raw (.string (j2 x.1)),.agg (.ar 32 L8) (bs x.2)]
def BR(L:yI)(s:Sg):D:= .agg iG [.raw (u32 s.t),.raw (u32 s.o),.agg (.ar 16 L8) (bs s.id),.agg (.ar 32 L8) (bs s.aL),.sl (.ar 32 L8) L.nr [] 0 s.ns.length L.ne,.raw (u32 s.nx),.mp L.ms,.mp L.mt,L.dl]
structure qa (rows:Rows) (L:yI) (s:Sg):Prop where
 a:live rows L.r=some ⟨iG,[BR L s]⟩
 n:live rows L.nr=some ⟨.ar 32 L8,s.ns.map aW⟩
 m:live rows L.ms=some ⟨AA,s.sm⟩
 t:live rows L.mt=some ⟨C9,s.tm⟩
 l:iK jZ L.dl rows (s.last.map Gj)
def ldV(L:yI)(s:Sg):D:=match L.dl with
 | .sl _ _ _ _ _ ex=> .cF jZ (s.last.map Gj) ex
 |d=>d
def Sg.v(s:Sg)(L:yI):oJ:=⟨s.t,s.o,s.id,s.aL,s.ns,L.ne,s.nx,s.sm,s.tm,ldV L s⟩
theorem qa.keep{rows ab:Rows}{L:yI}{s:Sg}(h:qa rows L s)(hk:eJ rows ab):qa ab L s:=by
 refine⟨hk _ _ h.a,hk _ _ h.n,hk _ _ h.m,hk _ _ h.t,?_⟩
 rcases h.l with h|⟨r,ex,e,hl⟩
 ·exact .inl h
 ·exact .inr ⟨r,ex,e,hk _ _ hl⟩
theorem qa.push{rows:Rows}{L:yI}{s:Sg}(h:qa rows L s)(more:Rows):qa (rows++more) L s:=h.keep (eJ.app _ _)
theorem qa.vw{rows:Rows}{L:yI}{s:Sg}(h:qa rows L s)(n:Nat):view rows (n+4) (.ptr iG L.r [0])=some (wH (s.v L)):=by
 have en:elems rows (.sl (.ar 32 L8) L.nr [] 0 s.ns.length L.ne)=some (s.ns.map aW):=by
  simp only[elems,h.n]
  simp[List.take_of_length_le]
 have hm:live rows L.ms=some ⟨AA,s.sm⟩:=h.m
 have ht:live rows L.mt=some ⟨C9,s.tm⟩:=h.t
 have hv:view rows (n+2) L.dl=some (ldV L s):=by
  rcases h.l with⟨e2,e⟩|⟨r,ex,e,hl⟩
  ·rw[ldV,e];rfl
  ·have HE:(s.last.map Gj).length=s.last.length:=List.length_map _
   have el:elems rows (.sl jZ r [] 0 s.last.length ex)=some (s.last.map Gj):=by
    simp only[elems,hl]
    simp[List.take_of_length_le]
   rw[ldV,e,HE]
   simp[view,el,Sh.pure]
 have h7:view rows (n+3) (BR L s)=some (.agg iG [.raw (u32 s.t),.raw (u32 s.o),.agg (.ar 16 L8) (bs s.id),.agg (.ar 32 L8) (bs s.aL),.cF (.ar 32 L8) (s.ns.map aW) L.ne,.raw (u32 s.nx),.om AA s.sm,.om C9 s.tm,ldV L s]):=by
  unfold BR
  rw[WC]
  simp[Sh.pure,view,cW,en,hm,ht,hv]
 rw[WD,h.a]
 have hg:cP [BR L s] [0]=some (BR L s):=rfl
 simp only[Option.bind_some,hg,h7]
 rfl
theorem qa.rd{rows:Rows}{L:yI}{s:Sg}(h:qa rows L s):bT rows (b8 wH) (.ptr iG L.r [0]) (s.v L):=
 ⟨⟨wH (s.v L),h.vw 5,bV Ed _⟩,fun h=>by simp[aQ]at h⟩
theorem Sg.Gk{L:yI}{s:Sg}{rows:Rows}(h:qa rows L s):aQ (ldV L s)=false:=by
 rcases h.l with⟨e2,e⟩|⟨r,ex,e,hl⟩
 ·rw[ldV,e];rfl
 ·rw[ldV,e];rfl
def lfS(o:BitVec 32)(id aL:List (BitVec 8))(H r:Nat):List (BitVec 8):=nD id (BitVec.ofNat 32 r) (DI o.toNat ⟨id,BitVec.ofNat 32 (r-H)⟩ aL)
def Q4(o:BitVec 32)(id aL:List (BitVec 8))(H:Nat)(N:List (List (BitVec 8)))(r:Nat):List (BitVec 8):=if H≤r then lfS o id aL H r else sn id (BitVec.ofNat 32 r) (N.getD (2*r) []) (N.getD (2*r+1) [])
def mT(o:BitVec 32)(id aL:List (BitVec 8))(H:Nat):Nat→List (List (BitVec 8))
 |0=>List.replicate (2*H) ug
 |k+1=>(mT o id aL H k).set (2*H-1-k) (Q4 o id aL H (mT o id aL H k) (2*H-1-k))
def kx(o:BitVec 32)(id aL:List (BitVec 8))(H:Nat):List (List (BitVec 8)):=mT o id aL H (2*H-1)
section
variable (o:BitVec 32) (id aL:List (BitVec 8)) (H:Nat)
theorem AD:∀k,(mT o id aL H k).length=2*H
 |0=>by simp[mT]
 |k+1=>by simp[mT,AD k]
theorem ndV_len(N:List (List (BitVec 8)))(r:Nat):(Q4 o id aL H N r).length=32:=by
 unfold Q4
 split
 ·exact BP _ _ _
 ·exact IB _ _ _ _
theorem Po:∀k,∀x∈mT o id aL H k,x.length=32
 |0,x,hx=>by rw[List.eq_of_mem_replicate hx];rfl
 |k+1,x,hx=>by
  rcases List.mem_or_eq_of_mem_set hx with h|rfl
  ·exact Po k x h
  ·exact ndV_len _ _ _ _ _ _
theorem Gl(k:Nat):∀m j,1≤j→2*H-k≤j→(mT o id aL H (k+m)).getD j []=(mT o id aL H k).getD j []
 |0,j,_,_=>rfl
 | m + 1, j, h0, h => by
  have ih:=Gl k m j h0 h
  rw[show k+(m+1)=(k+m)+1 from rfl,mT]
  by_cases hlt:j<2*H
  ·rw[←ih]
   have hne:2*H-1-(k+m)≠j:=by omega
   simp only[List.getD,List.getElem?_set_ne hne]
  ·rw[←ih]
   have h1:(mT o id aL H (k+m)).length≤j:=by rw[AD];omega
   simp only[List.getD]
   rw[List.getElem?_eq_none (by rw[List.length_set];exact h1),List.getElem?_eq_none h1]
theorem MO(r:Nat)(h1:1≤r)(h2:r<2*H):(kx o id aL H).getD r []=Q4 o id aL H (kx o id aL H) r:=by
 obtain⟨k,hk⟩:∃k,r=2*H-1-k:=⟨2*H-1-r,by omega⟩
 have e1:(kx o id aL H).getD r []=(mT o id aL H (k+1)).getD r []:=by
  have:=Gl o id aL H (k+1) (2*H-1-(k+1)) r (by omega) (by omega)
  rw[show k+1+(2*H-1-(k+1))=2*H-1 by omega]at this
  exact this
 have hl:=AD o id aL H k
 rw[e1,mT,←hk]
 have e2:((mT o id aL H k).set r (Q4 o id aL H (mT o id aL H k) r)).getD r []=Q4 o id aL H (mT o id aL H k) r:=by
  simp[List.getD,hl,h2]
 rw[e2]
 unfold Q4
 by_cases hH:H≤r
 ·rw[if_pos hH,if_pos hH]
 ·rw[if_neg hH,if_neg hH]
  have st:=fun j (h0:1≤j) (hj:2*H-k≤j)=>by
   have:=Gl o id aL H k (2*H-1-k) j h0 hj
   rw[show k+(2*H-1-k)=2*H-1 by omega]at this
   exact this
  show sn _ _ _ _=sn _ _ ((kx o id aL H).getD (2*r) []) ((kx o id aL H).getD (2*r+1) [])
  rw[kx,st (2*r) (by omega) (by omega),st (2*r+1) (by omega) (by omega)]
theorem Pp(r:Nat)(h1:H≤r)(h2:r<2*H):(kx o id aL H).getD r []=lfS o id aL H r:=by
 rw[MO o id aL H r (by omega) h2,Q4,if_pos h1]
theorem Pq(r:Nat)(h1:1≤r)(h2:r<H):(kx o id aL H).getD r []=sn id (BitVec.ofNat 32 r) ((kx o id aL H).getD (2*r) []) ((kx o id aL H).getD (2*r+1) []):=by
 rw[MO o id aL H r h1 (by omega),Q4,if_neg (by omega)]
end
structure sv (rows:Rows) (q a w:Nat) (c:pU):Prop where
 ch:live rows q=some ⟨Pf,[.agg Pf [.ptr G3 a [0],.raw (.bool c.s)]]⟩
 ar:live rows a=some ⟨G3,[.agg G3 [.sl AX w [] 0 64 c.e]]⟩
 dat:live rows w=some ⟨AX,c.ws.map AY⟩
 len:c.ws.length=64
theorem sv.keep{rows ab:Rows}{q a w:Nat}{c:pU}(h:sv rows q a w c)(f:∀p row,live rows p=some row→(p=q∨p=a∨p=w)→live ab p=some row):sv ab q a w c:=
 ⟨f _ _ h.ch (.inl rfl),f _ _ h.ar (.inr (.inl rfl)),f _ _ h.dat (.inr (.inr rfl)),h.len⟩
theorem sv.push{rows:Rows}{q a w:Nat}{c:pU}(h:sv rows q a w c)(L:Rows):sv (rows++L) q a w c:=h.keep fun _ _ hq _=>bJ hq
theorem ar_view{rows:Rows}{a w:Nat}{x:List Wd}{e:Bool}(h1:live rows a=some ⟨G3,[.agg G3 [.sl AX w [] 0 64 e]]⟩)(h2:live rows w=some ⟨AX,x.map AY⟩)(hl:x.length=64)(n:Nat):view rows (n+3) (.ptr G3 a [0])=some (XG (x,e)):=by
 have he:elems rows (.sl AX w [] 0 64 e)=some (x.map AY):=by
  simp only[elems,h2]
  simp[List.take_of_length_le,hl]
 simp only[view,h1,cP,List.getElem?_cons_zero,D.get,Sh.pure,cW]
 rw[he]
 simp[cW,he,hl,XG,Z6]
theorem sv.rd{rows:Rows}{q a w:Nat}{c:pU}(h:sv rows q a w c):bT rows (b8 qZ) (.ptr Pf q [0]) c:=by
 refine⟨⟨qZ c,?_,bV D9 c⟩,fun h=>by simp[aQ]at h⟩
 have he:elems rows (.sl AX w [] 0 64 c.e)=some (c.ws.map AY):=by
  simp only[elems,h.dat]
  simp[List.take_of_length_le,h.len]
 simp only[view,h.ch,h.ar,cP,List.getElem?_cons_zero,D.get,Sh.pure,cW,Bool.and_false,Bool.and_true,cond_false,Bool.false_and]
 rw[he]
 simp[cW,he,h.len,qZ,Z6]
theorem X5{rows:Rows}{a w:Nat}{x:List Wd}{e:Bool}(h1:live rows a=some ⟨G3,[.agg G3 [.sl AX w [] 0 64 e]]⟩)(h2:live rows w=some ⟨AX,x.map AY⟩)(hl:x.length=64):bT rows (b8 XG) (.ptr G3 a [0]) (x,e):=
 ⟨⟨_,ar_view h1 h2 hl 6,bV QR _⟩,fun h=>by simp[aQ]at h⟩
noncomputable def qF:Fn:=wS (b8 XG) rC (fun x i=>decide (x.1.length=64)&&decide (0≤i)&&decide (i<64)) fun _ _=>(.raw (it 0),[])
theorem Ub(C:be)(hC:aI C P):aO C.aZ P 189 (Fn.run qF):=by
 refine aH (yB C hC) fun ds rows r h=>?_
 obtain⟨d,e,⟨x,e⟩,i,rfl,rfl,hd,he,hp,rfl⟩:=dq h
 cases aF hd
 cases bX he
 simp only[Bool.and_eq_true,decide_eq_true_eq]at hp
 obtain⟨⟨hl,h0⟩,h1⟩:=hp
 refine⟨rfl,ag rfl ?_⟩
 clear h hd he
 unfold pq pw
 have e1:(i<0)=False:=eq_false (by omega)
 have e2:((64:Int)≤i)=False:=eq_false (by omega)
 have mh:(x.map AY).length=64:=by rw[List.length_map,hl]
 simp only[XG,Z6,↓aj,ak,simprocAttr,aa,e1,e2,mh]
 exact .val _ rfl
theorem Q5{rows:Rows}{d:D}{x:List Wd×Bool}(h:bT rows (b8 XG) d x)(hl:x.1.length=64)(i:Nat)(hi:i<64)(k:D→Rows→Prop):aJ qF rows k [d,.raw (it (i:Int))]=k (.raw (it 0)) rows:=by
 refine(jB h (.int _) (by simp[hl];omega) rfl k).trans ?_
 simp[shift,ae]
theorem X6{x:List Wd}{i:Nat}(h:i<x.length):(x.map AY)[i]?=some (.agg AX [.raw (u32 x[i].1),.raw (.bool x[i].2)]):=by
 simp[h,AY]
theorem X7(x:List Wd)(i:Nat)(v:BitVec 32)(l:Bool):(x.map AY).set i (.agg AX [.raw (u32 v),.raw (.bool l)])=(x.set i (v,l)).map AY:=by
 rw[List.map_set];rfl
theorem cut_run(C:be){rows:Rows}{a w:Nat}{x:List Wd}{e:Bool}(h1:live rows a=some ⟨G3,[.agg G3 [.sl AX w [] 0 64 e]]⟩)(h2:live rows w=some ⟨AX,x.map AY⟩)(hl:x.length=64){i:Nat}(hi:i<x.length){v g:BitVec 32}
  (hok:x[i].1&&&~~~v=0#32)(hT:C.fn 189=some qF){K:D→Rows→Prop}(hk:K (.raw (it 0)) (rows.set w (some ⟨AX,(x.set i (x[i].1|||v&&&g,x[i].2)).map AY⟩))):
  aR C 4 iq ik [.ptr G3 a [0],.raw (it (i:Int)),.raw (u32 v),.raw (u32 g)] rows K:=by
 refine ag rfl ?_
 unfold ik iq
 have kT:=fun k=>Q5 (X5 h1 h2 hl) hl i (by omega) k
 have e1:((i:Int)<64)=True:=eq_true (by omega)
 have g1:=X6 hi
 simp only[↓aj,ak,simprocAttr,aa,hT,kT,h1,h2,e1,g1,X7,hok,Int.natCast_nonneg,Int.toNat_natCast]
 exact hk
def jK(x:List Wd)(l:List Wr):Nat→List Wd
 |0=>x
 | n + 1 => match l[n]? with
  |some p=>match(jK x l n)[p.1]? with
   |some o=>(jK x l n).set p.1 (o.1|||p.2,o.2)
   |none=>jK x l n
  |none=>jK x l n
theorem ID(x:List Wd)(l:List Wr):∀n,(jK x l n).length=x.length
 |0=>rfl
 | n + 1 => by
  have ih:=ID x l n
  rw[jK]
  split
  ·split
   ·rw[List.length_set,ih]
   ·exact ih
  ·exact ih
def Pr(x:List Wd)(l:List Wr):Prop:=∀j p,l[j]?=some p→∃o,(jK x l j)[p.1]?=some o∧o.1&&&~~~p.2=0#32
structure PrgC (C2 C1 C:be):Prop where
 th:C2.fn 189=some qF
 n1:C1.fn 165=none
 r1:C1.fU 165=some (aR C2 4 iq ik)
 n0:C.fn 108=none
 r0:C.fU 108=some (aR C1 3 fm fk)
theorem X8(v:BitVec 32):v&&&4294967295#32=v:=BitVec.and_allOnes
theorem prg_run(C C1 C2:be)(H:PrgC C2 C1 C){rows:Rows}{a w:Nat}{x:List Wd}{e:Bool}(h1:live rows a=some ⟨G3,[.agg G3 [.sl AX w [] 0 64 e]]⟩)(h2:live rows w=some ⟨AX,x.map AY⟩)(hl:x.length=64){i:Nat}(hi:i<x.length){v:BitVec 32}
  (hok:x[i].1&&&~~~v=0#32){K:D→Rows→Prop}(hk:K (.raw (it 0)) (rows.set w (some ⟨AX,(x.set i (x[i].1|||v,x[i].2)).map AY⟩))):
  aR C1 3 fm fk [.ptr G3 a [0],.raw (it (i:Int)),.raw (u32 v)] rows K:=by
 refine ag rfl ?_
 unfold fk fm
 simp only[↓aj,ak,simprocAttr,aa,H.n1,H.r1]
 refine cut_run C2 (e:=e) h1 h2 hl hi hok H.th ?_
 rw[X8]
 simp only[↓aj,ak,simprocAttr,aa]
 exact hk
theorem Ke(C C1 C2:be)(H:PrgC C2 C1 C){rows:Rows}{q a w ro n:Nat}{ex:Bool}{c:pU}{l:List Wr}(hc:sv rows q a w c)(hr:live rows ro=some ⟨Hp,l.map wrD⟩)(hn:l.length=n)(hn2:n≤1000)(hok:Pr c.ws l){K:D→Rows→Prop}
  (hk:∀ab,sv ab q a w ⟨jK c.ws l l.length,c.e,c.s⟩→(∀p row,live rows p=some row→p≠w→live ab p=some row)→K (.raw (it 0)) ab):
  aR C 2 jW jV [.ptr Pf q [0],.sl Hp ro [] 0 n ex] rows K:=by
 subst hn
 refine ag rfl ?_
 unfold jV jW
 have ne:ro≠w:=fun e=>by rw[e,hc.dat]at hr;cases hr
 have nq:q≠w:=fun e=>by have:=hc.ch;rw[e,hc.dat]at this;cases this
 have na:a≠w:=fun e=>by have:=hc.ar;rw[e,hc.dat]at this;cases this
 simp only[↓aj,ak,simprocAttr,aa]
 refine bB l.length (fun j env rs=>has env [(12,.raw (it (j:Int))),(11,.raw (it (l.length:Int))),(10,.sl Hp ro [] 0 l.length ex),(0,.ptr Pf q [0])]∧sv rs q a w ⟨jK c.ws l j,c.e,c.s⟩∧∀p row,live rows p=some row→p≠w→live rs p=some row) ?_ ?_ ⟨?_,hc,fun p row h _=>h⟩
 ·rintro j hj env rs ⟨hh,hC,hf⟩ R hR
  simp only[has]at hh
  have e0:((j:Int)<(l.length:Int))=True:=eq_true (by omega)
  have e1:=cE j (by omega)
  have hl:=hf _ _ hr ne
  have g:(l.map wrD)[j]?=some (.agg Hp [.raw (it (l[j].1:Int)),.raw (u32 l[j].2)]):=by simp[hj,wrD]
  obtain⟨o,ho,hz⟩:=hok j l[j] (List.getElem?_eq_getElem hj)
  have hs:jK c.ws l (j+1)=(jK c.ws l j).set l[j].1 (o.1|||l[j].2,o.2):=by
   rw[jK,List.getElem?_eq_getElem hj]
   simp only[ho]
  generalize l[j]=p at*
  have hC1:=hC.ch
  have hCa:=hC.ar
  have hC1':=fun L=>aA hC1 L
  simp only[↓aj,ak,simprocAttr,aa,aX,hh,hl,g,e0,hC1',H.n0,H.r0,Int.natCast_nonneg,Int.toNat_natCast]
  obtain⟨hlt,rfl⟩:=List.getElem?_eq_some_iff.1 ho
  refine prg_run C C1 C2 H (e:=c.e) (aA hCa _) (aA hC.dat _) hC.len hlt hz ?_
  rw[←hs]
  simp only[↓aj,ak,simprocAttr,aa,aX,hh,e1]
  have hdat:=aA hC.dat [some ⟨Hp,[.agg Hp [.raw (it (p.1:Int)),.raw (u32 p.2)]]⟩]
  refine hR _ _ ⟨by simp only[has,↓aj,ak,simprocAttr,aa,hh],⟨cK (aA hC1 _) (Ne.symm nq),cK (aA hCa _) (Ne.symm na),aG hdat,?_⟩,fun p row h hp=>cK (aA (hf p row h hp) _) (Ne.symm hp)⟩
  rw[ID];exact hc.len
 ·rintro env rs ⟨hh,hC,hf⟩ R
  simp only[has]at hh
  have e0:((l.length:Int)<(l.length:Int))=False:=eq_false (by omega)
  simp only[↓aj,ak,simprocAttr,aa,hh,e0]
  exact hk rs hC hf
 ·simp only[has,↓aj,ak,simprocAttr,aa]
theorem X9(C:be){rows:Rows}{a w:Nat}{x:List Wd}{e:Bool}(h1:live rows a=some ⟨G3,[.agg G3 [.sl AX w [] 0 64 e]]⟩)(h2:live rows w=some ⟨AX,x.map AY⟩)(hl:x.length=64){i:Nat}(hi:i<x.length)
  (hT:C.fn 189=some qF){K:D→Rows→Prop}(hk:K (.raw (it 0)) (rows.set w (some ⟨AX,(x.set i (x[i].1,true)).map AY⟩))):
  aR C 2 fy fx [.ptr G3 a [0],.raw (it (i:Int))] rows K:=by
 refine ag rfl ?_
 unfold fx fy
 have kT:=fun k=>Q5 (X5 h1 h2 hl) hl i (by omega) k
 have e1:((i:Int)<64)=True:=eq_true (by omega)
 have g1:=X6 hi
 simp only[↓aj,ak,simprocAttr,aa,hT,kT,h1,h2,e1,g1,X7,Int.natCast_nonneg,Int.toNat_natCast]
 exact hk
theorem Ya(C C1:be)(hT:C1.fn 189=some qF)(n0:C.fn 200=none)(r0:C.fU 200=some (aR C1 2 fy fx)){rows:Rows}{q a w:Nat}{c:pU}(hc:sv rows q a w c){K:D→Rows→Prop}
  (hk:∀ab c',sv ab q a w c'→c'.w=c.w→(∀p row,live rows p=some row→p≠q→p≠w→live ab p=some row)→K (.cA []) ab):
  aR C 1 iN iM [.ptr Pf q [0]] rows K:=by
 refine ag rfl ?_
 unfold iM iN
 have nq:q≠w:=fun e=>by have:=hc.ch;rw[e,hc.dat]at this;cases this
 have na:a≠w:=fun e=>by have:=hc.ar;rw[e,hc.dat]at this;cases this
 have nqa:q≠a:=fun e=>by have:=hc.ch;rw[e,hc.ar]at this;cases this
 have h1:=hc.ch
 simp only[↓aj,ak,simprocAttr,aa,h1]
 refine bB 36 (fun j env rs=>has env [(2,.raw (it ((27+j:Nat):Int))),(0,.ptr Pf q [0])]∧∃c',sv rs q a w c'∧c'.w=c.w∧∀p row,live rows p=some row→p≠q→p≠w→live rs p=some row) ?_ ?_ ⟨?_,⟨c.ws,c.e,true⟩,⟨aG h1,cK hc.ar nqa,cK hc.dat nq,hc.len⟩,rfl,fun p row h hq _=>cK h (Ne.symm hq)⟩
 ·rintro j hj env rs ⟨hh,c',hC,hw,hf⟩ R hR
  simp only[has]at hh
  have e0:(((27+j:Nat):Int)<63)=True:=eq_true (by omega)
  have e1:=cE (27+j) (by omega)
  have hC1:=hC.ch
  have hl:=hC.len
  simp only[↓aj,ak,simprocAttr,aa,hh,hC1,e0,n0,r0]
  refine X9 C1 hC.ar hC.dat hC.len (i:=27+j) (by omega) hT ?_
  simp only[↓aj,ak,simprocAttr,aa,hh,e1]
  refine hR _ _ ⟨by simp only[has,↓aj,ak,simprocAttr,aa,hh];rfl,⟨c'.ws.set (27+j) ((c'.ws[27+j]'(by omega)).1,true),c'.e,c'.s⟩,⟨cK hC1 (Ne.symm nq),cK hC.ar (Ne.symm na),aG hC.dat,by rw[List.length_set];exact hl⟩,?_,fun p row h hq hp=>cK (hf p row h hq hp) (Ne.symm hp)⟩
  rw[←hw]
  show List.map _ (List.set _ _ _)=_
  rw[List.map_set]
  have Dn:27+j<(c'.ws.map (·.1)).length:=by rw[List.length_map];omega
  have:(c'.ws.map (·.1)).set (27+j) ((c'.ws.map (·.1))[27+j])=c'.ws.map (·.1):=List.set_getElem_self Dn
  rw[List.getElem_map]at this
  exact this
 ·rintro env rs ⟨hh,c',hC,hw,hf⟩ R
  simp only[has]at hh
  have e0:(((27+36:Nat):Int)<63)=False:=eq_false (by omega)
  simp only[↓aj,ak,simprocAttr,aa,hh,e0]
  exact hk rs c' hC hw hf
 ·simp only[has,↓aj,ak,simprocAttr,aa]
def DM:pU:=⟨List.replicate 64 (0#32,false),true,false⟩
theorem Uc(C:be){rows:Rows}{K:D→Rows→Prop}(hk:K (.cA [.ptr G3 (rows.length+1) [0],.raw (it 0)]) (rows++[some ⟨AX,DM.ws.map AY⟩,some ⟨G3,[.agg G3 [.sl AX rows.length [] 0 64 true]]⟩])):
  aR C 1 mL mK [.raw (it 64)] rows K:=by
 refine ag rfl ?_
 unfold mK mL
 have hz:List.replicate 64 (D.agg AX [.raw (u32 0#32),.raw (.bool false)])=DM.ws.map AY:=rfl
 simp only[↓aj,ak,simprocAttr,aa,aX,hz]
 exact hk
theorem Yb(C C1:be)(n0:C.fn 104=none)(r0:C.fU 104=some (aR C1 1 mL mK)){rows:Rows}{K:D→Rows→Prop}
  (hk:∀ab,eJ rows ab→sv ab (rows.length+2) (rows.length+1) rows.length DM→K (.ptr Pf (rows.length+2) [0]) ab):
  aR C 0 rL rK [] rows K:=by
 refine ag rfl ?_
 unfold rK rL
 simp only[↓aj,ak,simprocAttr,aa,n0,r0]
 refine Uc C1 ?_
 simp only[↓aj,ak,simprocAttr,aa,aX]
 exact hk _ (eJ.app _ _) ⟨by rw[cD];rfl,by rw[cD];rfl,by rw[b6];rfl,rfl⟩
end iC
end Go.Am

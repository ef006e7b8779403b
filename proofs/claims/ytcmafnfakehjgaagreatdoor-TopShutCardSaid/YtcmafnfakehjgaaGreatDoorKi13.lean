import Derived.Test.YtcmafnfakehjgaaGreatDoorKi12
set_option linter.unusedSimpArgs false
set_option linter.unusedVariables false
set_option maxRecDepth 10000
set_option maxHeartbeats 4000000
namespace Go.Am
attribute [local congr] cJ bI cK bJ bK b6 bw bN bO b7 bi b8 bP cI
namespace kj
open Go.Am.F
abbrev jW(e:Int):D:= .agg S7 [.raw (it e),.raw (it 0),.raw (.slice none 0 0)]
theorem Ry(C:aU)(h0:C.fn 9=none)(h1:∃C1,C.cV 9=some (aB C1 1 eh ee)){rows:Rows}{o f q p b:Nat}{m k d:D}{B:Bt}{y:BitVec 8}{N:Int}{a:BitVec 32}(hy:y=11#8\/y=12#8)(jn:live rows o=some ⟨mG,[G6 f q p m (.ptr jN b [0]) k]⟩)(hb:cO rows b B)(hp:B.ph<8){K:D->Rows->Prop}
  (hk:K (jW 14) (rows++[some ⟨S1,[Fs y N a d]⟩,some ⟨S7,[jW 14]⟩])):aB C 2 df cZ [.ptr mG o [0],Fs y N a d] rows K:=by
 refine ae rfl ?_
 unfold cZ df
 obtain⟨C1,h1⟩:=h1
 have e8:(B.ph=8)=False:=aaw (by omega)
 simp only[Fs]at*
 rcases hy with rfl|rfl<;>
 ·simp only[↓ag,ah,simprocAttr,simprocAttr,aK,h0,h1]
  refine uW C1 (ab jn _) (ab hb _) ?_
  simp only[↓ag,ah,simprocAttr,simprocAttr,aK,e8]
  exact hk
theorem kx(C:aU)(h2:C.fn 37=none)(h3:∃C1,C.cV 37=some (aB C1 2 df cZ)/\C1.fn 9=none/\∃C2,C1.cV 9=some (aB C2 1 eh ee)){rows:Rows}{o f q p b:Nat}{L:Ly}{k d:D}{B:Bt}{y:BitVec 8}{N:Int}{a:BitVec 32}(hy:y=11#8\/y=12#8)(jn:WL o f q p L b k rows)(hb:cO rows b B)(hp:B.ph<8){K:D->Rows->Prop}
  (hk:∀R,K (jW 14) (rows++R)):aB C 2 dG dF [.ptr mG o [0],Fs y N a d] rows K:=by
 refine ae rfl ?_
 unfold dF dG
 obtain⟨C1,h3,h0,C2,h1⟩:=h3
 have sA:=λl=>ab jn l
 rcases hy with rfl|rfl<;>
 ·simp only[Fs]at*
  simp only[↓ag,ah,simprocAttr,simprocAttr,aK,sA,sy,h2,h3]
  refine Ry C1 h0 ⟨C2,h1⟩ (by decide) (ab jn _) (ab hb _) hp ?_
  simp only[↓ag,ah,simprocAttr,simprocAttr,aK,aaB]
  exact hk _
theorem do0_run(C C1:aU)(h0:C.fn 30=none)(h1:C.cV 30=some (aB C1 1 jS jR)){rows:Rows}{o:Nat}{d:D}{N:Int}{a:BitVec 32}{W:Rows->Prop}(ho:∀K:D->Rows->Prop,(∀aa,W aa->K oo aa)->aB C1 1 jS jR [.ptr mG o [0]] (rows++[some ⟨S1,[Fs 0#8 N a d]⟩,some ⟨S7,[oo]⟩]) K){K:D->Rows->Prop}
  (hk:∀aa,W aa->live aa (rows.length+1)=some ⟨S7,[oo]⟩/\K oo aa):aB C 2 dG dF [.ptr mG o [0],Fs 0#8 N a d] rows K:=by
 refine ae rfl ?_
 unfold dF dG
 simp only[Fs]at*
 simp only[↓ag,ah,simprocAttr,simprocAttr,aK,h0,h1]
 refine ho _ λaa hW=>?_
 obtain⟨h2,h3⟩:=hk _ hW
 have h4:=Kf h2
 simp only[↓ag,ah,simprocAttr,simprocAttr,aK,h2,h4]
 exact h3
theorem vY(C C1:aU)(h0:C.fn 42=none)(h1:C.cV 42=some (aB C1 1 ix iw))(jt:C1.fn 114=some oX){rows:Rows}{o f q p:Nat}{m b k od:D}{t:BitVec 32}{outs:List (BitVec 8)}(jn:live rows o=some ⟨mG,[G6 f q p m b k]⟩)(hp:live rows p=some ⟨qI,[DO od t]⟩)(hO:aY rows od outs)(hlo:outs.length<=100){K:D->Rows->Prop}
  (hk:K (.sl L8 rows.length [] 0 outs.length false) (rows++[some ⟨L8,bs outs⟩])):aB C 1 kz ky [.ptr mG o [0]] rows K:=by
 refine ae rfl ?_
 unfold ky kz
 simp only[↓ag,ah,simprocAttr,aK,jn,J6,h0,h1]
 refine pout_run C1 jt hp hO hlo ?_
 simp only[↓ag,ah,simprocAttr,aK]
 exact hk
def ZO(x:BitVec 32):Prop:=1073741824<=x.toNat/\x.toNat<1073741888
theorem where4(x:BitVec 32)(h:(bU x).1=4):ZO x:=by
 have h4:Dy x (1073741824#32,64)=true:=by
  unfold bU jk at h
  simp only[mT]at h
  repeat' split at h
  all_goals first|assumption|(simp at h)
 exact(JG x _).1 h4
theorem Rz(x:BitVec 32)(w:Bool):Dz ⟨3,0,x,1,w,false⟩=true/\(ZO x/\(∃o,o<64/\pS ⟨3,0,x,1,w,false⟩=(4,o,0))\/¬ZO x/\∃e,e≠0/\pS ⟨3,0,x,1,w,false⟩=(0,0,e)):=by
 have hl:(bU x).1=0\/1<=(bU x).1/\(bU x).1<=5:=by
  by_cases c:(bU x).1=0
  ·exact .inl c
  ·exact .inr ⟨by omega,(Ri x c).2⟩
 constructor
 ·have hm:∀r,r=0\/1<=r/\r<=5->r=0\/(3,0,r)∈Ui:=λr hr=>by
   have:r=0\/r=1\/r=2\/r=3\/r=4\/r=5:=by omega
   rcases this with rfl|rfl|rfl|rfl|rfl|rfl<;>decide
  simp only[Dz,aan,aaq]
  refine⟨⟨?_,Nat.mod_one _⟩,hm _ hl⟩
  cases w<;>rfl
 ·by_cases c : ZO x
  ·refine .inl ⟨c,x.toNat-1073741824,by have:=c.2;omega,?_⟩
   have h1:bU x=(4,x.toNat-1073741824):=Fb (i:=4) rfl (by decide) c rfl
   unfold pS
   rw[h1]
   cases w<;>rfl
  ·refine .inr ⟨c,?_⟩
   have c4:(bU x).1≠4:=λh=>c (where4 x h)
   by_cases c0:(bU x).1=0
   ·exact⟨9,by decide,by unfold pS;rw[aaJ c0]⟩
   ·refine⟨8,by decide,?_⟩
    unfold pS
    rw[aaC c0]
    have:(bU x).1=1\/(bU x).1=2\/(bU x).1=3\/(bU x).1=5:=by omega
    have hh:Uh (JE (3,0,(bU x).1),GZ ⟨3,0,x,1,w,false⟩)=false:=by
     rcases this with h|h|h|h<;>rw[h]<;>cases w<;>rfl
    simp only[hh]
    rfl
structure AskC (C:aU):Prop where
 l0:C.fn 92=none
 l1:∃C1,C.cV 92=some (aB C1 4 eE eD)/\LdC C1
 s0:C.fn 93=none
 s1:∃C1 C2,C.cV 93=some (aB C1 4 ca b9)/\StC C2 C1
abbrev iu(e:Nat)(d:D):D:= .agg S7 [.raw (it (e:Int)),.raw (it 0),d]
theorem US(C:aU)(H:AskC C){rows:Rows}{o f q p b:Nat}{L:Ly}{k d co pp:D}{a:BitVec 32}{cD l:List (BitVec 8)}(hl:l.length=64)(jn:WL o f q p L b k rows)(hM:live rows L.M=some ⟨fq,[Bp L co pp]⟩)(hs:live rows L.s=some ⟨du,[jU 0 cD (yF l) L.f L.q]⟩){K:D->Rows->Prop}
  (hk:∀e r aa,(e=0↔ZO a)->D.fits (iu e r) S7=true->Fr [L.s] rows aa->K (iu e r) aa):aB C 2 df cZ [.ptr mG o [0],Fs 9#8 1 a d] rows K:=by
 refine ae rfl ?_
 unfold cZ df
 obtain⟨L1,l1,hL⟩:=H.l1
 have sA:=λl=>ab jn l
 have Lg:=λl=>ab hM l
 obtain⟨hp,hc⟩:=Rz a false
 simp only[Fs]at*
 simp only[↓ag,ah,simprocAttr,simprocAttr,aK,sA,Lg,sy,wN,H.l0,l1,mK]
 rcases hc with⟨h1,x,h2,h3⟩|⟨h1,e,h2,h3⟩
 ·refine Y2 L1 hL (who:=3) (st:=0) (ab hs _) hl hp h3 h2 λd' R hd=>?_
  simp only[aaB,abu,aaZ]
  simp only[↓ag,ah,simprocAttr,simprocAttr,aK,sA,Lg,sy,wN,hd,mK]
  exact hk 0 _ _ ⟨λ_=>h1,λ_=>rfl⟩ (by simp[iu,D.fits,hd]) (Fr.app _ _ _)
 ·refine Y1 L1 hL (who:=3) (st:=0) (ab hs _) hp h3 h2 ?_
  simp only[↓ag,ah,simprocAttr,simprocAttr,aK,sA,Lg,sy,wN,mK]
  exact hk e _ _ ⟨λh=>absurd h h2,λh=>absurd h h1⟩ rfl (Fr.app _ _ _)
theorem RC(C:aU)(H:AskC C){rows:Rows}{o f q p b r:Nat}{ex:Bool}{L:Ly}{k co pp:D}{a:BitVec 32}{y:BitVec 8}{cD l:List (BitVec 8)}(hl:l.length=64)(jn:WL o f q p L b k rows)(hM:live rows L.M=some ⟨fq,[Bp L co pp]⟩)(hs:live rows L.s=some ⟨du,[jU 0 cD (yF l) L.f L.q]⟩)(hr:live rows r=some ⟨L8,bs [y]⟩){K:D->Rows->Prop}
  (hk:∀e r aa,(e=0↔ZO a)->D.fits (iu e r) S7=true->Fr [L.s] rows aa->K (iu e r) aa):aB C 2 df cZ [.ptr mG o [0],Fs 10#8 0 a (.sl L8 r [] 0 1 ex)] rows K:=by
 refine ae rfl ?_
 unfold cZ df
 obtain⟨L1,L2,l1,hL⟩:=H.s1
 have sA:=λl=>ab jn l
 have Lg:=λl=>ab hM l
 obtain⟨hp,hc⟩:=Rz a true
 simp only[Fs]at*
 have m1:min (1:Int) 256=1:=rfl
 have hq:=jr hs
 simp only[↓ag,ah,simprocAttr,simprocAttr,aK,sA,Lg,sy,wN,H.s0,l1,mK,m1,Int.toNat_one]
 rcases hc with⟨h1,x,h2,h3⟩|⟨h1,e,h2,h3⟩
 ·refine J0 L1 L2 hL (who:=3) (st:=0) (y:=y) (ab hs _) hl hp h3 h2 ?_ rfl ?_
  ·simp only[pw,elems,ab hr]
   rfl
  ·simp only[↓ag,ah,simprocAttr,simprocAttr,aK,hq]
   exact hk 0 _ _ ⟨λ_=>h1,λ_=>rfl⟩ rfl λq row hq hn=>tE hq (by simpa using hn) _ _
 ·refine UG L1 L2 hL (who:=3) (st:=0) (ab hs _) hp h3 h2 rfl ?_
  simp only[↓ag,ah,simprocAttr,simprocAttr,aK]
  exact hk e _ _ ⟨λh=>absurd h h2,λh=>absurd h h1⟩ rfl (Fr.app _ _ _)
theorem ask_do(C:aU)(h2:C.fn 37=none){C1:aU}(h3:C.cV 37=some (aB C1 2 df cZ)){rows:Rows}{o f q p b:Nat}{L:Ly}{k d:D}{st N:Int}{cD:List (BitVec 8)}{pt:D}{y:BitVec 8}{a:BitVec 32}(hy:y=9#8\/y=10#8)(jn:WL o f q p L b k rows)(hs:live rows L.s=some ⟨du,[jU st cD pt L.f L.q]⟩)
  (ha:∀K:D->Rows->Prop,(∀e r aa,(e=0↔ZO a)->D.fits (iu e r) S7=true->Fr [L.s] (rows++[some ⟨S1,[Fs y N a d]⟩,some ⟨S7,[oo]⟩]) aa->K (iu e r) aa)->aB C1 2 df cZ [.ptr mG o [0],Fs y N a d] (rows++[some ⟨S1,[Fs y N a d]⟩,some ⟨S7,[oo]⟩]) K){K:D->Rows->Prop}
  (hk:∀e r aa,(e=0↔ZO a)->D.fits (iu e r) S7=true->Fr [L.s] rows aa->K (iu e r) aa):aB C 2 dG dF [.ptr mG o [0],Fs y N a d] rows K:=by
 refine ae rfl ?_
 unfold dF dG
 have sA:=λl=>ab jn l
 have nl:=aR hs
 rcases hy with rfl|rfl<;>
 ·simp only[Fs]at*
  simp only[↓ag,ah,simprocAttr,simprocAttr,aK,sA,sy,h2,h3]
  refine ha _ λe r aa he hf hF=>?_
  have hc:=hF _ _ (bg rows [some ⟨S1,_⟩,some ⟨S7,[oo]⟩] 1) (by simp;omega)
  have hc2:=λx=>aD (y:=x) hc
  simp only[↓ag,ah,simprocAttr,simprocAttr,aK,hf,hc,hc2]
  exact hk e r _ he hf λq row hq hn=>(aA (by have:=aR hq;omega)).trans (hF _ _ (ab hq _) hn)
def Kg:List (BitVec 8):=((Rv.set 0 1#8).set 1 2#8).set 2 3#8
theorem idP_set:(((bs Rv).set 0 (.raw (u8 1#8))).set 1 (.raw (u8 2#8))).set 2 (.raw (u8 3#8))=bs Kg:=rfl
theorem id_run(C:aU){rows:Rows}{K:D->Rows->Prop}(hk:∀R,K (.agg (.ar 16 L8) (bs Kg)) (rows++R)):aB C 0 oO oN [] rows K:=by
 refine ae rfl ?_
 unfold oN oO
 simp only[-List.reduceReplicate,Kb]
 simp only[-List.reduceReplicate,↓ag,ah,simprocAttr,aK,idP_set]
 exact hk _
def id11:List (BitVec 8):=Rv.set 0 11#8
theorem id11_set:(bs Rv).set 0 (.raw (u8 11#8))=bs id11:=rfl
def WQ(aM:List (BitVec 8)):Sg:=uX 3758096386#32 3#32 id11 aM (mr 3#32 id11 aM (hH 3758096386#32))
def WR(A:vQ)(v:Int):D:= .agg S8 [.ptr ik A.r [0],.raw (it v)]
theorem WS(A v):(WR A v).get [0]=some (.ptr ik A.r [0]):=rfl
theorem mk_s1(A v)(w:Int):(WR A v).set [1] (.raw (it w))=some (WR A w):=rfl
structure WT (C:aU):Prop where
 n0:C.fn 16=none
 n1:∃C1,C.cV 16=some (aB C1 4 qQ qP)/\LmC C1
theorem RF(C:aU)(H:WT C){rows:Rows}{aM:List (BitVec 8)}(ri:aM.length=32){K:D->Rows->Prop}
  (hk:∀aa A mk,oc aa A (WQ aM)->Whole ((WQ aM).v A)->dz rows aa->(rows.length<=A.r/\rows.length<=A.nr/\rows.length<=A.ms/\rows.length<=A.mt)->A.dl= .raw (.slice none 0 0)->live aa mk=some ⟨S8,[WR A 0]⟩->rows.length<=mk->K (.ptr S8 mk [0]) aa):
  aB C 1 oK oJ [.agg (.ar 32 L8) (bs aM)] rows K:=by
 refine ae rfl ?_
 unfold oJ oK
 obtain⟨C1,n1,hL⟩:=H.n1
 simp only[-List.reduceReplicate,Kb]
 simp only[-List.reduceReplicate,↓ag,ah,simprocAttr,aK,id11_set,H.n0,n1]
 refine Ro C1 hL (t:=3758096386#32) (o:=3#32) (id:=id11) (aM:=aM) (by decide) (by decide) (by decide) (by decide) ri λR1 A hS Q9 e1 e2 e3 e4 e5=>?_
 have hW:=MV hS (by decide) (by decide) (by decide) (by decide) ri
 change oc R1 A (WQ aM)at hS
 change Whole ((WQ aM).v A)at hW
 rw[aap]at e1 e2 e3 e4
 have hl:=aR (Q9 _ _ (a9 rows [some ⟨.ar 32 L8,[.agg (.ar 32 L8) (bs aM)]⟩]))
 simp only[-List.reduceReplicate,↓ag,ah,simprocAttr,aK]
 exact hk _ A R1.length (hS.push _) hW (λq row hq=>ab (Q9 _ _ (ab hq _)) _) (by omega) e5 (a9 R1 [some ⟨S8,[WR A 0]⟩]) (by omega)
def tok1:D:= .agg S9 [.raw (it 1),.raw (u32 0#32),.agg (.ar 16 L8) (bs Kg)]
def OR:List (BitVec 8):=[84#8,79#8,75#8,78#8,0#8,0#8,0#8,1#8,0#8,0#8,0#8,0#8]++Kg
noncomputable def OS:Fn:=fAt [.raw (it 1)] (.raw (.bool true))
theorem kindc_ok(C:aU)(hC:aI C P):aQ C.aZ P 73 (Fn.run OS):=by
 refine JI (KO C hC) (ae rfl ?_)
 unfold zX zY
 simp only[↓ag,ah,simprocAttr]
 exact .val _ rfl
noncomputable def OT:Fn:=nv (cj λ_:Unit=>tok1) (λ_=>true) λ_=>(.cd [.sl L8 0 [] 0 28 false,.raw (it 0)],[some ⟨L8,bs OR⟩])
theorem tbody_ok(C:aU)(hC:aI C P)(h1:C.fn 73=some OS):aQ C.aZ P 27 (Fn.run OT):=by
 refine aJ (AR C hC) λds rows r h=>?_
 obtain⟨d,t,rfl,rfl,hd,hp,rfl⟩:=bd h
 cases aH hd
 refine⟨rfl,ae rfl ?_⟩
 clear h hd
 have kK:=λrows k=>kAt [.raw (it 1)] (.raw (.bool true)) rfl rfl rows k rfl
 unfold rA rB
 simp only[tok1,↓ag,ah,simprocAttr,aK,h1,OS,kK]
 refine dQ 3 ?_
 have hE:∀R:Rows,elems (some (⟨S9,[.agg S9 [.raw (it 1),.raw (u32 0#32),.agg (.ar 16 L8) (bs Kg)]]⟩:Row)::R) (.sl L8 0 [0,2] 0 16 true)=some (bs Kg):=λR=>rfl
 have hl:(bs Kg).length=16:=rfl
 simp only[↓ag,ah,simprocAttr,aK,hE,hl]
 exact .Nl L8 7 0 28 false false ⟨L8,bs OR⟩ [.raw (it 0)] rfl rfl rfl (λh=>by cases h)
theorem kTBody(rows:Rows)(k:D->Rows->Prop):aG OT rows k [tok1]=k (.cd [.sl L8 (0+rows.length) [] 0 28 false,.raw (it 0)]) (rows++[some ⟨L8,bs OR⟩]):=by
 refine(bk rfl (fa (bZ (λ_ _ _=>rfl) ()) rfl)).trans ?_
 rfl
end kj
end Go.Am
namespace Go.Am
attribute [local congr] cJ bI cK bJ bK b6 bw bN bO b7 bi b8 bP cI
namespace kj
open Go.Am.F
theorem UT(C:aU)(H:ImC C){rows:Rows}{L:vQ}{s:Sg}{d:D}{p:List (BitVec 8)}{mk:Nat}{v0:Int}(v:Nat)(hv:v<=255)(hmk:live rows mk=some ⟨S8,[WR L v0]⟩)(hS:oc rows L s)(hW:Whole (s.v L))(K6:s.nx.toNat<hH s.t)(hla:s.last.length<=1000)(hd:∀more,aY (rows++more) d p)(mH:dW d=some p.length)(hp:p.length<=9223372036854775807){K:D->Rows->Prop}
  (hk:∀aa Hq r' n,oc aa (L.next Hq) (s.next (wZ v) (ci (dE v (cH 200 p))))->n=(jV (dE v (cH 200 p)) (iq (s.v L) s.nx (wZ v) (ci (dE v (cH 200 p)))) (cH 200 p)).length->live aa r'=some ⟨L8,bs (jV (dE v (cH 200 p)) (iq (s.v L) s.nx (wZ v) (ci (dE v (cH 200 p)))) (cH 200 p))⟩->rows.length<=r'->
   (∀q row,live rows q=some row->uY rows L s q->live aa q=some row)->(∀q ex n,Hq= .sl lq q [] 0 n ex->rows.length<=q)->K (.sl L8 r' [] 0 n false) aa):
  aB C 3 iK iJ [.ptr S8 mk [0],.raw (it (v:Int)),d] rows K:=by
 refine ae rfl ?_
 unfold iJ iK
 simp only[-List.reduceReplicate,vV]
 simp only[-List.reduceReplicate,eu]
 obtain⟨C1,r1,hL⟩:=H.s1
 have UU:=λl=>ab hmk l
 have qo:=hd []
 rw[aaS]at qo
 have w0:min ((p.length:Nat):Int) 200=((min p.length 200:Nat):Int):=by omega
 have w1:wz ((((min p.length 200:Nat):Int)).tdiv 4)=((min p.length 200/4:Nat):Int):=by
  rw[show(4:Int)=((4:Nat):Int)from rfl,<-aev,bh (by omega)]
 have w2:wz (((min p.length 200/4:Nat):Int)*4)=((min p.length 200/4*4:Nat):Int):=by rw[bh (by omega)];omega
 have kC:=λk=>WG qo ((min p.length 200/4*4:Nat):Int) (by omega) (by omega) k
 rw[aaz]at kC
 have hz4:[D.raw (u8 0#8),.raw (u8 0#8),.raw (u8 0#8),.raw (u8 0#8)]=bs [0#8,0#8,0#8,0#8]:=rfl
 have qm:=sC 200 p
 have hyo:=DQ 200 p (by decide)
 have kJ:∀k,aG Dg (rows++[some ⟨L8,bs (p.take (min p.length 200/4*4))⟩,some ⟨L8,[.raw (u8 0#8),.raw (u8 0#8),.raw (u8 0#8),.raw (u8 0#8)]⟩,some ⟨.ref,[.sl L8 rows.length [] 0 (p.take (min p.length 200/4*4)).length false,.sl L8 (rows.length+1) [] 0 4 true]⟩]) k [.sl .ref (rows.length+2) [] 0 2 true]=_:=λk=>
  VG _ k (rows.length+2) 2 true [.sl L8 rows.length [] 0 (p.take (min p.length 200/4*4)).length false,.sl L8 (rows.length+1) [] 0 4 true] [p.take (min p.length 200/4*4),[0#8,0#8,0#8,0#8]] (bg rows _ 2) rfl (.cons (aY.own (a9 rows _) _ rfl) (.cons (aY.own (bg rows _ 1) _ rfl) .nil)) (by simp) (by simp;omega)
 have qj:[p.take (min p.length 200/4*4),[0#8,0#8,0#8,0#8]].flatten=cH 200 p:=by simp[cH]
 rw[qj]at kJ
 have kO:=λr ex R k (hl:live R r=some ⟨L8,bs (cH 200 p)⟩)=>kOf R k v 0 (.sl L8 r [] 0 (cH 200 p).length ex) (cH 200 p) (aY.own hl _ rfl) (by omega)
 have Ku:ofS v 0 (cH 200 p)=dE v (cH 200 p):=rfl
 simp only[Ku]at kO
 have hR:=Bk v hv hyo
 have zH:(dE v (cH 200 p)).dg.length=32:=dk _
 have kB:=λrows k=>Ov rows k (dE v (cH 200 p)) zH hR
 have mf:=fI
 have hz0:∀x,(bs sO).set 0 (.raw (u8 x))=bs (sO.set 0 x):=λx=>by rw[bs,bs,acr]
 simp only[↓ag,ah,simprocAttr,aK,mH,w0,w1,w2,H.cu,kC,H.jo,kJ,H.of,kO,mf,H.bo,kB,H.s0,r1,hz0,UU,WS]
 have P0:=pW (dE v (cH 200 p)) zH
 have hlv:jq (s.v L)=hH s.t:=hW.lv
 have hpn:=hW.pn K6
 refine J7 C1 hL (hS.push _) hW.ok hW.o (c:=wZ v) (m:=ci (dE v (cH 200 p))) (by rw[wZ,abe];rfl) (.inr ⟨_,false,by rw[P0],bg rows _ 5⟩) (by omega) (by rw[hlv];exact K6) (by omega) λaa Hq r' g1 g2 g3 g4 g5 g6=>?_
 have e3:=g4 _ _ (bg rows _ 3) (zq hS (by omega))
 have e4:=g4 _ _ (bg rows _ 4) (zq hS (by omega))
 have hsl':(iq (s.v L) s.nx (wZ v) (ci (dE v (cH 200 p)))).length=44+(32*pT s.o.toNat+32*hT s.t.toNat):=by
  rw[yB hW.ok (by rw[hlv];exact K6) (wZ v) (ci (dE v (cH 200 p))) (by rw[wZ,abe];rfl),hpn,abO]
  rfl
 have ht9:hT s.t.toNat<=10:=hW.t10
 have hp9:=pT_le s.o.toNat
 have kI:=λk=>kImage aa k (dE v (cH 200 p)) _ _ (iq (s.v L) s.nx (wZ v) (ci (dE v (cH 200 p)))) (cH 200 p) zH (aY.own (ex:=false) g2 _ rfl) (aY.own (ex:=false) e3 _ rfl) (by omega) (by omega) (by
  simp only[qy,hR,ab8,aan,aaq]
  exact⟨rfl,by omega⟩)
 rw[hsl']at kI
 have hpn':44+32*pT s.o.toNat+32*ie (s.v L) s.nx.toNat=44+32*pT s.o.toNat+32*hT s.t.toNat:=by rw[hpn];rfl
 simp only[↓ag,ah,simprocAttr,aK,e4,hpn',H.im,kI]
 rw[aap]at g6
 refine hk _ Hq aa.length _ (g1.push _) rfl (a9 aa _) (by omega) (λq row hq he=>ab (g4 q row (ab hq _) he) _) λq ex n hd=>?_
 have:=g5 q ex n hd
 rw[aap]at this
 omega
end kj
end Go.Am
namespace Go.Am
attribute [local congr] cJ bI cK bJ bK b6 bw bN bO b7 bi b8 bP cI
namespace kj
open Go.Am.F
def RN(f q p:Nat):D:= .agg mG [.ptr SF f [0],.ptr Kz q [0],.ptr qI p [0],.raw (.pointer none),.raw (.pointer none),ir,ir,.raw (u32 0#32),.raw (it 0)]
theorem o0_g0(f q p):(RN f q p).get [0]=some (.ptr SF f [0]):=rfl
theorem o0_g1(f q p):(RN f q p).get [1]=some (.ptr Kz q [0]):=rfl
theorem o0_g2(f q p):(RN f q p).get [2]=some (.ptr qI p [0]):=rfl
theorem o0_g3(f q p):(RN f q p).get [3]=some (.raw (.pointer none)):=rfl
theorem o0_s1(f q p q'):(RN f q p).set [1] (.ptr Kz q' [0])=some (RN f q' p):=rfl
def so1(f q p M:Nat):D:= .agg mG [.ptr SF f [0],.ptr Kz q [0],.ptr qI p [0],.ptr fq M [0],.raw (.pointer none),ir,ir,.raw (u32 0#32),.raw (it 0)]
theorem o0_s3(f q p M):(RN f q p).set [3] (.ptr fq M [0])=some (so1 f q p M):=rfl
theorem o1_g2(f q p M):(so1 f q p M).get [2]=some (.ptr qI p [0]):=rfl
theorem o1_g3(f q p M):(so1 f q p M).get [3]=some (.ptr fq M [0]):=rfl
theorem o1_s4(f q p M b):(so1 f q p M).set [4] (.ptr jN b [0])=some (G6 f q p (.ptr fq M [0]) (.ptr jN b [0]) ir):=rfl
theorem kWdsR{rows:Rows}{q a w:Nat}{c:pj}(h:oe rows q a w c)(k:D->Rows->Prop):aG TW rows k [.ptr vj a [0]]=k (.sl cN rows.length [] 0 64 false) (rows++[some ⟨cN,us c.w⟩]):=by
 refine(cL (T9 h.ar h.dat h.len) (by simp[h.len]) rfl k).trans ?_
 simp[Oa,shift,af,Sh.pure,h.len]
theorem fW.fk{rows aa:Rows}{f m:Nat}{x:List (BitVec 8)}(h:fW rows f m x)(g:∀q row,live rows q=some row->row.sh≠mG->live aa q=some row):fW aa f m x:=by
 obtain⟨⟨ex,h1⟩,h2⟩:=h
 exact⟨⟨ex,g _ _ h1 (by intro h;cases h)⟩,g _ _ h2 (by intro h;cases h)⟩
theorem jd.nid{rows:Rows}{L:Ly}{S:zp}(h:jd rows L S){o:Nat}{s:Sh}{l:List D}(ho:live rows o=some ⟨s,l⟩)(h1:s≠fq)(h2:s≠du)(h3:s≠SF)(h4:s≠L8)(h5:s≠Kz)(h6:s≠vj)(h7:s≠tN):o∉L.ids:=by
 obtain⟨g1,g2,-,⟨⟨ex,g4⟩,g5⟩,-,g7⟩:=h
 simp only[Ly.ids,aaI,aa1,acd,ad5]
 exact⟨bB ho g1 h1,bB ho g2 h2,bB ho g4 h3,bB ho g5 h4,bB ho g7.ch h5,bB ho g7.ar h6,bB ho g7.dat h7⟩
structure OnC (C:aU):Prop where
 wd:C.fn 72=some TW
 of0:C.fn 71=none
 of1:∃C1 C2 C3,C.cV 71=some (aB C1 1 uv uu)/\C1.fn 130=none/\C1.cV 130=some (aB C2 1 oU oT)/\C2.fn 56=none/\C2.cV 56=some (aB C3 1 gA gz)
 re0:C.fn 78=none
 re1:∃C1,C.cV 78=some (aB C1 1 iM iL)
 nm0:C.fn 79=none
 nm1:∃C1,C.cV 79=some (aB C1 2 gj gh)/\NmC C1
 bn0:C.fn 46=none
 bn1:∃C1,C.cV 46=some (aB C1 0 oQ oP)
theorem on_run(C:aU)(H:OnC C){rows:Rows}{o f m q a w p:Nat}{x:List (BitVec 8)}{c:pj}(jn:live rows o=some ⟨mG,[RN f q p]⟩)(hF:fW rows f m x)(hx:x.length=10240)(hc:oe rows q a w c)(hp:live rows p=some ⟨qI,[DO ir 0#32]⟩){K:D->Rows->Prop}
  (hk:∀aa L b,Aw aa L ⟨0,oh,x,YB c.w,gI 0#32,.ptr qI p [0],Rr⟩ b OE zR ZN->WL o L.f L.q p L b ir aa->o∉L.all b->(∀x∈L.all b,x=m\/rows.length<=x)->Fr [o] rows aa->K oo aa):aB C 1 jS jR [.ptr mG o [0]] rows K:=by
 refine ae rfl ?_
 unfold jR jS
 obtain⟨C1,C2,C3,f1,f2,f3,f4,f5⟩:=H.of1
 obtain⟨C4,f6⟩:=H.re1
 obtain⟨C5,f7,HN⟩:=H.nm1
 obtain⟨C6,f8⟩:=H.bn1
 have sA:=λl=>ab jn l
 have E5:=λl=>ab hc.ch l
 simp only[↓ag,ah,simprocAttr,aK,jn,sA,E5,o0_g0,o0_g1,o0_g2,o0_g3,H.wd,H.of0,f1,kWdsR (hc.push _)]
 have hWl:c.w.length=64:=by rw[pj.w,aaA,hc.len]
 refine V5 C1 C2 C3 f2 f3 f4 f5 (p:=[]) (W:=c.w) hWl (bg _ _ 1) (λi hi=>?_) λjl q1 Q9 hq1 hC1=>?_
 ·have:=lM (l:=c.w) (i:=i) (by omega)
  simp only[aaZ,cM,this,D.get,abg]
 have hK1':=(dz.app rows _).trans Q9
 have Rn:=hK1' _ _ jn
 have Bb:=hK1' _ _ hp
 have hcell:=Q9 _ _ (a9 rows _)
 have we:=aR hC1.ch
 simp only[aap,aaP,aaV,abk,Nat.reduceAdd]at hq1 hC1
 have nop:o≠p:=bB Rn Bb (by intro h;cases h)
 have noc:o≠rows.length:=by have:=aR jn;omega
 have npc:p≠rows.length:=by have:=aR hp;omega
 have hF1:=hF.fk λq row hq _=>hK1' q row hq
 simp only[↓ag,ah,simprocAttr,aK,Rn,o0_s1]
 have hX:=aD (y:=(⟨mG,[RN f q1 p]⟩:Row)) Rn
 have k2:∀q row,live jl q=some row->q≠o->live (jl.set o (some ⟨mG,[RN f q1 p]⟩)) q=some row:=λq row hq hn=>(aA (abh hn)).trans hq
 generalize jl.set o (some ⟨mG,[RN f q1 p]⟩)=fb at*
 have qL:=k2 _ _ Bb (abh nop)
 simp only[↓ag,ah,simprocAttr,aK,hX,o0_g2,H.re0,f6]
 refine UI C4 qL ?_
 rw[Kf qL]
 have nsh:∀q row,live jl q=some row->row.sh≠mG->q≠o:=λq row hq hs e=>by
  rw[e,Rn]at hq
  exact hs (by injection hq with hq;rw[<-hq])
 simp only[↓ag,ah,simprocAttr,aK,hX,o0_g0,o0_g1,o0_g2,H.nm0,f7,mK]
 have hCn:∀q row,live jl q=some row->rows.length<q->live fb q=some row:=λq row hq hn=>k2 _ _ hq (by have:=aR jn;omega)
 refine nm_run C5 HN (hF1.fk λq row hq hs=>k2 _ _ hq (nsh _ _ hq hs)) hx (hC1.keep λq row hq hs=>hCn _ _ hq ?_) λmy L pp hK3 e1 e2 e3 e4 e5 hge hM hE=>?_
 ·omega
 have hX3:=hK3 _ _ hX
 have l7:=hM.ma
 have nMo:o≠L.M:=bB hX3 l7 (by intro h;cases h)
 have hlt3:=aR hX3
 have nid:=hM.nid hX3 (by intro h;cases h) (by intro h;cases h) (by intro h;cases h) (by intro h;cases h) (by intro h;cases h) (by intro h;cases h) (by intro h;cases h)
 obtain⟨ke,kn,hEe⟩:=hE.e
 have nEe:o≠L.e:=bB hX3 hEe (by intro h;cases h)
 have nEs:o≠L.sl:=bB hX3 hE.s (by intro h;cases h)
 have hc3:=hK3 _ _ (k2 _ _ hcell (abh noc))
 simp only[↓ag,ah,simprocAttr,aK,hX3,o0_s3,mK]
 have hs4:=aD (y:=(⟨mG,[so1 f q1 p L.M]⟩:Row)) hX3
 have k4:∀r row,live my r=some row->r≠o->live (my.set o (some ⟨mG,[so1 f q1 p L.M]⟩)) r=some row:=λr row hr hn=>(aA (abh hn)).trans hr
 generalize my.set o (some ⟨mG,[so1 f q1 p L.M]⟩)=Ax at*
 have hM4:jd Ax L ⟨0,oh,x,YB c.w,gI 0#32,pp,Rr⟩:=hM.keep λr row hr hi=>k4 _ _ hr λe=>nid (e▸hi)
 have hE4:Fm Ax L zR ZN:=hE.keep λr row hr hi=>k4 _ _ hr λe=>by rcases hi with hi|hi<;>omega
 have Zc:live Ax L.M=some ⟨fq,[Bp L (gI 0#32) pp]⟩:=hM4.ma
 simp only[↓ag,ah,simprocAttr,aK,hs4,o1_g2,o1_g3,Zc,ma_s3,H.bn0,f8]
 have hM5:=hM4.cor (c:=gI 0#32) (p:= .ptr qI p [0])
 have hE5:Fm (Ax.set L.M (some ⟨fq,[Bp L (gI 0#32) (.ptr qI p [0])]⟩)) L zR ZN:=hE4.keep λr row hr hi=>(aA λe=>by
  subst e
  rcases hi with hi|hi
  ·obtain⟨ke,kn,hEe⟩:=hE4.e
   exact bB Zc hEe (by intro h;cases h) hi
  ·exact bB Zc hE4.s (by intro h;cases h) hi).trans hr
 have k5:∀r row,live Ax r=some row->r≠L.M->live (Ax.set L.M (some ⟨fq,[Bp L (gI 0#32) (.ptr qI p [0])]⟩)) r=some row:=λr row hr hn=>(aA (abh hn)).trans hr
 generalize Ax.set L.M (some ⟨fq,[Bp L (gI 0#32) (.ptr qI p [0])]⟩)=DP at*
 have hs5:=k5 _ _ hs4 nMo
 have hq5:=jr hs5
 have hs52:=λl=>ab hs5 l
 refine Rs C6 ?_
 simp only[↓ag,ah,simprocAttr,aK,hs52,hq5,o1_s4]
 have hc5:=k5 _ _ (k4 _ _ hc3 (abh noc)) (bB (k4 _ _ hc3 (abh noc)) Zc (by intro h;cases h))
 have hc6:=tE hc5 (abh noc) (some ⟨mG,[G6 f q1 p (.ptr fq L.M [0]) (.ptr jN DP.length [0]) ir]⟩) [some ⟨jN,[ml OE]⟩]
 have hc7:=Kf hc6
 have Ea:=aR (k2 _ _ hcell (abh noc))
 have hl5:=aR hc5
 have k6:∀r row,live DP r=some row->r≠o->live (DP.set o (some ⟨mG,[G6 f q1 p (.ptr fq L.M [0]) (.ptr jN DP.length [0]) ir]⟩)++[some ⟨jN,[ml OE]⟩]) r=some row:=λr row hr hn=>tE hr hn _ _
 have hb6:=hq5.2.2.2.1 (some ⟨mG,[G6 f q1 p (.ptr fq L.M [0]) (.ptr jN DP.length [0]) ir]⟩) [some ⟨jN,[ml OE]⟩]
 have hs6:=hq5.2.2.1 ⟨mG,[G6 f q1 p (.ptr fq L.M [0]) (.ptr jN DP.length [0]) ir]⟩ [some ⟨jN,[ml OE]⟩]
 simp only[↓ag,ah,simprocAttr,aK,hc6,hc7]
 simp only[aaI,aa1,acd,ac9,ael]at hge
 have RX:=aR jn
 refine hk _ L DP.length ⟨hM5.keep λr row hr hi=>k6 _ _ hr λe=>nid (e▸hi),hE5.keep λr row hr hi=>k6 _ _ hr λe=>by rcases hi with hi|hi<;>omega,hb6.trans rfl⟩ (by rw[WL,e1,e3];exact hs6) ?_ ?_ λr row hr hn=>?_
 ·simp only[Ly.ids,aaI,aa1,acd,ad5]at nid
  simp only[Ly.all,aaI,aa1,acd,ad5]
  omega
 ·simp only[Ly.all,aaI,aa1,acd,ac9,ael]
  omega
 ·have Nd:r≠o:=by simpa using hn
  have:=aR hr
  exact k6 _ _ (k5 _ _ (k4 _ _ (hK3 _ _ (k2 _ _ (hK1' _ _ hr) Nd)) Nd) (by omega)) Nd
structure SofC (C:aU):Prop where
 c0:C.fn 69=none
 c1:C.cV 69=some (aB CF 1 fE fD)
 n0:C.fn 18=none
 n1:∃C1 C2,C.cV 18=some (aB C1 0 oM oL)/\C1.fn 56=none/\C1.cV 56=some (aB C2 1 gA gz)
 p0:C.fn 70=none
 p1:∃C1,C.cV 70=some (aB C1 0 oS oR)
 wd:C.fn 72=some TW
 of0:C.fn 71=none
 of1:∃C1 C2 C3,C.cV 71=some (aB C1 1 uv uu)/\C1.fn 130=none/\C1.cV 130=some (aB C2 1 oU oT)/\C2.fn 56=none/\C2.cV 56=some (aB C3 1 gA gz)
theorem sof_run(C:aU)(H:SofC C){rows:Rows}{f m q a w:Nat}{x:List (BitVec 8)}{c:pj}(hF:fW rows f m x)(hx:x.length=10240)(hc:oe rows q a w c){K:D->Rows->Prop}
  (hk:∀aa o f' m' p q' a' w',dz rows aa->live aa o=some ⟨mG,[RN f' q' p]⟩->fW aa f' m' x->oe aa q' a' w' (YB c.w)->live aa p=some ⟨qI,[DO ir 0#32]⟩->K (.ptr mG o [0]) aa):
  aB C 2 xI xH [.ptr SF f [0],.ptr Kz q [0]] rows K:=by
 refine ae rfl ?_
 unfold xH xI
 obtain⟨N1,N2,n1,n2,n3⟩:=H.n1
 obtain⟨P1,p1⟩:=H.p1
 obtain⟨C1,C2,C3,f1,f2,f3,f4,f5⟩:=H.of1
 simp only[↓ag,ah,simprocAttr,aK,H.c0,H.c1]
 refine copyA hF (by rw[hx];decide) λR1 f' m' M1=>?_
 simp only[↓ag,ah,simprocAttr,aK,H.n0,n1]
 refine Jx N1 N2 n2 n3 λR2 MQ _=>?_
 have sf:∀l,D.fits (.agg mG l) mG=true:=λ_=>rfl
 simp only[↓ag,ah,simprocAttr,aK,H.p0,p1,ii,oR,oS,sf]
 generalize hR3:R2++[some (⟨S26,[.agg S26 [.raw (.slice none 0 0),.raw (.slice none 0 0),.raw (u32 0#32)]]⟩:Row),some ⟨S10,[.agg S10 [.ptr SF f' [0],.ptr Kz (R1.length+2) [0],.ptr S26 R2.length [0],.raw (.pointer none),.raw (.pointer none),.raw (.slice none 0 0),.raw (.slice none 0 0),.raw (u32 0#32),.raw (it 0)]]⟩]=R3
 have hK3:dz R2 R3:=by rw[<-hR3];exact dz.app _ _
 have hK:dz rows R3:=λq row hq=>hK3 _ _ (MQ _ _ (M1.frame _ _ hq))
 have Bq:fW R3 f' m' x:=by
  obtain⟨⟨e,g1⟩,g2⟩:=M1.fl
  exact⟨⟨e,hK3 _ _ (MQ _ _ g1)⟩,hK3 _ _ (MQ _ _ g2)⟩
 have hcR:=hc.keep λp row hp _=>hK p row hp
 have hp0:live R3 R2.length=some ⟨qI,[DO ir 0#32]⟩:=by rw[<-hR3];exact a9 R2 _
 have ho0:live R3 (R2.length+1)=some ⟨mG,[RN f' (R1.length+2) R2.length]⟩:=by rw[<-hR3];exact bg R2 _ 1
 have hl3:R3.length=R2.length+2:=by rw[<-hR3,aap];rfl
 have FB:rows.length<=R2.length:=by
  have:=aR (MQ _ _ M1.fl.2)
  have:=M1.hm
  omega
 clear hR3
 have E5:=hcR.ch
 have hWl:c.w.length=64:=by rw[pj.w,aaA,hc.len]
 simp only[↓ag,ah,simprocAttr,aK,E5,H.wd,H.of0,f1,kWdsR hcR]
 refine V5 C1 C2 C3 f2 f3 f4 f5 (p:=[]) (W:=c.w) (row:=⟨cN,us c.w⟩) hWl (a9 R3 [some ⟨cN,us c.w⟩]) (λi hi=>?_) λR4 q4 hK4 hq4 hC4=>?_
 ·have:=lM (l:=c.w) (i:=i) (by omega)
  simp only[aaZ,cM,this,D.get,abg]
 have hK4':=(dz.app R3 [some ⟨cN,us c.w⟩]).trans hK4
 have Si:=hK4' _ _ ho0
 have hlo:=aR ho0
 have pz:∀r row,live R4 r=some row->r≠R2.length+1->live (R4.set (R2.length+1) (some ⟨mG,[RN f' q4 R2.length]⟩)) r=some row:=λr row hr hn=>(aA (abh hn)).trans hr
 have ho5:=aD (y:=(⟨mG,[RN f' q4 R2.length]⟩:Row)) Si
 have e4:=o0_s1 f' (R1.length+2) R2.length q4
 simp only[RN,aap,aaP,aaV,abk]at Si e4 hq4 hC4
 simp only[↓ag,ah,simprocAttr,aK,Si,e4]
 refine hk _ _ f' m' R2.length q4 _ _ (λr row hr=>pz _ _ (hK4' _ _ (hK _ _ hr)) (by have:=aR hr;omega)) ho5 ?_ (hC4.keep λr row hr hi=>pz _ _ hr (by omega)) (pz _ _ (hK4' _ _ hp0) (by omega))
 have n1:f'≠R2.length+1:=bB Bq.1.choose_spec ho0 (by intro h;cases h)
 have n2:m'≠R2.length+1:=bB Bq.2 ho0 (by intro h;cases h)
 obtain⟨⟨e,g1⟩,g2⟩:=Bq
 exact⟨⟨e,pz _ _ (hK4' _ _ g1) n1⟩,pz _ _ (hK4' _ _ g2) n2⟩
theorem oc.elsh{rows:Rows}{L:vQ}{s:Sg}(h:oc rows L s){q:Nat}{sh:Sh}{l:List D}(hq:live rows q=some ⟨sh,l⟩)(h1:ik≠sh)(h2:Sh.ar 32 L8≠sh)(h3:yz≠sh)(h4:yA≠sh)(h5:sh≠lq):uY rows L s q:=
 ⟨(gB h.a hq h1).symm,(gB h.n hq h2).symm,(gB h.m hq h3).symm,(gB h.t hq h4).symm,ia h.l hq h5⟩
theorem wrX_nil(x:List (BitVec 8))(a:Int)(ha:0<=a)(hx:a.toNat<=x.length):Ok x a []=x:=by
 unfold Ok
 split
 ·unfold aP
  rw[aaS,aaV,adb,abj]
 ·rfl
theorem layX_one(OP:List (BitVec 8))(h:OP.length<=4096):Ok sP 0 OP=l9 OP []:=by
 unfold l9
 rw[aar h,aey,wrX_nil _ _ (by decide) (by rw[mJ];show 4096<=sP.length;rw[sP,aaN];decide)]
structure WU (C:aU):Prop where
 f0:C.fn 17=none
 f1:C.cV 17=some (aB CF 1 lH lG)
 o0:C.fn 18=none
 o1:∃C1 C2,C.cV 18=some (aB C1 0 oM oL)/\C1.fn 56=none/\C1.cV 56=some (aB C2 1 gA gz)
 i0:C.fn 20=none
 i1:∃C1,C.cV 20=some (aB C1 3 iK iJ)/\ImC C1
 w0:C.fn 19=none
 w1:C.cV 19=some (aB CF 3 dO dN)
 pu:C.fn 22=some uR
 id0:C.fn 23=none
 id1:∃C1,C.cV 23=some (aB C1 0 oO oN)
 ke:C.fn 21=some Jj
 li:C.fn 25=some Dq
 d0:C.fn 24=none
 d1:∃C1 C2 C3,C.cV 24=some (aB C1 2 kY kU)/\PrgC C3 C2 C1
 s0:C.fn 26=none
 s1:∃C1,C.cV 26=some (aB C1 2 xI xH)/\SofC C1
structure SocAt (rows:Rows) (o p:Nat) (x:List (BitVec 8)) (bA:List (BitVec 8)):Prop where
 so:∃f m q a w,live rows o=some ⟨mG,[RN f q p]⟩/\fW rows f m x/\oe rows q a w (YB (uZ Kg bA 0 1).w)
 po:live rows p=some ⟨qI,[DO ir 0#32]⟩
structure UW (rows:Rows) (o p mk:Nat) (A:vQ) (s:Sg) (v:Int) (x:List (BitVec 8)) (bA:List (BitVec 8)):Prop where
 sc:SocAt rows o p x bA
 sg:oc rows A s
 ma:live rows mk=some ⟨S8,[WR A v]⟩
theorem oc.kp{rows aa:Rows}{L:vQ}{s:Sg}(h:oc rows L s)(f:∀q row,live rows q=some row->row.sh=ik\/row.sh= .ar 32 L8\/row.sh=yz\/row.sh=yA\/row.sh=lq->live aa q=some row):oc aa L s:=by
 obtain⟨h1,h2,h3,h4,h5⟩:=h
 refine⟨f _ _ h1 (.inl rfl),f _ _ h2 (.inr (.inl rfl)),f _ _ h3 (.inr (.inr (.inl rfl))),f _ _ h4 (.inr (.inr (.inr (.inl rfl)))),?_⟩
 rcases h5 with h|⟨r,ex,e,hl⟩
 ·exact .inl h
 ·exact .inr ⟨r,ex,e,f _ _ hl (.inr (.inr (.inr (.inr rfl))))⟩
theorem UX{rows:Rows}{a b:Nat}{r:Row}{t:Sh}{l':List D}(h:live rows a=some r)(h':live rows b=some ⟨t,l'⟩)(hs:r.sh≠t):a≠b:=bB (s:=r.sh) (l:=r.els) h h' hs
structure sG (R:Rows) (f m q a w mk:Nat) (A:vQ) (s:Sg) (v:Int) (x:List (BitVec 8)) (c:pj):Prop where
 f:fW R f m x
 c:oe R q a w c
 s:oc R A s
 k:live R mk=some ⟨S8,[WR A v]⟩
section
variable {R R':Rows} {f m q a w mk:Nat} {A:vQ} {s:Sg} {v:Int} {x y:List (BitVec 8)} {c c':pj}
theorem sG.push(h:sG R f m q a w mk A s v x c)(l:Rows):sG (R++l) f m q a w mk A s v x c:=⟨h.f.push l,h.c.push l,h.s.push l,ab h.k l⟩
theorem sG.wr(h:sG R f m q a w mk A s v x c)(U:Upd R R' f m y):sG R' f m q a w mk A s v y c:=by
 have hm:=h.f.2
 have hc:=h.c
 refine⟨U.fl,h.c.keep λp row hp hi=>U.frame p row hp ?_,h.s.kp λp row hp hi=>U.frame p row hp (UX hp hm ?_),U.frame _ _ h.k (bB h.k hm (by intro h;cases h))⟩
 ·rcases hi with rfl|rfl|rfl
  ·exact bB hc.ch hm (by intro h;cases h)
  ·exact bB hc.ar hm (by intro h;cases h)
  ·exact bB hc.dat hm (by intro h;cases h)
 ·rcases hi with e|e|e|e|e<;>rw[e]<;>intro h<;>cases h
theorem sG.pr(h:sG R f m q a w mk A s v x c)(hc:oe R' q a w c')(g:∀p row,live R p=some row->p≠w->live R' p=some row):sG R' f m q a w mk A s v x c':=by
 have hw:=h.c.dat
 obtain⟨⟨e,g1⟩,g2⟩:=h.f
 refine⟨⟨⟨e,g _ _ g1 (bB g1 hw (by intro h;cases h))⟩,g _ _ g2 (bB g2 hw (by intro h;cases h))⟩,hc,h.s.kp λp row hp hi=>g p row hp (UX hp hw ?_),g _ _ h.k (bB h.k hw (by intro h;cases h))⟩
 rcases hi with e|e|e|e|e<;>rw[e]<;>intro h<;>cases h
theorem sG.im{d:D}{s':Sg}(h:sG R f m q a w mk A s v x c)(hS:oc R' (A.next d) s')(hel:∀q row,live R q=some row->uY R A s q->live R' q=some row):sG R' f m q a w mk (A.next d) s' v x c:=by
 obtain⟨⟨⟨e,g1⟩,g2⟩,hc,hs,hk⟩:=h
 have g:∀{q sh l},live R q=some ⟨sh,l⟩->ik≠sh->Sh.ar 32 L8≠sh->yz≠sh->yA≠sh->sh≠lq->live R' q=some ⟨sh,l⟩:=λhq h1 h2 h3 h4 h5=>hel _ _ hq (hs.elsh hq h1 h2 h3 h4 h5)
 refine⟨⟨⟨e,g g1 ?_ ?_ ?_ ?_ ?_⟩,g g2 ?_ ?_ ?_ ?_ ?_⟩,⟨g hc.ch ?_ ?_ ?_ ?_ ?_,g hc.ar ?_ ?_ ?_ ?_ ?_,g hc.dat ?_ ?_ ?_ ?_ ?_,hc.len⟩,hS,g hk ?_ ?_ ?_ ?_ ?_⟩<;>intro h<;>cases h
end
theorem RO(C:aU)(H:WU C){rows:Rows}{A:vQ}{s:Sg}{d:D}{p:List (BitVec 8)}{mk:Nat}{v0:Int}(v:Nat)(hv:v<=255)(hmk:live rows mk=some ⟨S8,[WR A v0]⟩)(hS:oc rows A s)(hW:Whole (s.v A))(ht:s.t=3758096386#32)(ho:s.o=3#32)(K6:s.nx.toNat<hH s.t)(hla:s.last.length<=1000)
  (hd:∀R,(∀q l,live rows q=some ⟨L8,l⟩->live R q=some ⟨L8,l⟩)->aY R d p)(mH:dW d=some p.length)(hp:p.length<=9223372036854775807){K:D->Rows->Prop}
  (hk:∀aa o po Hq sig,sig=iq (s.v A) s.nx (wZ v) (ci (dE v (cH 200 p)))->UW aa o po mk (A.next Hq) (s.next (wZ v) (ci (dE v (cH 200 p)))) v (l9 (jV (dE v (cH 200 p)) sig (cH 200 p)) []) (dP (s.v A))->sig.length=2252->(∀q row,live rows q=some row->q≠mk->uY rows A s q->live aa q=some row)->K (.ptr mG o [0]) aa):
  aB C 4 gK gJ [.ptr S8 mk [0],.raw (it (v:Int)),d,.raw (it 2)] rows K:=by
 refine ae rfl ?_
 unfold gJ gK
 obtain⟨C1,C2,o1,o2,o3⟩:=H.o1
 obtain⟨I1,i1,hI⟩:=H.i1
 obtain⟨J1,j1⟩:=H.id1
 obtain⟨D1,D2,D3,dd,hP⟩:=H.d1
 obtain⟨S1,s1,hSo⟩:=H.s1
 have e40:(40:Int)=((40:Nat):Int):=rfl
 simp only[↓ag,ah,simprocAttr,aK,H.f0,H.f1]
 rw[e40]
 refine QW 40 (by decide) ?_
 have hx0:sP.length=10240:=aaN ..
 rw[show List.replicate (256*40) 255#8=sP from rfl]
 have UL:fW (rows++[some ⟨L8,[.raw (u8 255#8)]⟩,some ⟨L8,bs sP⟩,some ⟨SF,[.agg SF [.sl L8 (rows.length+1) [] 0 10240 false]]⟩]) (rows.length+2) (rows.length+1) sP:=⟨⟨false,by rw[hx0];exact bg rows _ 2⟩,bg rows _ 1⟩
 simp only[↓ag,ah,simprocAttr,aK,H.o0,o1]
 refine Jx C1 C2 o2 o3 λR2 MQ hC2=>?_
 have hK2':=(dz.app rows _).trans MQ
 have Bq:fW R2 (rows.length+2) (rows.length+1) sP:=by
  obtain⟨⟨e,g1⟩,g2⟩:=UL
  exact⟨⟨e,MQ _ _ g1⟩,MQ _ _ g2⟩
 have KJ:=hK2' _ _ hmk
 clear UL
 simp only[↓ag,ah,simprocAttr,aK,KJ,mk_s1]
 have hf2:∀q row,live R2 q=some row->row.sh≠S8->live (R2.set mk (some ⟨S8,[WR A (v:Int)]⟩)) q=some row:=λq row hq hn=>(aA (abh (UX hq KJ hn))).trans hq
 have hm3:=aD (y:=(⟨S8,[WR A (v:Int)]⟩:Row)) KJ
 have hf3:∀q row,live rows q=some row->q≠mk->live (R2.set mk (some ⟨S8,[WR A (v:Int)]⟩)) q=some row:=λq row hq hn=>(aA (abh hn)).trans (hK2' _ _ hq)
 generalize R2.set mk (some ⟨S8,[WR A (v:Int)]⟩)=R3 at*
 have hM3:sG R3 (rows.length+2) (rows.length+1) (rows.length+5) (rows.length+4) (rows.length+3) mk A s v sP tP:=by
  obtain⟨⟨e,g1⟩,g2⟩:=Bq
  simp only[aap,aaP,aaV,abk,Nat.reduceAdd,abO]at hC2
  have hc:=hC2
  refine⟨⟨⟨e,hf2 _ _ g1 (by intro h;cases h)⟩,hf2 _ _ g2 (by intro h;cases h)⟩,hC2.keep λp row hp hi=>hf2 p row hp ?_,hS.kp λp row hp hi=>hf2 _ _ (hK2' _ _ hp) ?_,hm3⟩
  ·rcases hi with rfl|rfl|rfl
   ·rw[hc.ch]at hp;cases hp;intro h;cases h
   ·rw[hc.ar]at hp;cases hp;intro h;cases h
   ·rw[hc.dat]at hp;cases hp;intro h;cases h
  ·rcases hi with e|e|e|e|e<;>rw[e]<;>intro h<;>cases h
 have KD:∀more,aY (R3++more) d p:=λmore=>hd _ λq l hq=>ab (hf2 _ _ (hK2' _ _ hq) (by intro h;cases h)) more
 simp only[↓ag,ah,simprocAttr,aK,H.i0,i1]
 refine UT I1 hI v hv hM3.k hM3.s hW K6 hla KD mH hp λR4 Hq r n hS4 hn hr yx hel tR=>?_
 have hM4:=hM3.im hS4 hel
 have hW4:=J9 hW hS4
 have OO:=WK hW ho (n:=2) ht rfl K6 (wZ v) (ci (dE v (cH 200 p))) (by rw[wZ,abe];rfl)
 have pY:=Kd (dE v (cH 200 p)) (iq (s.v A) s.nx (wZ v) (ci (dE v (cH 200 p)))) (cH 200 p) (dk _)
 rw[sC,OO]at pY
 have hpub:dP ((s.next (wZ v) (ci (dE v (cH 200 p)))).v (A.next Hq))=dP (s.v A):=rfl
 have qm:(dP (s.v A)).length=56:=o5 hW.ok
 have kP:=λR (hS:oc R (A.next Hq) (s.next (wZ v) (ci (dE v (cH 200 p))))) k=>QR R k _ _ hS.rd hW4.ok
 simp only[hpub]at kP
 have Vb:=λaa o po sig=>hk aa o po Hq sig
 generalize s.next (wZ v) (ci (dE v (cH 200 p)))=s' at*
 generalize hsg:iq (s.v A) s.nx (wZ v) (ci (dE v (cH 200 p)))=sig at*
 generalize hig:jV (dE v (cH 200 p)) sig (cH 200 p)=OP at*
 subst hn
 simp only[↓ag,ah,simprocAttr,aK,H.w0,H.w1]
 refine Ug hM4.f hr (by rw[hx0];decide) (by rw[pY];omega) 0 λR5 U5=>?_
 rw[layX_one OP (by rw[pY];omega)]at U5
 have hM5:=hM4.wr U5
 have hk5:=hM5.k
 have kP5:∀k,aG uR R5 k [.ptr ik (A.next Hq).r [0]]=k (.sl L8 (0+R5.length) [] 0 56 false) (R5++[some ⟨L8,bs (dP (s.v A))⟩]):=λk=>kP R5 hM5.s k
 simp only[↓ag,ah,simprocAttr,aK,hk5,WS,H.pu,kP5,H.id0,j1]
 refine id_run J1 λR6=>?_
 have hM6:=(hM5.push [some ⟨L8,bs (dP (s.v A))⟩]).push R6
 have hf7:∀q row,live rows q=some row->q≠mk->uY rows A s q->live ((R5++[some ⟨L8,bs (dP (s.v A))⟩])++R6) q=some row:=λq row hq hn he=>ab (ab (U5.frame _ _ (hel _ _ (hf3 _ _ hq hn) he) (by have:=aR hq;omega)) _) _
 have hp6:=ab (a9 R5 [some ⟨L8,bs (dP (s.v A))⟩]) R6
 generalize (R5++[some ⟨L8,bs (dP (s.v A))⟩])++R6=R7 at*
 have kK:=λk=>kToKey (n:=Kg) rfl (hM6.c.rd) sE (aY.own (ex:=false) hp6 56 qm.symm) qm (by decide) (λw hw=>by rw[OJ]at hw;exact abt (abQ hw)) k
 simp only[↓ag,ah,simprocAttr,aK,H.ke,kK,H.d0,dd]
 have Bb:=Bl tP 9 (Fp Kg (dP (s.v A))) (by rw[sD,sE];decide) λk _ _=>OK k
 refine Du D1 D2 D3 hP (hM6.push _).c (a9 R7 _) rfl (aa3 (oY _ _ _ _) (by rw[sD];decide)) Bb.1 λR8 hC8 ZP=>?_
 have hM8:sG R8 _ _ _ _ _ mk (A.next Hq) s' v (l9 OP []) (yI Kg (dP (s.v A))):=(hM6.push _).pr hC8 ZP
 have lf0:eB (yI Kg (dP (s.v A)))<=1:=by unfold eB;rw[OL];show Dp 0#32 4<=1;decide
 have kL:=λk=>VV (hM8.c.rd) (sF Kg _) 1 (by decide) lf0 k
 have e2:((1+1:Nat):Int)=2:=rfl
 rw[e2]at kL
 simp only[↓ag,ah,simprocAttr,aK,H.li,kL,H.d0,dd]
 have hp3:=Bl (yI Kg (dP (s.v A))) 0 [255#32<<<(8*1)] (by rw[sF];exact abE rfl) λk _ h=>OM Kg _ k (by simp at h;omega)
 refine Du D1 D2 D3 hP (hM8.push _).c (a9 R8 _) rfl (aa3 (oY _ _ _ _) (abE rfl)) hp3.1 λR9 hC9 hF9=>?_
 have ec:uZ Kg (dP (s.v A)) 0 1=Rt (yI Kg (dP (s.v A))) 0 [255#32<<<(8*1)]:=by rw[uZ,chpN_0]
 have hM9:sG R9 _ _ _ _ _ mk (A.next Hq) s' v (l9 OP []) (Rt (yI Kg (dP (s.v A))) 0 [255#32<<<(8*1)]):=(hM8.push _).pr hC9 hF9
 rw[<-ec]at hM9
 simp only[↓ag,ah,simprocAttr,aK,H.s0,s1]
 have FG:(l9 OP []).length=10240:=by rw[l9,mJ,mJ];exact hx0
 refine sof_run S1 hSo hM9.f FG hM9.c λR10 o' f' m' p' q' a' w' hK10 g1 g2 g3 g4=>?_
 simp only[↓ag,ah,simprocAttr,aK]
 exact Vb R10 o' p' sig rfl ⟨⟨⟨f',m',q',a',w',g1,by rw[hig];exact g2,g3⟩,g4⟩,hM9.s.keep hK10,hK10 _ _ hM9.k⟩ OO λq row hq hn he=>hK10 _ _ (hF9 _ _ (ab (ZP _ _ (ab (hf7 _ _ hq hn he) _) (by have:=aR hq;omega)) _) (by have:=aR hq;omega))
structure TokC (C:aU):Prop where
 id0:C.fn 23=none
 id1:∃C1,C.cV 23=some (aB C1 0 oO oN)
 bo:C.fn 27=some OT
 s0:C.fn 28=none
 s1:∃C1,C.cV 28=some (aB C1 3 gf fZ)/\LmS C1
 jo:C.fn 29=some Dg
theorem tok_run(C:aU)(H:TokC C){rows:Rows}{A:vQ}{s:Sg}{mk:Nat}{v:Int}(hmk:live rows mk=some ⟨S8,[WR A v]⟩)(hS:oc rows A s)(hW:Whole (s.v A))(K6:s.nx.toNat<hH s.t)(hla:s.last.length<=1000){K:D->Rows->Prop}
  (hk:∀aa d,d.fits .ref=true->(∀q row,live rows q=some row->uY rows A s q->live aa q=some row)->K d aa):
  aB C 3 iG iF [.ptr S8 mk [0],.raw (it 1),.raw (u32 0#32)] rows K:=by
 refine ae rfl ?_
 unfold iF iG
 obtain⟨J1,j1⟩:=H.id1
 obtain⟨L1,l1,hL⟩:=H.s1
 simp only[-List.reduceReplicate,Kb,eu]
 simp only[-List.reduceReplicate,↓ag,ah,simprocAttr,aK,H.id0,j1]
 refine id_run J1 λR=>?_
 have hS1:=hS.push R
 have hmk1:=ab hmk R
 have hf1:∀q row,live rows q=some row->live (rows++R) q=some row:=λq row hq=>ab hq R
 have hle:rows.length<=(rows++R).length:=by rw[aap];omega
 generalize rows++R=R1 at*
 have UU:=λl=>ab hmk1 l
 have kB:=λk=>kTBody R1 k
 simp only[tok1]at kB
 have ez:(bs sO).set 0 (.raw (u8 (BitVec.setWidth 8 0#32)))=bs sO:=rfl
 simp only[-List.reduceReplicate,↓ag,ah,simprocAttr,aK,H.bo,kB,UU,WS,H.s0,l1,ez]
 have hlv:jq (s.v A)=hH s.t:=hW.lv
 have hpn:=hW.pn K6
 refine J7 L1 hL (hS1.push _) hW.ok hW.o (c:=sO) (m:=OR) rfl (.inr ⟨R1.length,false,rfl,a9 R1 [some ⟨L8,bs OR⟩]⟩) (by decide) (by rw[hlv];exact K6) (by omega) λR2 Hq r g1 g2 g3 g4 g5 g6=>?_
 have hb:=g4 _ _ (a9 R1 [some ⟨L8,bs OR⟩]) (zq hS1 (aax _))
 have mH:=yB hW.ok (by rw[hlv];exact K6) sO OR rfl
 have hpn2:32*ie (s.v A) s.nx.toNat=32*hT s.t.toNat:=by rw[hpn];rfl
 have ht9:hT s.t.toNat<=10:=hW.t10
 have hp9:=pT_le s.o.toNat
 have jn:(s.v A).o=s.o:=rfl
 rw[jn]at mH
 rw[hpn2]at mH⊢
 obtain⟨n,hn⟩:∃n,n=44+32*pT s.o.toNat+32*hT s.t.toNat:=⟨_,rfl⟩
 rw[<-hn]at mH⊢
 have kJ:=λk=>VG (R2++[some ⟨.ref,[.sl L8 R1.length [] 0 28 false,.sl L8 r [] 0 n false]⟩]) k R2.length 2 true [.sl L8 R1.length [] 0 28 false,.sl L8 r [] 0 n false] [OR,iq (s.v A) s.nx sO OR] (a9 R2 _) rfl (.cons (aY.own (ab hb _) _ rfl) (.cons (aY.own (ab g2 _) n mH.symm) .nil)) (by simp) (by simp only[abZ,acb,aaS,aap,mH];show 28+n<=_;omega)
 simp only[↓ag,ah,simprocAttr,aK,H.jo,kJ]
 refine hk _ _ ?_ λq row hq he=>?_
 ·rfl
 exact ab (g4 q row (ab (hf1 _ _ hq) _) he) _
noncomputable def OU:Fn:=nv ry (λ_=>true) λw=>(.sl L8 0 [] 0 4 true,[some ⟨L8,bs (lw w)⟩])
theorem wordp_ok(C:aU)(hC:aI C P)(h1:C.fn 115=some VB):aQ C.aZ P 43 (Fn.run OU):=by
 refine aJ (Ny C hC) λds rows r h=>?_
 obtain⟨d,n,rfl,rfl,hd,-,rfl⟩:=bd h
 cases dY hd
 refine⟨rfl,ae rfl ?_⟩
 unfold B5 B6
 have g0:(bs (bz n))[0]?=some (.raw (u8 ((n>>>24).setWidth 8))):=rfl
 have g1:(bs (bz n))[1]?=some (.raw (u8 ((n>>>16).setWidth 8))):=rfl
 have g2:(bs (bz n))[2]?=some (.raw (u8 ((n>>>8).setWidth 8))):=rfl
 have g3:(bs (bz n))[3]?=some (.raw (u8 (n.setWidth 8))):=rfl
 simp only[↓ag,ah,simprocAttr,aK,h1,kNum,g0,g1,g2,g3]
 exact .own _ 1 0 4 true true _ rfl rfl id
theorem OV(rows:Rows)(k:D->Rows->Prop)(n:BitVec 32):aG OU rows k [.raw (u32 n)]=k (.sl L8 (0+rows.length) [] 0 4 true) (rows++[some ⟨L8,bs (lw n)⟩]):=by
 refine(bk rfl (fa (fL n) rfl)).trans ?_
 rfl
theorem UY(rows l:Rows)(k:D->Rows->Prop)(j n:Nat)(ex:Bool)(ds:List D)(ps:List (List (BitVec 8)))(hl:live l j=some ⟨.ref,ds⟩)(hn:ds.length=n)(hv:aW (λx y=>aY (rows++l) x y) ds ps)(h1:ps.length<=1099511627776)(h2:ps.flatten.length<=1099511627776):
  aG Dg (rows++l) k [.sl .ref (rows.length+j) [] 0 n ex]=k (.sl L8 (rows.length+l.length) [] 0 ps.flatten.length false) (rows++(l++[some ⟨L8,bs ps.flatten⟩])):=by
 rw[VG _ _ _ _ _ ds ps ((bg rows l j).trans hl) hn hv h1 h2,abk,aap,aaB]
structure ProgC (C:aU):Prop where
 wo:C.fn 43=some OU
 jo:C.fn 29=some Dg
theorem prog_run(C:aU)(H:ProgC C){rows:Rows}{K:D->Rows->Prop}(hk:∀aa r,dz rows aa->live aa r=some ⟨L8,bs MY⟩->K (.sl L8 r [] 0 24 false) aa):
  aB C 1 jZ jY [.raw (.string ⟨#[104,105]⟩)] rows K:=by
 refine ae rfl ?_
 unfold jY jZ
 have hw:BitVec.setWidth 32 (UInt8.toBitVec 104)*1048576#32+275#32=109052179#32:=rfl
 have hw2:BitVec.setWidth 32 (UInt8.toBitVec 105)*1048576#32+275#32=110100755#32:=rfl
 have hs:(⟨#[104,105]⟩:ByteArray).size=2:=rfl
 have h0:(⟨#[104,105]⟩:ByteArray).data.toList[0]?=some 104:=rfl
 have h1:(⟨#[104,105]⟩:ByteArray).data.toList[1]?=some 105:=rfl
 simp only[↓ag,ah,simprocAttr,aK,H.wo,OV]
 refine dQ 3 ?_
 simp only[↓ag,ah,simprocAttr,aK,H.wo,OV,hs,h0,h1,hw,hw2,aby,H.jo]
 refine(UY rows _ _ 3 3 true _ [lw 1073742007#32,lw 109052179#32,lw 2129955#32] rfl rfl (.cons (aY.own (a9 rows _) _ rfl) (.cons (aY.own (bg rows _ 1) _ rfl) (.cons (aY.own (bg rows _ 2) _ rfl) .nil))) (by decide) (by decide)).mpr ?_
 simp only[↓ag,ah,simprocAttr,aK,H.wo,OV,hs,h0,h1,hw,hw2,aby,H.jo]
 refine(UY rows _ _ 7 3 true _ [[lw 1073742007#32,lw 109052179#32,lw 2129955#32].flatten,lw 110100755#32,lw 2129955#32] rfl rfl (.cons (aY.own (bg rows _ 4) _ rfl) (.cons (aY.own (bg rows _ 5) _ rfl) (.cons (aY.own (bg rows _ 6) _ rfl) .nil))) (by decide) (by decide)).mpr ?_
 simp only[↓ag,ah,simprocAttr,aK,H.wo,OV,hs,h0,h1,hw,aby,H.jo]
 refine(UY rows _ _ 10 2 true _ [[[lw 1073742007#32,lw 109052179#32,lw 2129955#32].flatten,lw 110100755#32,lw 2129955#32].flatten,lw 111#32] rfl rfl (.cons (aY.own (bg rows _ 8) _ rfl) (.cons (aY.own (bg rows _ 9) _ rfl) .nil)) (by decide) (by decide)).mpr ?_
 simp only[↓ag,ah,simprocAttr,aK]
 exact hk _ _ (dz.app _ _) (bg rows _ 11)
theorem Aw.nall{rows:Rows}{L:Ly}{S:zp}{b:Nat}{B:Bt}{R:List (List (BitVec 8))}{l:Lh}(h:Aw rows L S b B R l){p:Nat}{y:List D}(hp:live rows p=some ⟨qI,y⟩):p∉L.all b:=by
 have g:=h.m.nid hp (by intro h;cases h) (by intro h;cases h) (by intro h;cases h) (by intro h;cases h) (by intro h;cases h) (by intro h;cases h) (by intro h;cases h)
 obtain⟨k,n,he⟩:=h.e.e
 have g1:=bB hp he (by intro h;cases h)
 have g2:=bB hp h.e.s (by intro h;cases h)
 have g3:=bB hp h.b (by intro h;cases h)
 simp only[Ly.ids,aaI,aa1,acd,ad5]at g
 simp only[Ly.all,aaI,aa1,acd,ad5]
 omega
theorem Aw.push{rows:Rows}{L:Ly}{S:zp}{b:Nat}{B:Bt}{R:List (List (BitVec 8))}{l:Lh}(h:Aw rows L S b B R l)(X:Rows):Aw (rows++X) L S b B R l:=
 ⟨h.m.keep λq row hq _=>ab hq _,h.e.keep λq row hq _=>ab hq _,ab h.b _⟩
structure OnAt (rows:Rows) (o p b:Nat) (L:Ly) (x:List (BitVec 8)) (W:List (BitVec 32)):Prop where
 rd:∃c,c.w=W/\Aw rows L ⟨0,oh,x,c,gI 0#32,.ptr qI p [0],Rr⟩ b OE zR ZN
 so:WL o L.f L.q p L b ir rows
 no:o∉L.all b
 po:live rows p=some ⟨qI,[DO ir 0#32]⟩
 np:p∉L.all b
structure PowC (C:aU):Prop where
 o0:C.fn 30=none
 o1:∃C1,C.cV 30=some (aB C1 1 jS jR)/\OnC C1
theorem WV(C:aU)(H:PowC C){rows:Rows}{o p:Nat}{x bA:List (BitVec 8)}(h:SocAt rows o p x bA)(hx:x.length=10240){d:D}{K:D->Rows->Prop}
  (hk:∀aa L b,OnAt aa o p b L x (uZ Kg bA 0 1).w->(∀q∈L.all b,rows.length<=q\/∃l,live rows q=some ⟨L8,l⟩)->Fr [o] rows aa->K oo aa):aB C 2 dG dF [.ptr mG o [0],Fs 0#8 0 0#32 d] rows K:=by
 obtain⟨C1,o1,hO⟩:=H.o1
 obtain⟨⟨f,m,q,a,w,jn,hF,hC⟩,hp⟩:=h
 have hlo:=aR jn
 have hnp:p≠o:=bB hp jn (by intro h;cases h)
 refine do0_run C C1 H.o0 o1 (W:=λaa=>∃L b,Aw aa L ⟨0,oh,x,YB (YB (uZ Kg bA 0 1).w).w,gI 0#32,.ptr qI p [0],Rr⟩ b OE zR ZN/\WL o L.f L.q p L b ir aa/\o∉L.all b/\(∀x∈L.all b,x=m\/rows.length<=x)/\Fr [o] (rows++[some ⟨S1,[Fs 0#8 0 0#32 d]⟩,some ⟨S7,[oo]⟩]) aa) (λK' Li=>?_) λaa hW=>?_
 ·refine on_run C1 hO (ab jn _) (hF.push _) hx (hC.push _) (ab hp _) λaa L b h1 h2 h3 h4 h5=>Li _ ⟨L,b,h1,h2,h3,λy hy=>?_,h5⟩
  have:=h4 y hy
  rw[aap]at this
  omega
 ·obtain⟨L,b,h1,h2,h3,h4,h5⟩:=hW
  refine⟨h5 _ _ (bg rows [some ⟨S1,[Fs 0#8 0 0#32 d]⟩,some ⟨S7,[oo]⟩] 1) (by simp;omega),?_⟩
  have hp':=h5 _ _ (ab hp _) (by simpa using hnp)
  refine hk _ L b ⟨⟨_,by rw[ofW_w,ofW_w],h1⟩,h2,h3,hp',h1.nall hp'⟩ (λy hy=>?_) λq row hq hn=>h5 _ _ (ab hq _) hn
  rcases h4 y hy with rfl|h
  ·exact .inr ⟨_,hF.2⟩
  ·exact .inl h
theorem Aw.lt{rows:Rows}{L:Ly}{S:zp}{b:Nat}{B:Bt}{R:List (List (BitVec 8))}{l:Lh}(h:Aw rows L S b B R l):∀x∈L.all b,x<rows.length:=by
 obtain⟨h1,⟨⟨k,n,h2⟩,h3,-,-⟩,h4⟩:=h
 have a1:=aR h1.ma
 have a2:=aR h1.sp
 have a3:=aR h1.fl.2
 have a4:=aR h1.ch.ch
 have a5:=aR h1.ch.dat
 have a6:=aR h2
 have a7:=aR h3
 have a8:=aR h4
 simp only[Ly.all,aaI,aa1,acd,ac9,ael]
 omega
abbrev zcR:Row:=⟨S7,[oo]⟩
structure Zn (x bA y:List (BitVec 8)) (v:Nat):Prop where
 i:∃sig,x=l9 (jV (dE v y) sig y) []/\sig.length=2252/\wY bA (ci (dE v y)) sig=0
 hv:v<=255
 hy:okY y
 hl:y.length<=204
 hp:bA.length=56
theorem Zn.cho{x bA y:List (BitVec 8)}{v:Nat}(h:Zn x bA y v){S:zp}(hx:S.x=x)(hc:S.c.w=(uZ Kg bA 0 1).w):
  (1<=eB S.c/\eB S.c<=3)/\(zI S).i=0/\(zI S).c=false/\(zI S).t=false/\mF S.x (oa S.c) (mO S.c) 0=0/\(gG S.x 0).1=dE v y/\(gG S.x 0).2.2.1=y:=by
 obtain⟨⟨sig,h1,h2,h3⟩,hv,hy,hl,hp⟩:=h
 have pY:=Kd (dE v y) sig y (dk _)
 obtain⟨w1,w2,w3,w4,w5,w6⟩:=Rx (hx.trans h1) hc hp hv hy (by omega) rfl (by omega) h3
 exact⟨w1,w2,w3,w4,w5,by rw[w6],by rw[w6]⟩
structure HiC (C:aU):Prop where
 w:∃C1 C2 T1 E1 L1,Do2C C C1 C2/\OG C2 T1 E1 L1/\Sj T1/\LiC L1/\E1.fn 162=none/\∃C3,E1.cV 162=some (aB C3 4 gV gU)
theorem pt0_eq:Rr=yF (List.replicate 64 0#8):=by rw[Rr,yF,bs,ad6]
theorem hi_do(C:aU)(H:HiC C){rows:Rows}{o p b q0 v:Nat}{L:Ly}{x bA y:List (BitVec 8)}{d:D}{y0:List D}(h:OnAt rows o p b L x (uZ Kg bA 0 1).w)(hI:Zn x bA y v)(hy:y.length=28)(Vc:y.take 24=MY)(hq:live rows q0=some ⟨.ar 32 L8,y0⟩)(hqn:q0∉o::L.all b){K:D->Rows->Prop}
  (hk:∀aa mk c cD l t,Lv [(q0,⟨.ar 32 L8,y0⟩)] aa o p b L mk c cD l [104#8,105#8] t->K oo aa):aB C 2 dG dF [.ptr mG o [0],Fs 2#8 100 0#32 d] rows K:=by
 obtain⟨C1,C2,T1,E1,L1,H2,HS,HT,HL,m0,m1⟩:=H.w
 obtain⟨⟨c,hw,hR⟩,jn,hno,Bj,hnp⟩:=h
 have hlt:=hR.lt
 have hlo:=aR jn
 have hpn:p≠o:=bB Bj jn (by intro h;cases h)
 obtain⟨w1,w2,w3,w4,w5,w6,w7⟩:=hI.cho (S:=⟨0,oh,x,c,gI 0#32,.ptr qI p [0],Rr⟩) rfl hw
 have hcn:∀k,rows.length<=k->k∉o::L.all b:=λk hk hm=>by
  rcases aaI.1 hm with e|e
  ·omega
  ·have:=hlt _ e;omega
 obtain⟨Z,hZ⟩:∃Z:Rows->Prop,Z=λaa=>∃mk c cD l t,Lv [(rows.length+1,zcR),(rows.length+2,zcR),(q0,⟨.ar 32 L8,y0⟩)] aa o p b L mk c cD l [104#8,105#8] t:=⟨_,rfl⟩
 refine WO H2 (N:=100) (by decide) jn (Z:=Z) ?_ λaa hz=>?_
 ·generalize hX:[some (⟨S1,[Fs 2#8 100 0#32 d]⟩:Row),some ⟨S7,[oo]⟩,some ⟨S7,[oo]⟩]=X
  have hc1:live (rows++X) (rows.length+1)=some zcR:=by rw[<-hX];exact bg rows _ 1
  have hc2:live (rows++X) (rows.length+2)=some zcR:=by rw[<-hX];exact bg rows _ 2
  clear hX
  have hz:(gG x 0).1.s=((28:Nat):Int):=by rw[w6,<-hy];rfl
  have hG:=OF HT (WM (f:=L.f) (q:=L.q) (p:=p) (N:=100) (Z:=Z) HS m0 m1 (eN:=rows++X) (S:=⟨0,oh,x,c,gI 0#32,.ptr qI p [0],Rr⟩) hno (λ_ _ _ _ _ _ _ _ _ _ h=>absurd h (by decide))) (hR.push X) rfl rfl rfl w1 w2 w3 w5 hz λaa c' B' hw' hF hM hB p1 p2 p3 p4=>?_
  ·exact hG (ab jn _) (Fr.refl _ _) (by decide)
  ·refine⟨⟨B',hB,p1,p3.trans w4⟩,λfb mk sA Bq UL _=>?_⟩
   have hids:o∉L.ids:=hR.m.nid jn (by intro h;cases h) (by intro h;cases h) (by intro h;cases h) (by intro h;cases h) (by intro h;cases h) (by intro h;cases h) (by intro h;cases h)
   have hids':∀r∈L.ids,r∉[o]:=λr hr=>by
    simp only[aaI,aa1,acd]
    exact λe=>hids (e▸hr)
   have Lg:jd fb L _:=hM.keep λr row hr hi=>Bq r row hr (hids' r hi)
   obtain⟨z',k1,k2,k3,k4,k5,k6,k7,k8,k9,-⟩:=Rk hR.m.xl (by decide:0<=1) w5
   have hz28:z'=28:=by
    have:((z':Nat):Int)=(28:Nat):=k1.symm.trans hz
    omega
   subst hz28
   have hram:(qG oh x (sv x 0) 28).take 24=MY:=by
    have e1:(qG oh x (sv x 0) 28).take 28=sub x (sv x 0) 28:=MS (by have:x.length=10240:=hR.m.xl;have:sv x 0+28<=4096*0+4096:=k6;omega)
    have e2:((qG oh x (sv x 0) 28).take 28).take 24=(qG oh x (sv x 0) 28).take 24:=(aco ..).trans rfl
    have e3:y=sub x (sv x 0) 28:=w7.symm.trans k9
    rw[<-e2,e1,<-e3,Vc]
   have he:(gG x 0).1.e=0:=by rw[w6];rfl
   have hco:gI (536870912#32+BitVec.ofInt 32 (gG x 0).1.e)=eO ⟨0#32,0#32,536870912#32,0#32⟩:=by rw[he];exact MI _
   have hsp:=Lg.sp
   have l7:=Lg.ma
   have nbo:b∉[o]:=by simp only[Ly.all,aaI,aa1,acd,ad5]at hno⊢;omega
   have hLv:Lv [(rows.length+1,zcR),(rows.length+2,zcR),(q0,⟨.ar 32 L8,y0⟩)] fb o p b L mk ⟨0#32,0#32,536870912#32,0#32⟩ (qG oh x (sv x 0) 28) (List.replicate 64 0#8) [] 0#32:=by
    refine⟨sA,by rw[<-hco];exact l7,by rw[<-pt0_eq];exact hsp,⟨ir,UL _ _ (ab Bj _) ?_,.inl ⟨rfl,rfl⟩⟩,⟨B',Bq _ _ hB nbo,p1⟩,Lg.rl,⟨by rw[aaN],by decide⟩,?_⟩
    ·simp only[aaI,ad5];exact⟨hpn,hnp⟩
    ·intro r yy hm
     simp only[aaI,Prod.mk.injEq,aa1,acd]at hm
     rcases hm with⟨rfl,rfl⟩|⟨rfl,rfl⟩|⟨rfl,rfl⟩
     ·exact⟨.inl rfl,UL _ _ hc1 (hcn _ (by omega))⟩
     ·exact⟨.inl rfl,UL _ _ hc2 (hcn _ (by omega))⟩
     ·exact⟨.inr rfl,UL _ _ (ab hq _) hqn⟩
   exact hi_run HS HL hram hLv 56 λmy c3 l3 t3 h3=>by rw[hZ];exact⟨_,_,_,_,_,h3⟩
 ·rw[hZ]at hz
  obtain⟨mk,c,cD,l,t,hL⟩:=hz
  exact⟨(hL.ce _ _ (by simp)).2,(hL.ce _ _ (by simp)).2,hk _ _ _ _ _ _ ⟨hL.so,hL.ma,hL.sp,hL.po,hL.bt,hL.rl,hL.pl,λq r hm=>hL.ce q r (ab3 _ (ab3 _ hm))⟩⟩
structure OutC (C:aU):Prop where
 o0:C.fn 42=none
 o1:∃C1,C.cV 42=some (aB C1 1 ix iw)/\C1.fn 114=some oX
structure LivC (C:aU):Prop where
 m0:C.fn 5=none
 m1:∃C1,C.cV 5=some (aB C1 1 oK oJ)/\WT C1
 p0:C.fn 14=none
 p1:∃C1,C.cV 14=some (aB C1 1 jZ jY)/\ProgC C1
 l0:C.fn 6=none
 l1:∃C1,C.cV 6=some (aB C1 4 gK gJ)/\WU C1
 d0:C.fn 8=none
 d1:∃C1,C.cV 8=some (aB C1 2 dG dF)/\PowC C1/\HiC C1
 w0:C.fn 15=none
 w1:∃C1,C.cV 15=some (aB C1 0 pG pF)/\WkC C1
 h0:C.fn 9=none
 h1:∃C1,C.cV 9=some (aB C1 1 eh ee)
 o0:C.fn 13=none
 o1:∃C1,C.cV 13=some (aB C1 1 kz ky)/\OutC C1
theorem Zo(C:aU)(H:LivC C){rows:Rows}{q0:Nat}{y0:List D}(hq:live rows q0=some ⟨.ar 32 L8,y0⟩){K:D->Rows->Prop}(hk:∀aa,live aa q0=some ⟨.ar 32 L8,y0⟩->K (.raw (.bool true)) aa):aB C 0 pE pD [] rows K:=by
 refine ae rfl ?_
 unfold pD pE
 obtain⟨M1,m1,hM⟩:=H.m1
 obtain⟨P1,p1,hP⟩:=H.p1
 obtain⟨L1,l1,hL⟩:=H.l1
 obtain⟨D1,d1,hPo,hHi⟩:=H.d1
 obtain⟨W1,w1,hW⟩:=H.w1
 obtain⟨H1,h1⟩:=H.h1
 obtain⟨O1,o1,hO⟩:=H.o1
 obtain⟨O2,o2,jt⟩:=hO.o1
 have hlq:=aR hq
 simp only[-List.reduceReplicate,eu]
 simp only[-List.reduceReplicate,↓ag,ah,simprocAttr,aK,MX,H.m0,m1]
 refine RF M1 hM (aM:=jQ) rfl λR1 A mk hS1 hW1 Q9 ha tR hmk1 hmk=>?_
 simp only[↓ag,ah,simprocAttr,aK,H.p0,p1]
 refine prog_run P1 hP λR2 r MQ YP=>?_
 have hS2:=hS1.keep MQ
 have UU:=MQ _ _ hmk1
 have Vo:=MQ _ _ (Q9 _ _ hq)
 simp only[↓ag,ah,simprocAttr,aK,H.l0,l1]
 have hel:uY R2 A (WQ jQ) q0:=⟨by omega,by omega,by omega,by omega,λex n e=>by rw[tR]at e;cases e⟩
 refine RO L1 hL (p:=MY) 1 (by decide) UU hS2 hW1 rfl rfl (by decide) (by decide) (λR hR=>aY.own (hR _ _ YP) _ rfl) rfl (by decide) λR3 o p Hq sig hsig hLa mH Y8=>?_
 have hq3:=Y8 _ _ Vo (by omega) hel
 have hmk3:=hLa.ma
 have hx:(l9 (jV (dE 1 (cH 200 MY)) sig (cH 200 MY)) []).length=10240:=by rw[l9,mJ,mJ];exact aaN ..
 have Fq:=Ke hW1 (q:=(WQ jQ).nx) (show(0#32).toNat<hH 3758096386#32 by decide) (wZ 1) (ci (dE 1 (cH 200 MY))) (by decide)
 have qm:(dP ((WQ jQ).v A)).length=56:=o5 hW1.ok
 have hyl:(cH 200 MY).length=28:=sC 200 MY
 rw[<-hsig]at Fq
 have hIm:Zn (l9 (jV (dE 1 (cH 200 MY)) sig (cH 200 MY)) []) (dP ((WQ jQ).v A)) (cH 200 MY) 1:=⟨⟨sig,rfl,mH,Fq⟩,by decide,DQ 200 MY (by decide),by rw[hyl];decide,qm⟩
 have h24:(cH 200 MY).take 24=MY:=rfl
 generalize l9 (jV (dE 1 (cH 200 MY)) sig (cH 200 MY)) []=X at*
 generalize cH 200 MY=Y at*
 generalize dP ((WQ jQ).v A)=bA at*
 generalize (WQ jQ).next (wZ 1) (ci (dE 1 Y))=s' at*
 have hmk4:=hLa.ma
 simp only[↓ag,ah,simprocAttr,aK,hmk4,WS,H.d0,d1]
 refine WV D1 hPo hLa.sc hx λR4 L b hOn hLx hF4=>?_
 have hqo:q0≠o:=bB hq3 hLa.sc.so.choose_spec.choose_spec.choose_spec.choose_spec.choose_spec.1 (by intro h;cases h)
 have hq4:=hF4 _ _ hq3 (by simpa using hqo)
 have hqn:q0∉o::L.all b:=λhm=>by
  rcases aaI.1 hm with e|e
  ·exact hqo e
  ·have:=aR hq3
   rcases hLx _ e with h|⟨l,h⟩
   ·omega
   ·rw[hq3]at h;cases h
 simp only[↓ag,ah,simprocAttr,aK,H.d0,d1]
 refine hi_do D1 hHi hOn hIm hyl h24 hq4 hqn λR5 mk' c cD l t hLv=>?_
 simp only[↓ag,ah,simprocAttr,aK,H.w0,w1]
 refine Zl W1 hW λR6 hK6=>?_
 have hso6:=hK6 _ _ hLv.so
 obtain⟨B,hB,WW⟩:=hLv.bt
 obtain⟨od,Bj,hO6⟩:=hLv.po
 have hq6:=hK6 _ _ (hLv.ce q0 _ (aba.2 rfl)).2
 simp only[↓ag,ah,simprocAttr,aK,H.h0,h1]
 refine uW H1 hso6 (hK6 _ _ hB) ?_
 simp only[↓ag,ah,simprocAttr,aK,WW,H.o0,o1]
 refine vY O1 O2 hO.o0 o2 jt hso6 (hK6 _ _ Bj) (outs:=[104#8,105#8]) ?_ (by decide) ?_
 ·exact(UM hO6 λq l hq=>hK6 _ _ hq).to
 simp only[↓ag,ah,simprocAttr,aK]
 refine⟨by simp[fg],rfl,o7 (a:=[104,105]) rfl ?_⟩
 change K (.raw (.bool ((⟨[104,105].toArray⟩:ByteArray).toList==(⟨#[104,105]⟩:ByteArray).toList))) _
 rw[show((⟨[104,105].toArray⟩:ByteArray).toList==(⟨#[104,105]⟩:ByteArray).toList)=true from acy _]
 exact hk _ (ab hq6 _)
structure BoAt (rows:Rows) (o p b:Nat) (L:Ly):Prop where
 rd:∃B S R l,Aw rows L S b B R l/\B.ph<8/\S.st=0/\S.pt=Rr
 so:WL o L.f L.q p L b ir rows
 po:live rows p=some ⟨qI,[DO ir 0#32]⟩
theorem tick_do(C:aU)(H:HiC C){rows:Rows}{o p b v N:Nat}{L:Ly}{x bA y:List (BitVec 8)}{d:D}(h:OnAt rows o p b L x (uZ Kg bA 0 1).w)(hI:Zn x bA y v)(hN:N<=37){K:D->Rows->Prop}
  (hk:∀aa,BoAt aa o p b L->K oo aa):aB C 2 dG dF [.ptr mG o [0],Fs 2#8 N 0#32 d] rows K:=by
 obtain⟨C1,C2,T1,E1,L1,H2,HS,HT,HL,m0,m1⟩:=H.w
 obtain⟨⟨c,hw,hR⟩,jn,hno,Bj,hnp⟩:=h
 have hlt:=hR.lt
 have hlo:=aR jn
 have hpn:p≠o:=bB Bj jn (by intro h;cases h)
 obtain⟨w1,w2,w3,w4,w5,w6,w7⟩:=hI.cho (S:=⟨0,oh,x,c,gI 0#32,.ptr qI p [0],Rr⟩) rfl hw
 have hcn:∀k,rows.length<=k->k∉o::L.all b:=λk hk hm=>by
  rcases aaI.1 hm with e|e
  ·omega
  ·have:=hlt _ e;omega
 have hy4:4<=y.length:=hI.hy.2.1
 obtain⟨Z,hZ⟩:∃Z:Rows->Prop,Z=λaa=>BoAt aa o p b L/\live aa (rows.length+1)=some zcR/\live aa (rows.length+2)=some zcR:=⟨_,rfl⟩
 refine WO H2 (N:=N) (by omega) jn (Z:=Z) ?_ λaa hz=>?_
 ·generalize hX:[some (⟨S1,[Fs 2#8 (N:Int) 0#32 d]⟩:Row),some ⟨S7,[oo]⟩,some ⟨S7,[oo]⟩]=X
  have hc1:live (rows++X) (rows.length+1)=some zcR:=by rw[<-hX];exact bg rows _ 1
  have hc2:live (rows++X) (rows.length+2)=some zcR:=by rw[<-hX];exact bg rows _ 2
  clear hX
  have hz:(gG x 0).1.s=((y.length:Nat):Int):=by rw[w6];rfl
  have hG:=OF HT (WM (f:=L.f) (q:=L.q) (p:=p) (N:=N) (Z:=Z) HS m0 m1 (eN:=rows++X) (S:=⟨0,oh,x,c,gI 0#32,.ptr qI p [0],Rr⟩) hno (λaa B S' R l RW hS hp hso' hF _=>?_)) (hR.push X) rfl rfl rfl w1 w2 w3 w5 hz λaa c' B' hw' hF hM hB p1 p2 p3 p4=>?_
  ·exact hG (ab jn _) (Fr.refl _ _) (acm _)
  ·rw[hZ]
   exact⟨⟨⟨B,S',R,l,RW,hp,hS.st,hS.pt⟩,hso',hF _ _ (ab Bj _) (by simp only[aaI,ad5];exact⟨hpn,hnp⟩)⟩,hF _ _ hc1 (hcn _ (by omega)),hF _ _ hc2 (hcn _ (by omega))⟩
  ·exact⟨⟨B',hB,p1,p3.trans w4⟩,λ_ _ _ _ _ h=>absurd h (by omega)⟩
 ·rw[hZ]at hz
  exact⟨hz.2.1,hz.2.2,hk _ hz.1⟩
theorem mach_run(C:aU){rows:Rows}{o f q p M:Nat}{b k:D}(jn:live rows o=some ⟨mG,[G6 f q p (.ptr fq M [0]) b k]⟩){K:D->Rows->Prop}(hk:K (.ptr fq M [0]) rows):aB C 1 iI iH [.ptr mG o [0]] rows K:=by
 refine ae rfl ?_
 unfold iH iI
 simp only[↓ag,ah,simprocAttr,aK,jn,sy]
 exact hk
theorem UW.els{rows aa:Rows}{o p mk:Nat}{A:vQ}{s:Sg}{v:Int}{x bA:List (BitVec 8)}(h:UW rows o p mk A s v x bA)(hel:∀q row,live rows q=some row->uY rows A s q->live aa q=some row):SocAt aa o p x bA:=by
 obtain⟨⟨⟨f,m,q,a,w,jn,⟨⟨e,g1⟩,g2⟩,hc⟩,hp⟩,hs,hmk⟩:=h
 have g:∀{q sh l},live rows q=some ⟨sh,l⟩->ik≠sh->Sh.ar 32 L8≠sh->yz≠sh->yA≠sh->sh≠lq->live aa q=some ⟨sh,l⟩:=λhq h1 h2 h3 h4 h5=>hel _ _ hq (hs.elsh hq h1 h2 h3 h4 h5)
 refine⟨⟨f,m,q,a,w,g jn ?_ ?_ ?_ ?_ ?_,⟨⟨e,g g1 ?_ ?_ ?_ ?_ ?_⟩,g g2 ?_ ?_ ?_ ?_ ?_⟩,⟨g hc.ch ?_ ?_ ?_ ?_ ?_,g hc.ar ?_ ?_ ?_ ?_ ?_,g hc.dat ?_ ?_ ?_ ?_ ?_,hc.len⟩⟩,g hp ?_ ?_ ?_ ?_ ?_⟩<;>intro h<;>cases h
structure ShutC (C:aU):Prop where
 v0:C.fn 4=none
 v1:∃C1,C.cV 4=some (aB C1 0 pE pD)/\LivC C1
 m0:C.fn 5=none
 m1:∃C1,C.cV 5=some (aB C1 1 oK oJ)/\WT C1
 l0:C.fn 6=none
 l1:∃C1,C.cV 6=some (aB C1 4 gK gJ)/\WU C1
 t0:C.fn 7=none
 t1:∃C1,C.cV 7=some (aB C1 3 iG iF)/\TokC C1
 d0:C.fn 8=none
 d1:∃C1,C.cV 8=some (aB C1 2 dG dF)/\PowC C1/\HiC C1/\C1.fn 37=none/\∃C2,C1.cV 37=some (aB C2 2 df cZ)/\AskC C2/\C2.fn 9=none/\∃C3,C2.cV 9=some (aB C3 1 eh ee)
 h0:C.fn 9=none
 h1:∃C1,C.cV 9=some (aB C1 1 eh ee)
 a0:C.fn 10=none
 a1:∃C1,C.cV 10=some (aB C1 1 iI iH)
 co:C.fn 11=some Fl
 s0:C.fn 12=none
 s1:∃C1,C.cV 12=some (aB C1 3 dM dL)/\StpC C1
 o0:C.fn 13=none
 o1:∃C1,C.cV 13=some (aB C1 1 kz ky)/\OutC C1
theorem MZ(t c i a w):(G5 t c i a w).get [0]=some (.raw (.bool t)):=rfl
theorem RP(x:BitVec 32):((1073741824#32<=x)=True/\(x<1073741888#32)=True/\ZO x)\/((1073741824#32<=x)=True/\(x<1073741888#32)=False/\¬ZO x)\/((1073741824#32<=x)=False/\(True=True)=True/\¬ZO x):=by
 have h1:(1073741824#32<=x)↔1073741824<=x.toNat:=abx
 have h2:(x<1073741888#32)↔x.toNat<1073741888:=aci
 unfold ZO
 by_cases c1:1073741824<=x.toNat
 ·by_cases c2:x.toNat<1073741888
  ·exact .inl ⟨aas (h1.2 c1),aas (h2.2 c2),c1,c2⟩
  ·exact .inr (.inl ⟨aas (h1.2 c1),aaw λh=>c2 (h2.1 h),λh=>c2 h.2⟩)
 ·exact .inr (.inr ⟨aaw λh=>c1 (h1.1 h),aas rfl,λh=>c1 h.1⟩)
theorem shut_run(C:aU)(H:ShutC C)(aM:List (BitVec 8))(ri:aM.length=32){d:D}{p:List (BitVec 8)}(hd:eC d p)(hp:p.length<=9223372036854775807)(ticks:BitVec 8)(x:BitVec 32)(w:Bool):
  aB C 5 pg pf [.agg (.ar 32 L8) (bs aM),d,.raw (u8 ticks),.raw (u32 x),.raw (.bool w)] [] (λd _=>d= .raw (.bool true)):=by
 refine ae rfl ?_
 unfold pf pg
 obtain⟨V1,v1,hV⟩:=H.v1
 obtain⟨M1,m1,hM⟩:=H.m1
 obtain⟨L1,l1,hL⟩:=H.l1
 obtain⟨T1,t1,hT⟩:=H.t1
 obtain⟨D1,d1,hPo,hHi,k0,K1,k1,hAs,ZQ,K2,ZR⟩:=H.d1
 obtain⟨H1,h1⟩:=H.h1
 obtain⟨A1,a1⟩:=H.a1
 obtain⟨S1',s1,hSt⟩:=H.s1
 obtain⟨O1,o1,hO⟩:=H.o1
 obtain⟨O2,o2,jt⟩:=hO.o1
 simp only[-List.reduceReplicate,G4,inZ,evZ]
 simp only[↓ag,ah,simprocAttr,aK,H.v0,v1]
 refine Zo V1 hV (q0:=0) (y0:=[.agg (.ar 32 L8) (bs aM)]) rfl λR1 hq1=>?_
 simp only[↓ag,ah,simprocAttr,aK,hq1,H.m0,m1]
 refine RF M1 hM (aM:=aM) ri λR2 A mk hS2 hW2 MQ ha tR UU hmk=>?_
 simp only[↓ag,ah,simprocAttr,aK,H.l0,l1]
 refine RO L1 hL (p:=p) 3 (by decide) UU hS2 hW2 rfl rfl (show(0#32).toNat<hH 3758096386#32 by decide) (acm _) (λR hR=>hd.to) hd.dW hp λR3 o po Hq sig hsig hLa mH Y8=>?_
 have hmk3:=hLa.ma
 have hS3:=hLa.sg
 have hW3:=J9 hW2 hS3
 have hx:(l9 (jV (dE 3 (cH 200 p)) sig (cH 200 p)) []).length=10240:=by rw[l9,mJ,mJ];exact aaN ..
 have Fq:=Ke hW2 (q:=(WQ aM).nx) (show(0#32).toNat<hH 3758096386#32 by decide) (wZ 3) (ci (dE 3 (cH 200 p))) (by rw[wZ,abe];rfl)
 have qm:(dP ((WQ aM).v A)).length=56:=o5 hW2.ok
 have hyl:=sC 200 p
 rw[<-hsig]at Fq
 have hIm:Zn (l9 (jV (dE 3 (cH 200 p)) sig (cH 200 p)) []) (dP ((WQ aM).v A)) (cH 200 p) 3:=⟨⟨sig,rfl,mH,Fq⟩,by decide,DQ 200 p (by decide),by rw[hyl];omega,qm⟩
 simp only[↓ag,ah,simprocAttr,aK,H.t0,t1]
 refine tok_run T1 hT hmk3 hS3 hW3 (show(0#32+1#32).toNat<hH 3758096386#32 by decide) (abE rfl) λR4 dt Wv hF4=>?_
 have hSc:=hLa.els hF4
 generalize l9 (jV (dE 3 (cH 200 p)) sig (cH 200 p)) []=X at*
 generalize cH 200 p=Y at*
 generalize dP ((WQ aM).v A)=bA at*
 clear hF4 hS3 hW3 hLa Fq hsig Y8
 simp only[↓ag,ah,simprocAttr,aK,H.d0,d1]
 refine WV D1 hPo hSc hx λR5 L b hOn _ _=>?_
 simp only[↓ag,ah,simprocAttr,aK,H.d0,d1]
 have hN:(ticks %38#8).toNat<=37:=by
  rw[abC]
  have:=ac0 ticks.toNat (show 0<(38#8).toNat by decide)
  have e:(38#8).toNat=38:=rfl
  omega
 refine tick_do D1 hHi hOn hIm hN λR6 hBo=>?_
 clear hOn hIm hSc
 obtain⟨⟨B,S,Re,sl,hR,WW,hst,hpt⟩,jn,Bj⟩:=hBo
 have e8:(8<=B.ph)=False:=aaw (by omega)
 simp only[↓ag,ah,simprocAttr,aK,H.h0,h1]
 refine uW H1 jn hR.b ?_
 simp only[↓ag,ah,simprocAttr,aK,e8,H.a0,a1]
 refine mach_run A1 jn ?_
 have l7:=hR.m.ma
 have Rm:=λl=>ab l7 l
 have hsp:live R6 L.s=some ⟨du,[jU 0 S.cD S.pt L.f L.q]⟩:=by have:=hR.m.sp;rwa [hst]at this
 have cf:∀a,(gI a).fits DI=true:=λ_=>rfl
 simp only[↓ag,ah,simprocAttr,aK,l7,Rm,wN,H.co,UF,cf,H.s0,s1,mK,sx,DL]
 refine Y3 S1' hSt (ab hsp _) λdc RR hdc=>?_
 have Zb:=λX l=>ab (ab l7 X) l
 simp only[↓ag,ah,simprocAttr,aK,l7,Rm,Zb,wN,hdc,mK,sx,DL]
 have hass:R6++some (⟨S3,[dc]⟩:Row)::some ⟨S6,[G5 true (1#32) noI (0#32) ir]⟩::(RR++[some ⟨S1,[.agg S1 [.raw (u8 9#8),.raw (it 1),.raw (u32 x),.raw (.slice none 0 0)]]⟩])=(R6++some (⟨S3,[dc]⟩:Row)::some ⟨S6,[G5 true (1#32) noI (0#32) ir]⟩::RR)++[some ⟨S1,[.agg S1 [.raw (u8 9#8),.raw (it 1),.raw (u32 x),.raw (.slice none 0 0)]]⟩]:=by simp
 rw[hass]
 obtain⟨R7,hR7⟩:∃R7,R7=R6++some (⟨S3,[dc]⟩:Row)::some ⟨S6,[G5 true (1#32) noI (0#32) ir]⟩::RR:=⟨_,rfl⟩
 have hl7:R6.length+(RR.length+2)=R7.length:=by rw[hR7,aap];rfl
 have UZ:WL o L.f L.q po L b ir R7:=by rw[hR7];exact ab jn _
 have hpo7:live R7 po=some ⟨qI,[DO ir 0#32]⟩:=by rw[hR7];exact ab Bj _
 have hbt7:cO R7 b B:=by rw[hR7];exact ab hR.b _
 have hma7:live R7 L.M=some ⟨fq,[Bp L S.co S.pp]⟩:=by rw[hR7];exact ab l7 _
 have RQ:live R7 L.s=some ⟨du,[jU 0 S.cD (yF (List.replicate 64 0#8)) L.f L.q]⟩:=by rw[hR7,<-pt0_eq,<-hpt];exact ab hsp _
 have h167:live R7 (R6.length+1)=some ⟨S6,[G5 true (1#32) noI (0#32) ir]⟩:=by rw[hR7];exact bg R6 _ 1
 rw[<-hR7,hl7]
 have nos:o≠L.s:=bB UZ RQ (by intro h;cases h)
 have nbs:b≠L.s:=bB hbt7 RQ (by intro h;cases h)
 have ZM:po≠L.s:=bB hpo7 RQ (by intro h;cases h)
 have n16:R6.length+1≠L.s:=bB h167 RQ (by intro h;cases h)
 clear hR7 hass Rm Zb
 cases w
 ·simp only[↓ag,ah,simprocAttr,aK,H.d0,d1]
  refine ask_do D1 k0 k1 (.inl rfl) (ab UZ _) (ab RQ _) (λK' Li=>US K1 hAs (aaN ..) (ab (ab UZ _) _) (ab (ab hma7 _) _) (ab (ab RQ _) _) Li) λe r R8 he hf ZP=>?_
  have bt1:(true==true)=true:=rfl
  have bt2:(false==false)=true:=rfl
  have Ft:=ZP _ _ (ab UZ _) (by simpa using nos)
  have Fu:=ZP _ _ (ab hbt7 _) (by simpa using nbs)
  have U0:=ZP _ _ (ab hpo7 _) (by simpa using ZM)
  have OW:=ZP _ _ (ab h167 _) (by simpa using n16)
  have h16A:=λl=>ab OW l
  rcases RP x with⟨c1,c2,hi⟩|⟨c1,c2,hi⟩|⟨c1,c2,hi⟩
  ·obtain rfl:e=0:=he.2 hi
   simp only[↓ag,ah,simprocAttr,aK,hf,Wv,c1,c2,H.d0,d1]
   refine kx D1 k0 ⟨K1,k1,ZQ,K2,ZR⟩ (y:=12#8) (.inr rfl) (ab Ft _) (ab Fu _) WW λRA=>?_
   have yJ:=ab (ab Ft [some ⟨S7,[iu 0 r]⟩]) RA
   have Kh:=ab (ab Fu [some ⟨S7,[iu 0 r]⟩]) RA
   have Ki:=ab (ab U0 [some ⟨S7,[iu 0 r]⟩]) RA
   have Kj:=ab (ab OW [some ⟨S7,[iu 0 r]⟩]) RA
   have Kk:=ab (a9 R8 [some ⟨S7,[iu 0 r]⟩]) RA
   generalize (R8++[some ⟨S7,[iu 0 r]⟩])++RA=R9 at*
   simp only[↓ag,ah,simprocAttr,aK,Wv,H.d0,d1]
   refine kx D1 k0 ⟨K1,k1,ZQ,K2,ZR⟩ (y:=11#8) (.inl rfl) (ab yJ _) (ab Kh _) WW λRB=>?_
   have Kl:=ab (ab yJ [some ⟨S7,[jW 14]⟩]) RB
   have Km:=ab (ab Ki [some ⟨S7,[jW 14]⟩]) RB
   have Kn:=λl=>ab (ab (ab Kj [some ⟨S7,[jW 14]⟩]) RB) l
   have Ko:=λl=>ab (ab (ab Kk [some ⟨S7,[jW 14]⟩]) RB) l
   have Kp:=λl=>ab (ab (a9 R9 [some ⟨S7,[jW 14]⟩]) RB) l
   generalize (R9++[some ⟨S7,[jW 14]⟩])++RB=R0 at*
   simp only[↓ag,ah,simprocAttr,aK,Kn,Ko,Kp,MZ,bt1,bt2,H.o0,o1]
   refine vY O1 O2 hO.o0 o2 jt (ab Kl _) (ab Km _) (outs:=[]) (eC.to (.inl ⟨rfl,rfl⟩)) (by decide) ?_
   simp only[↓ag,ah,simprocAttr,aK]
  ·have e0:((e:Int)=0)=False:=aaw λh=>hi (he.1 (by omega))
   simp only[↓ag,ah,simprocAttr,aK,hf,Wv,c1,c2,H.d0,d1]
   refine kx D1 k0 ⟨K1,k1,ZQ,K2,ZR⟩ (y:=12#8) (.inr rfl) (ab Ft _) (ab Fu _) WW λRA=>?_
   have yJ:=ab (ab Ft [some ⟨S7,[iu e r]⟩]) RA
   have Kh:=ab (ab Fu [some ⟨S7,[iu e r]⟩]) RA
   have Ki:=ab (ab U0 [some ⟨S7,[iu e r]⟩]) RA
   have Kj:=ab (ab OW [some ⟨S7,[iu e r]⟩]) RA
   have Kk:=ab (a9 R8 [some ⟨S7,[iu e r]⟩]) RA
   generalize (R8++[some ⟨S7,[iu e r]⟩])++RA=R9 at*
   simp only[↓ag,ah,simprocAttr,aK,Wv,H.d0,d1]
   refine kx D1 k0 ⟨K1,k1,ZQ,K2,ZR⟩ (y:=11#8) (.inl rfl) (ab yJ _) (ab Kh _) WW λRB=>?_
   have Kl:=ab (ab yJ [some ⟨S7,[jW 14]⟩]) RB
   have Km:=ab (ab Ki [some ⟨S7,[jW 14]⟩]) RB
   have Kn:=λl=>ab (ab (ab Kj [some ⟨S7,[jW 14]⟩]) RB) l
   have Ko:=λl=>ab (ab (ab Kk [some ⟨S7,[jW 14]⟩]) RB) l
   have Kp:=λl=>ab (ab (a9 R9 [some ⟨S7,[jW 14]⟩]) RB) l
   generalize (R9++[some ⟨S7,[jW 14]⟩])++RB=R0 at*
   simp only[↓ag,ah,simprocAttr,aK,Kn,Ko,Kp,MZ,e0,bt1,bt2,H.o0,o1]
   refine vY O1 O2 hO.o0 o2 jt (ab Kl _) (ab Km _) (outs:=[]) (eC.to (.inl ⟨rfl,rfl⟩)) (by decide) ?_
   simp only[↓ag,ah,simprocAttr,aK]
  ·have e0:((e:Int)=0)=False:=aaw λh=>hi (he.1 (by omega))
   simp only[↓ag,ah,simprocAttr,aK,hf,Wv,c1,c2,H.d0,d1]
   refine kx D1 k0 ⟨K1,k1,ZQ,K2,ZR⟩ (y:=12#8) (.inr rfl) (ab Ft _) (ab Fu _) WW λRA=>?_
   have yJ:=ab (ab Ft [some ⟨S7,[iu e r]⟩]) RA
   have Kh:=ab (ab Fu [some ⟨S7,[iu e r]⟩]) RA
   have Ki:=ab (ab U0 [some ⟨S7,[iu e r]⟩]) RA
   have Kj:=ab (ab OW [some ⟨S7,[iu e r]⟩]) RA
   have Kk:=ab (a9 R8 [some ⟨S7,[iu e r]⟩]) RA
   generalize (R8++[some ⟨S7,[iu e r]⟩])++RA=R9 at*
   simp only[↓ag,ah,simprocAttr,aK,Wv,H.d0,d1]
   refine kx D1 k0 ⟨K1,k1,ZQ,K2,ZR⟩ (y:=11#8) (.inl rfl) (ab yJ _) (ab Kh _) WW λRB=>?_
   have Kl:=ab (ab yJ [some ⟨S7,[jW 14]⟩]) RB
   have Km:=ab (ab Ki [some ⟨S7,[jW 14]⟩]) RB
   have Kn:=λl=>ab (ab (ab Kj [some ⟨S7,[jW 14]⟩]) RB) l
   have Ko:=λl=>ab (ab (ab Kk [some ⟨S7,[jW 14]⟩]) RB) l
   have Kp:=λl=>ab (ab (a9 R9 [some ⟨S7,[jW 14]⟩]) RB) l
   generalize (R9++[some ⟨S7,[jW 14]⟩])++RB=R0 at*
   simp only[↓ag,ah,simprocAttr,aK,Kn,Ko,Kp,MZ,e0,bt1,bt2,H.o0,o1]
   refine vY O1 O2 hO.o0 o2 jt (ab Kl _) (ab Km _) (outs:=[]) (eC.to (.inl ⟨rfl,rfl⟩)) (by decide) ?_
   simp only[↓ag,ah,simprocAttr,aK]
 ·simp only[↓ag,ah,simprocAttr,aK,H.d0,d1]
  refine ask_do D1 k0 k1 (.inr rfl) (ab UZ _) (ab RQ _) (λK' Li=>RC K1 hAs (y:=1#8) (aaN ..) (ab (ab UZ _) _) (ab (ab hma7 _) _) (ab (ab RQ _) _) (ab (bg R7 _ 1) _) Li) λe r R8 he hf ZP=>?_
  have bt1:(true==true)=true:=rfl
  have bt2:(false==false)=true:=rfl
  have Ft:=ZP _ _ (ab UZ _) (by simpa using nos)
  have Fu:=ZP _ _ (ab hbt7 _) (by simpa using nbs)
  have U0:=ZP _ _ (ab hpo7 _) (by simpa using ZM)
  have OW:=ZP _ _ (ab h167 _) (by simpa using n16)
  have h16A:=λl=>ab OW l
  rcases RP x with⟨c1,c2,hi⟩|⟨c1,c2,hi⟩|⟨c1,c2,hi⟩
  ·obtain rfl:e=0:=he.2 hi
   simp only[↓ag,ah,simprocAttr,aK,hf,Wv,c1,c2,H.d0,d1]
   refine kx D1 k0 ⟨K1,k1,ZQ,K2,ZR⟩ (y:=12#8) (.inr rfl) (ab Ft _) (ab Fu _) WW λRA=>?_
   have yJ:=ab (ab Ft [some ⟨S7,[iu 0 r]⟩]) RA
   have Kh:=ab (ab Fu [some ⟨S7,[iu 0 r]⟩]) RA
   have Ki:=ab (ab U0 [some ⟨S7,[iu 0 r]⟩]) RA
   have Kj:=ab (ab OW [some ⟨S7,[iu 0 r]⟩]) RA
   have Kk:=ab (a9 R8 [some ⟨S7,[iu 0 r]⟩]) RA
   generalize (R8++[some ⟨S7,[iu 0 r]⟩])++RA=R9 at*
   simp only[↓ag,ah,simprocAttr,aK,Wv,H.d0,d1]
   refine kx D1 k0 ⟨K1,k1,ZQ,K2,ZR⟩ (y:=11#8) (.inl rfl) (ab yJ _) (ab Kh _) WW λRB=>?_
   have Kl:=ab (ab yJ [some ⟨S7,[jW 14]⟩]) RB
   have Km:=ab (ab Ki [some ⟨S7,[jW 14]⟩]) RB
   have Kn:=λl=>ab (ab (ab Kj [some ⟨S7,[jW 14]⟩]) RB) l
   have Ko:=λl=>ab (ab (ab Kk [some ⟨S7,[jW 14]⟩]) RB) l
   have Kp:=λl=>ab (ab (a9 R9 [some ⟨S7,[jW 14]⟩]) RB) l
   generalize (R9++[some ⟨S7,[jW 14]⟩])++RB=R0 at*
   simp only[↓ag,ah,simprocAttr,aK,Kn,Ko,Kp,MZ,bt1,bt2,H.o0,o1]
   refine vY O1 O2 hO.o0 o2 jt (ab Kl _) (ab Km _) (outs:=[]) (eC.to (.inl ⟨rfl,rfl⟩)) (by decide) ?_
   simp only[↓ag,ah,simprocAttr,aK]
  ·have e0:((e:Int)=0)=False:=aaw λh=>hi (he.1 (by omega))
   simp only[↓ag,ah,simprocAttr,aK,hf,Wv,c1,c2,H.d0,d1]
   refine kx D1 k0 ⟨K1,k1,ZQ,K2,ZR⟩ (y:=12#8) (.inr rfl) (ab Ft _) (ab Fu _) WW λRA=>?_
   have yJ:=ab (ab Ft [some ⟨S7,[iu e r]⟩]) RA
   have Kh:=ab (ab Fu [some ⟨S7,[iu e r]⟩]) RA
   have Ki:=ab (ab U0 [some ⟨S7,[iu e r]⟩]) RA
   have Kj:=ab (ab OW [some ⟨S7,[iu e r]⟩]) RA
   have Kk:=ab (a9 R8 [some ⟨S7,[iu e r]⟩]) RA
   generalize (R8++[some ⟨S7,[iu e r]⟩])++RA=R9 at*
   simp only[↓ag,ah,simprocAttr,aK,Wv,H.d0,d1]
   refine kx D1 k0 ⟨K1,k1,ZQ,K2,ZR⟩ (y:=11#8) (.inl rfl) (ab yJ _) (ab Kh _) WW λRB=>?_
   have Kl:=ab (ab yJ [some ⟨S7,[jW 14]⟩]) RB
   have Km:=ab (ab Ki [some ⟨S7,[jW 14]⟩]) RB
   have Kn:=λl=>ab (ab (ab Kj [some ⟨S7,[jW 14]⟩]) RB) l
   have Ko:=λl=>ab (ab (ab Kk [some ⟨S7,[jW 14]⟩]) RB) l
   have Kp:=λl=>ab (ab (a9 R9 [some ⟨S7,[jW 14]⟩]) RB) l
   generalize (R9++[some ⟨S7,[jW 14]⟩])++RB=R0 at*
   simp only[↓ag,ah,simprocAttr,aK,Kn,Ko,Kp,MZ,e0,bt1,bt2,H.o0,o1]
   refine vY O1 O2 hO.o0 o2 jt (ab Kl _) (ab Km _) (outs:=[]) (eC.to (.inl ⟨rfl,rfl⟩)) (by decide) ?_
   simp only[↓ag,ah,simprocAttr,aK]
  ·have e0:((e:Int)=0)=False:=aaw λh=>hi (he.1 (by omega))
   simp only[↓ag,ah,simprocAttr,aK,hf,Wv,c1,c2,H.d0,d1]
   refine kx D1 k0 ⟨K1,k1,ZQ,K2,ZR⟩ (y:=12#8) (.inr rfl) (ab Ft _) (ab Fu _) WW λRA=>?_
   have yJ:=ab (ab Ft [some ⟨S7,[iu e r]⟩]) RA
   have Kh:=ab (ab Fu [some ⟨S7,[iu e r]⟩]) RA
   have Ki:=ab (ab U0 [some ⟨S7,[iu e r]⟩]) RA
   have Kj:=ab (ab OW [some ⟨S7,[iu e r]⟩]) RA
   have Kk:=ab (a9 R8 [some ⟨S7,[iu e r]⟩]) RA
   generalize (R8++[some ⟨S7,[iu e r]⟩])++RA=R9 at*
   simp only[↓ag,ah,simprocAttr,aK,Wv,H.d0,d1]
   refine kx D1 k0 ⟨K1,k1,ZQ,K2,ZR⟩ (y:=11#8) (.inl rfl) (ab yJ _) (ab Kh _) WW λRB=>?_
   have Kl:=ab (ab yJ [some ⟨S7,[jW 14]⟩]) RB
   have Km:=ab (ab Ki [some ⟨S7,[jW 14]⟩]) RB
   have Kn:=λl=>ab (ab (ab Kj [some ⟨S7,[jW 14]⟩]) RB) l
   have Ko:=λl=>ab (ab (ab Kk [some ⟨S7,[jW 14]⟩]) RB) l
   have Kp:=λl=>ab (ab (a9 R9 [some ⟨S7,[jW 14]⟩]) RB) l
   generalize (R9++[some ⟨S7,[jW 14]⟩])++RB=R0 at*
   simp only[↓ag,ah,simprocAttr,aK,Kn,Ko,Kp,MZ,e0,bt1,bt2,H.o0,o1]
   refine vY O1 O2 hO.o0 o2 jt (ab Kl _) (ab Km _) (outs:=[]) (eC.to (.inl ⟨rfl,rfl⟩)) (by decide) ?_
   simp only[↓ag,ah,simprocAttr,aK]
end kj
end Go.Am
namespace Go.Am
namespace kj
open Go.Am.F
def DU(ks:List IntKind)(z:List Int):List Value:=List.zipWith Value.int ks z
def Hr{H:Type}(ks:List IntKind)(zs:List (List Int)):DataW H:= .agg (zs.map λz=> .agg (List.zipWith (λk x=> .lit (.int k x)) ks z))
def gY(ks:List IntKind)(zs:List (List Int)):List Value:=zs.flatMap (DU ks)
def sH:List IntKind->Sh
 |[]=> .nil
 |k::ks=> .cons (.leaf (.int k)) (sH ks)
def G7(ks:List IntKind)(z:List Int):D:= .agg (sH ks) ((DU ks z).map .raw)
theorem rec_len{ks:List IntKind}{zs:List (List Int)}(h:∀z∈zs,z.length=ks.length):(gY ks zs).length=zs.length*ks.length:=by
 induction zs with
 |nil=>simp[gY]
 |cons z zs ih=>
  have:=ih λx hx=>h x (.tail _ hx)
  simp only[gY,aed,aap,DU,List.length_zipWith,h z (.head _),Nat.min_self,aaP,acE]at this⊢
  omega
theorem WX{ks:List IntKind}:∀{zs:List (List Int)},(∀z∈zs,z.length=ks.length)->∀(i r:Nat),r<ks.length->(gY ks zs)[i*ks.length+r]?=(zs[i]?).bind λz=>(DU ks z)[r]?
 |[],_,i,r,_=>by simp[gY]
 |z::zs,h,0,r,hr=>by
  have hz:=h z (.head _)
  simp only[gY,aed,Nat.zero_mul,abk]
  rw[aaM (by simp[DU,hz,hr])];rfl
 |z::zs,h,i+1,r,hr=>by
  have hz:=h z (.head _)
  have ih:=WX (ks:=ks) (λx hx=>h x (.tail _ hx)) i r hr
  simp only[gY,aed]at ih⊢
  rw[aaO (by simp[DU,hz,acE];omega)]
  have:(i+1)*ks.length+r-(DU ks z).length=i*ks.length+r:=by simp[DU,hz,acE];omega
  rw[this,ih];rfl
structure RecT (P:Program) (t e:TypeId) (n:Nat) (fs:Array Field) (ks:List IntKind):Prop where
 ht:P.underlying t=some (.array n e)
 he:P.underlying e=some (.struct fs)
 fl:fs.toList.length=ks.length
 ff:∀r,r<ks.length->(fs.toList.getD r default).offset=r/\P.cellsOf (fs.toList.getD r default).type=1/\P.underlying (fs.toList.getD r default).type=some (.int (ks.getD r .i64))
 ce:P.cellsOf e=ks.length
 ct:P.cellsOf t=n*ks.length
theorem Zp{H:Type}{enc:TypeId×Value->H}{P:Program}{w:World}{base:Nat}{sp:Nat->Bool}{held:Bool}{fuel:Nat}{t e:TypeId}{n:Nat}{fs:Array Field}{ks:List IntKind}{cs:List Value}{zs:List (List Int)}{p:List MemPlace}(T:RecT P t e n fs ks)(hz:∀z∈zs,z.length=ks.length)
  (h:DataW.trod enc P w base sp held fuel t cs=some (Hr ks zs,p)):cs=gY ks zs:=by
 obtain⟨ht,he,qj,hff,hce,hct⟩:=T
 cases fuel with
 |zero=>simp[DataW.trod]at h
 | succ fuel =>
  simp only[DataW.trod,ht,hce,hct]at h
  split at h
  ·rename_i hl
   obtain⟨xs,hm,hx⟩:=adL.1 h
   have Sq:xs.map (·.1)=zs.map λz=>(DataW.agg (List.zipWith (λk x=> .lit (.int k x)) ks z):DataW H):=by
    have:=ach Prod.fst hx
    simpa[Hr]using this
   have FK:xs.length=n:=by simpa using Lib.mapM_length hm
   have hzl:zs.length=n:=by
    have:=ach List.length Sq
    simp at this
    omega
   have yx:=rec_len hz
   apply abX
   intro j
   by_cases hj:j<n*ks.length
   ·have h0:0<ks.length:=Nat.pos_of_ne_zero λh=>by rw[h]at hj;omega
    have hr:j %ks.length<ks.length:=ac0 _ h0
    have hi:j/ks.length<n:=acX (by rw[adg];exact hj)
    have hjj:j=j/ks.length*ks.length+j %ks.length:=by rw[adg];exact(Nat.div_add_mod j ks.length).symm
    generalize j/ks.length=i at*
    generalize j %ks.length=r at*
    subst hjj
    obtain⟨b,hb,hf⟩:=Lib.mapM_at hm i i (by simp[hi])
    have hg:=ach (·[i]?) Sq
    simp only[abl,hb,acu]at hg
    obtain⟨z,hzi⟩:∃z,zs[i]?=some z:=⟨zs[i]'(by omega),aao (by omega)⟩
    rw[hzi,acu,abY]at hg
    rw[WX hz i r hr,hzi]
    have fK:cs[i*ks.length+r]?=((cs.drop (i*ks.length)).take ks.length)[r]?:=by
     rw[abn hr,aa5]
    rw[fK]
    generalize (cs.drop (i*ks.length)).take ks.length=c at*
    cases fuel with
    |zero=>simp[DataW.trod]at hf
    | succ fuel =>
     simp only[DataW.trod,he,hce]at hf
     split at hf
     ·obtain⟨ys,hmy,hy⟩:=adL.1 hf
      obtain⟨f,qJ⟩:∃f,fs.toList[r]?=some f:=⟨_,aao (by omega)⟩
      obtain⟨g1,g2,g4⟩:=hff r hr
      obtain⟨k,g3⟩:∃k,ks[r]?=some k:=⟨_,aao hr⟩
      rw[aay,qJ]at g1 g2 g4
      rw[aay,g3]at g4
      simp only[adt]at g1 g2 g4
      obtain⟨y,hyr,H9⟩:=Lib.mapM_at hmy r f qJ
      rw[g1,g2]at H9
      obtain⟨x,q1,q2,_⟩:=DataW.trod_int g4 H9
      rw[<-hy]at hg
      have RV:=ach (λd:DataW H=>match d with| .agg l=>l[r]?| _=>none) hg
      simp only[abl,hyr,acu,adl,g3]at RV
      have a0:c[r]?=some (.int k x):=by have:=ach (·[0]?) q1;simpa[abi,aa5]using this
      obtain⟨u,hu⟩:∃u,z[r]?=some u:=⟨_,aao (by rw[hz z (aaG hzi)];exact hr)⟩
      rw[hu,q2]at RV
      simp only[abY,DataW.lit.injEq,Lit.int.injEq,abf]at RV
      rw[a0,RV]
      simp[DU,adl,g3,hu]
     ·cases hf
   ·subst hzl
    rw[abv (by omega),abv (by omega)]
  ·cases h
theorem RS{P:Program}{W:World}{name:String}{g:Nat}{t e:TypeId}{n:Nat}{fs:Array Field}{ks:List IntKind}{zs:List (List Int)}(T:RecT P t e n fs ks)(hz:∀z∈zs,z.length=ks.length)(hg:P.globalNamed name=some g)(hty:(P.globals[g]?).map (·.type)=some t):
  ∀{l:List (String×DataW Unit)} {ps:List MemPlace},DataW.LaidVars P W l ps->(name,Hr ks zs)∈l->W.var? P name=some (gY ks zs).toArray
 |[],ps,_,hm=>by cases hm
 | (n', d') :: r, ps, h, hm => by
  obtain⟨g',t',cs,fuel,p,q,hg',AO,hvar,hd,hr,_⟩:=h
  rcases aaI.1 hm with hm|hm
  ·cases hm
   obtain rfl:=abd (hg.symm.trans hg')
   obtain rfl:=abd (hty.symm.trans AO)
   rw[hvar,<-Zp T hz hd]
  ·exact RS T hz hg hty hr hm
theorem WY{W:World}{T:Nat->Prop}:∀{ks:List IntKind} {z:List Int},aW (LR fB W T) ((DU ks z).map .raw) (DU ks z)
 |[],_=> .nil
 | _::_,[]=> .nil
 |k::ks,x::z=> .cons (.raw _ rfl) (WY (ks:=ks) (z:=z))
theorem RT{W:World}{T:Nat->Prop}{ks:List IntKind}:∀zs:List (List Int),aW (LR fB W T) (ak (zs.map (G7 ks))) (gY ks zs)
 |[]=> .nil
 | z :: zs => by
  have hf:∀l:List Value,ak (l.map D.raw)=l.map D.raw:=λl=>by
   induction l with
   |nil=>rfl
   |cons x l ih=>simp[ak,D.flat,ih]
  have e:ak ((z::zs).map (G7 ks))=(DU ks z).map .raw++ak (zs.map (G7 ks)):=by simp[ak,D.flat,G7,hf]
  rw[e]
  exact WY.append (RT zs)
theorem RU:∀ks:List IntKind,(sH ks).isAgg=true/\(sH ks).count=ks.length/\∀i,(sH ks).sub i=(ks[i]?).map λk=>Sh.leaf (.int k)
 |[]=>⟨rfl,rfl,λi=>by cases i<;>rfl⟩
 |k::ks=>by
  obtain⟨h1,h2,h3⟩:=RU ks
  refine⟨h1,by simp only[sH,Sh.count,h2,aaP],λi=>?_⟩
  cases i with
  |zero=>rfl
  |succ i=>exact h3 i
theorem recD_has{ks:List IntKind}{z:List Int}(h:z.length=ks.length):aL (sH ks) (G7 ks z):=by
 obtain⟨h1,h2,h3⟩:=RU ks
 refine .agg _ _ h1 (by simp[DU,h,h2]) λi e d he hd=>?_
 rw[h3]at he
 obtain⟨k,hk,rfl⟩:=adL.1 he
 simp only[DU,abl,adl,hk]at hd
 cases hz:z[i]? with
 |none=>rw[hz]at hd;cases hd
 |some x=>rw[hz]at hd;cases hd;exact .leaf _ _ (by simp[oD])
theorem M0{P:Program}{W:World}{name:String}{g:Nat}{t e:TypeId}{n:Nat}{fs:Array Field}{ks:List IntKind}{zs:List (List Int)}{l:List (String×DataW Unit)}(h:laidMet P l W)(hm:(name,Hr ks zs)∈l)(T:RecT P t e n fs ks)(hz:∀z∈zs,z.length=ks.length)(hg:P.globalNamed name=some g)(hty:(P.globals[g]?).map (·.type)=some t)(h0:0<(gY ks zs).length):
  LR fB W (old W) (.cb (.agg (.ar zs.length (sH ks)) (zs.map (G7 ks)))) (.pointer (some ⟨g,0,none⟩)):=by
 obtain⟨ps,hv,_⟩:=h
 have hT:=RS T hz hg hty hv hm
 have hcell:=λj=>World.var?_cell hg hT j
 refine LR.AE (cs:=gY ks zs) (s:= .ar zs.length (sH ks)) (.agg _ _ rfl (by simp[Sh.count]) λi e d h1 h2=>?_) ?_ (RT zs) λj x hx=>by rw[abk,hcell j];simpa using hx
 ·simp only[Sh.sub]at h1
  split at h1
  ·cases h1
   obtain⟨z,hm,rfl⟩:=acL.1 (bQ h2)
   exact recD_has (hz z hm)
  ·cases h1
 ·have EZ:=hcell 0
  show g<W.heap.size
  rw[World.cell?]at EZ
  split at EZ
  ·rename_i h1;exact(aaR.1 h1).1
  ·have:(gY ks zs)[0]?=none:=by simpa using EZ.symm
   rw[List.getElem?_eq_none_iff]at this
   omega
end kj
end Go.Am
namespace Go.Am
namespace kj
open Go.Am.F
open Ms
set_option maxRecDepth 100000
def vZ:List (List Int):=[[1,265,7],[2,133,6],[4,67,4],[8,34,0]]
def v5:List (List Int):=[[0,0],[536870912,4096],[536875008,4096],[268435456,10240],[1073741824,64],[1610612736,256]]
def Kq:List Int:=NX.map λx=>(x.toNat:Int)
def DV:List Int:=tq.map λx=>(x.toNat:Int)
def tzZ:List Int:=tzL.map λx=>(x.toNat:Int)
def G0:Nat->Option D:=λg=>if g=0 then some EW else if g=3 then some (X0 NX)else if g=4 then some (X1 tq)else if g=5 then some tzD else if g=2 then some JF else none
noncomputable def T0:List (Nat×Fn):=[(43,OU),(115,VB),(27,OT),(73,OS),(170,fSzC),(107,Rh),(106,Gk),(105,DM),(235,Hp),(234,OC),(252,Ho),(236,Dl),(11,Fl),(257,YM),(277,Q6),(278,Wj),(276,Ot),(275,Wi),(289,Wg),(225,Wt),(254,JU),(195,JT),(223,DH),(253,Ox),(166,Wb),(214,Wa),(250,V9),(270,V8),(168,Hk),(165,JH),(164,Hj),(207,Bg),(149,Fj),(204,Hn),(202,vP),(201,Dm),(238,Dl),(203,Fi),(152,Av),(57,vR),(189,tx),(224,Wu),(205,UE),(159,VT),(213,fOct),(25,Dq),(116,Oc),(176,fCtr),(218,fTz),(21,Jj),(64,VU),(66,Mt),(63,Mq),(128,fOn),(188,VP),(65,Dn),(72,TW),(114,oX),(279,Fg),(290,fNum),(246,fPre),(239,Jh),(62,Ow),(61,vU),(126,Ff),(60,fOf),(125,EU),(127,ES),(29,Dg),(59,XY),(269,Of),(286,Jk),(249,Jo),(284,Og),(268,Jn),(22,uR),(77,Oi),(136,VW),(137,V0),(75,zh),(131,QI),(76,Mn),(74,VZ),(54,QN),(53,QM),(122,QL),(67,Au),(51,He),(121,QF),(118,EY),(120,Dj),(184,QE),(135,vO),(192,Di),(193,fPad),(132,TO),(133,EX),(190,Au),(134,tu),(191,NY),(231,Hb),(232,X2),(240,VE),(185,Qz),(119,Yf),(52,Js),(50,tw),(49,nS),(48,zj)]
noncomputable def C0:aU:=⟨G0,mz T0,λ_=>none,λ_=>none⟩
theorem G0_none(g:Nat)(h:¬g=0)(h0:¬g=3)(h1:¬g=4)(h2:¬g=5)(h3:¬g=2):G0 g=none:=by
 unfold G0
 rw[aaC h,aaC h0,aaC h1,aaC h2,aaC h3]
theorem m_Sel1(C:aU)(hC:aI C P):aQ C.aZ P 251 (aB C 2 iY iX):=PT hC Go.Proofs.Tryz.func251 (by kernel_rfl) (by kernel_rfl) (abE (by kernel_rfl))
theorem Kr{P:Program}{G:Nat->Option D}{f:FuncId}{A:lQ}(h:aQ GF P f A):aQ G P f A:=λds rows K hA ρ w T args h1 h2 h3 h4 _=>h ds rows K hA ρ w T args h1 h2 h3 h4 (λg d hg=>by cases hg)
theorem mc:aI C0 P:=by
 have c0:=Vs (G:=G0) (P:=P)
 have c1:=az (Yt _ c0) c0
 have c2:=az (Yb _ c1 rfl) c1
 have c3:=az (Yy _ c2) c2
 have c4:=az (site_ok _ c3) c3
 have c5:=az (end_ok _ c4) c4
 have c6:=az (new_ok _ c5 rfl) c5
 have c7:=az (word_ok _ c6) c6
 have c8:=az (rot_ok _ c7) c7
 have c9:=az (X4 _ c8 rfl rfl) c8
 have c10:=az (press_ok _ c9 rfl rfl rfl) c9
 have c11:=az (TG _ c10 rfl) c10
 have c12:=az (four_ok _ c11) c11
 have c13:=az (front_ok _ c12 rfl rfl rfl) c12
 have c14:=az (two_ok _ c13) c13
 have c15:=az (pad_ok _ c14) c14
 have c16:=az (X7 _ c15) c15
 have c17:=az (stsum_ok _ c16 rfl rfl rfl) c16
 have c18:=az (step_ok _ c17 rfl rfl rfl rfl) c17
 have c19:=az (Ye _ c18 rfl) c18
 have c20:=az (chain_ok _ c19 rfl) c19
 have c21:=az (fold_ok _ c20 rfl rfl rfl rfl) c20
 have c22:=az (Yj _ c21 rfl rfl rfl rfl rfl) c21
 have c23:=az (lfour_ok _ c22) c22
 have c24:=az (hash_ok _ c23 rfl rfl rfl rfl) c23
 have c25:=az (leaf_ok _ c24 rfl) c24
 have c26:=az (node_ok _ c25 rfl) c25
 have c27:=az (left_ok _ c26 rfl) c26
 have c28:=az (mash_ok _ c27 rfl rfl rfl rfl) c27
 have c29:=az (coef_ok _ c28) c28
 have c30:=az (Yh _ c29 rfl rfl rfl rfl) c29
 have c31:=az (path_ok _ c30 rfl) c30
 have c32:=az (sign_ok _ c31 rfl rfl rfl rfl rfl rfl) c31
 have c33:=az (force_ok _ c32 rfl rfl rfl rfl rfl) c32
 have c34:=az (T5 _ c33 rfl) c33
 have c35:=az (lnum_ok _ c34) c34
 have c36:=az (nonep_ok _ c35) c35
 have c37:=az (readK_ok _ c36 rfl rfl rfl) c36
 have c38:=az (split_ok _ c37 rfl) c37
 have c39:=az (claim_ok _ c38 rfl rfl rfl rfl rfl rfl rfl) c38
 have c40:=az (cut_ok _ c39) c39
 have c41:=az (join_ok _ c40) c40
 have c42:=az (bjoin_ok _ c41) c41
 have c43:=az (sum_ok _ c42 rfl rfl rfl rfl) c42
 have c44:=az (of_ok _ c43 rfl) c43
 have c45:=az (right_ok _ c44) c44
 have c46:=az (body_ok _ c45 rfl) c45
 have c47:=az (image_ok _ c46 rfl rfl) c46
 have c48:=az (equal_ok _ c47) c47
 have c49:=az (pre_ok _ c48 rfl) c48
 have c50:=az (num_ok _ c49) c49
 have c51:=az (parse_ok _ c50 rfl rfl rfl) c50
 have c52:=az (QA _ c51) c51
 have c53:=az (wds_ok _ c52) c52
 have c54:=az (allc_ok _ c53 rfl) c53
 have c55:=az (ones_ok _ c54) c54
 have c56:=az (on_ok _ c55 rfl) c55
 have c57:=az (life_ok _ c56 rfl rfl) c56
 have c58:=az (plan_ok _ c57 rfl) c57
 have c59:=az (numb_ok _ c58) c58
 have c60:=az (tokey_ok _ c59 rfl rfl rfl rfl) c59
 have c61:=az (tz_ok _ c60 rfl) c60
 have c62:=az (ctr_ok _ c61 rfl rfl) c61
 have c63:=az (toctr_ok _ c62 rfl rfl) c62
 have c64:=az (Yp _ c63 rfl rfl) c63
 have c65:=az (oct_ok _ c64) c64
 have c66:=az (keyc_ok _ c65 rfl rfl) c65
 have c67:=az (ato_ok _ c66) c66
 have c68:=az (rowc_ok _ c67 rfl rfl rfl rfl) c67
 have c69:=az (YA _ c68) c68
 have c70:=az (Mz _ c69) c69
 have c71:=az (read_ok _ c70 rfl rfl) c70
 have c72:=az (first_ok _ c71) c71
 have c73:=az (slot_ok _ c72) c72
 have c74:=az (Yk _ c73 rfl) c73
 have c75:=az (Yl _ c74 rfl rfl) c74
 have c76:=az (YO _ c75 rfl rfl) c75
 have c77:=az (readj_ok _ c76 rfl rfl rfl) c76
 have c78:=az (base_ok _ c77 rfl) c77
 have c79:=az (YF _ c78) c78
 have c80:=az (where_ok _ c79 rfl) c79
 have c81:=az (YG _ c80) c80
 have c82:=az (idxb_ok _ c81) c81
 have c83:=az (idxs_ok _ c82 rfl) c82
 have c84:=az (idx1_ok _ c83 rfl) c83
 have c85:=az (hasw_ok _ c84 rfl) c84
 have c86:=az (there_ok _ c85) c85
 have c87:=az (YU _ c86 rfl rfl) c86
 have c88:=az (msnew_ok _ c87) c87
 have c89:=az (mtext_ok _ c88) c88
 have c90:=az (mdig_ok _ c89 rfl rfl) c89
 have c91:=az (mpad_ok _ c90) c90
 have c92:=az (mnew_ok _ c91 rfl rfl rfl rfl) c91
 have c93:=az (mfeed_ok _ c92 rfl) c92
 have c94:=az (msum_ok _ c93 rfl rfl) c93
 have c95:=az (mnum_ok _ c94) c94
 have c96:=az (der_ok _ c95 rfl rfl rfl rfl) c95
 have c97:=az (coren_ok _ c96) c96
 have c98:=az (cslot_ok _ c97) c97
 have c99:=az (YR _ c98) c98
 have c100:=az (bytes_ok _ c99) c99
 have c101:=az (Y6 _ c100) c100
 have c102:=az (with_ok _ c101) c101
 have c103:=az (next_ok3 _ c102) c102
 have c104:=az (jump_ok _ c103 rfl) c103
 have c105:=az (size_ok3 _ c104) c104
 have c106:=az (kindc_ok _ c105) c105
 have c107:=az (tbody_ok _ c106 rfl) c106
 have c108:=az (num_sl _ c107) c107
 exact az (wordp_ok _ c108 rfl) c108
noncomputable def RA:List (Nat×lQ):=[(16,aB C0 4 qQ qP),(28,aB C0 3 gf fZ),(285,aB C0 2 lK lJ),(215,aB C0 0 nO nL),(251,aB C0 2 iY iX),(260,aB C0 1 iB iA),(274,aB C0 2 cS cR),(194,aB C0 0 rS rQ),(138,aB C0 2 iQ iP),(70,aB C0 0 oS oR),(46,aB C0 0 oQ oP),(220,aB C0 3 jH jG),(56,aB C0 1 gA gz),(129,aB C0 4 jA jz),(259,aB C0 2 gq gk),(154,aB C0 2 eG eF),(229,aB C0 1 iW iV),(97,aB C0 1 vK vJ),(100,aB C0 3 nc m9),(99,aB C0 0 s9 lI),(169,aB C0 2 ng nf),(174,aB C0 1 uG uF),(198,aB C0 2 jC jB),(78,aB C0 1 iM iL),(199,aB C0 4 iS iR),(42,aB C0 1 ix iw),(9,aB C0 1 eh ee),(162,aB C0 4 gV gU),(10,aB C0 1 iI iH),(23,aB C0 0 oO oN),(14,aB C0 1 jZ jY),(38,aB C0 3 lX lW),(17,aB CF 1 lH lG),(19,aB CF 3 dO dN),(69,aB CF 1 fE fD)]
noncomputable def CA:aU:=⟨G0,mz T0,ou RA,λ_=>none⟩
theorem ctxA:aI CA P:=by
 have z:aI ⟨G0,mz T0,ou [],λ_=>none⟩ P:=⟨mc.1,(ctx_nilr (G:=G0) (P:=P)).2.1,mc.2.2⟩
 replace z:=aC (Kr (AS CF ctxF)) z
 replace z:=aC (Kr (zz CF ctxF)) z
 replace z:=aC (Kr (P7 CF ctxF)) z
 replace z:=aC (Eu C0 mc) z
 replace z:=aC (Gz C0 mc) z
 replace z:=aC (Te C0 mc) z
 replace z:=aC (BX C0 mc) z
 replace z:=aC (IM C0 mc) z
 replace z:=aC (Gy C0 mc) z
 replace z:=aC (GC C0 mc) z
 replace z:=aC (Cx C0 mc) z
 replace z:=aC (Ci C0 mc) z
 replace z:=aC (EE C0 mc) z
 replace z:=aC (XR C0 mc) z
 replace z:=aC (Qi C0 mc) z
 replace z:=aC (Qb C0 mc) z
 replace z:=aC (XK C0 mc) z
 replace z:=aC (Tn C0 mc) z
 replace z:=aC (CU C0 mc) z
 replace z:=aC (zD C0 mc) z
 replace z:=aC (Df C0 mc) z
 replace z:=aC (EC C0 mc) z
 replace z:=aC (Ti C0 mc) z
 replace z:=aC (IV C0 mc) z
 replace z:=aC (Tf C0 mc) z
 replace z:=aC (Tl C0 mc) z
 replace z:=aC (Cr C0 mc) z
 replace z:=aC (Tu C0 mc) z
 replace z:=aC (tM C0 mc) z
 replace z:=aC (GS C0 mc) z
 replace z:=aC (m_Sel1 C0 mc) z
 replace z:=aC (IU C0 mc) z
 replace z:=aC (Tz C0 mc) z
 replace z:=aC (B0 C0 mc) z
 exact aC (XG C0 mc) z
noncomputable def T1:List (Nat×Fn):=(221,YS)::(96,tC)::(167,fMay)::(212,Ds)::(248,VY)::(267,Jq)::T0
noncomputable def CB:aU:=⟨G0,mz T1,ou RA,λ_=>none⟩
theorem sI:aI CB P:=by
 have c1:=az (parts_ok CA C0 ctxA rfl rfl rfl rfl rfl rfl) ctxA
 have c2:=az (root_ok _ c1 rfl rfl rfl rfl rfl rfl) c1
 have c3:=az (Yx _ c2 rfl rfl) c2
 have c4:=az (may_ok _ C0 c3 rfl rfl) c3
 have c5:=az (YH _ c4 rfl rfl rfl rfl rfl) c4
 exact az (sel_ok _ C0 c5 rfl rfl rfl rfl) c5
noncomputable def RB:List (Nat×lQ):=(237,aB CB 3 jL jK)::(68,aB CB 3 fQ fP)::(18,aB CB 0 oM oL)::(255,aB CB 2 fG fF)::(222,aB CB 2 gM gL)::(219,aB CB 2 jF jE)::(151,aB CB 5 cY cW)::(139,aB CB 0 nJ nI)::(230,aB CB 1 j9 j8)::(45,aB CB 4 pI pH)::(130,aB CB 1 oU oT)::(5,aB CB 1 oK oJ)::(20,aB CB 3 iK iJ)::(7,aB CB 3 iG iF)::(113,aB CB 3 xU xT)::(98,aB CB 1 yZ yY)::(101,aB CB 1 y8 y7)::(104,aB CB 1 zc zb)::(103,aB CB 1 za y9)::(144,aB CB 1 iz iy)::(39,aB CB 2 dB dA)::(13,aB CB 1 kz ky)::RA
noncomputable def T2:List (Nat×Fn):=(40,fDec)::(200,Ra)::T1
noncomputable def CC:aU:=⟨G0,mz T2,ou RB,λ_=>none⟩
theorem Fv:aI CC P:=by
 have z:=sI
 replace z:=aC (KL CB sI) z
 replace z:=aC (xJ CB sI) z
 replace z:=aC (GL CB sI) z
 replace z:=aC (XM CB sI) z
 replace z:=aC (XN CB sI) z
 replace z:=aC (XL CB sI) z
 replace z:=aC (XJ CB sI) z
 replace z:=aC (m_rv_Alu CB sI) z
 replace z:=aC (BW CB sI) z
 replace z:=aC (BY CB sI) z
 replace z:=aC (Tc CB sI) z
 replace z:=aC (XP CB sI) z
 replace z:=aC (P9 CB sI) z
 replace z:=aC (GQ CB sI) z
 replace z:=aC (NG CB sI) z
 replace z:=aC (wR CB sI) z
 replace z:=aC (EF CB sI) z
 replace z:=aC (EG CB sI) z
 replace z:=aC (EJ CB sI) z
 replace z:=aC (XH CB sI) z
 replace z:=aC (xR CB sI) z
 replace z:=aC (EI CB sI) z
 replace z:=az (look_ok _ CB C0 z rfl rfl rfl rfl rfl rfl rfl rfl rfl rfl) z
 exact az (dec_ok _ z ⟨rfl,⟨_,rfl⟩,rfl,⟨_,rfl,rfl,_,rfl⟩,rfl,⟨_,rfl⟩,rfl,⟨_,rfl,λrows K hk=>Un C0 hk⟩,rfl,⟨_,_,_,rfl,rfl,rfl,rfl,rfl⟩,rfl,⟨_,_,rfl,rfl,rfl⟩,rfl,⟨_,_,_,rfl,rfl,rfl,rfl,rfl⟩⟩) z
noncomputable def RD:List (Nat×lQ):=(256,aB CC 2 gO gN)::(258,aB CC 2 ja iZ)::(226,aB CC 4 jJ jI)::(93,aB CC 4 ca b9)::(92,aB CC 4 eE eD)::(24,aB CC 2 kY kU)::(79,aB CC 2 gj gh)::(179,aB CC 2 fm fj)::(180,aB CC 2 cQ cP)::(181,aB CC 2 eV eU)::(182,aB CC 2 eJ eI)::(71,aB CC 1 uv uu)::RB
noncomputable def CD:aU:=⟨G0,mz T2,ou RD,λ_=>none⟩
theorem OX:aI CD P:=by
 have z:=Fv
 replace z:=aC (m_otp_Of CC Fv) z
 replace z:=aC (zE CC Fv) z
 replace z:=aC (A4 CC Fv) z
 replace z:=aC (A3 CC Fv) z
 replace z:=aC (Ct CC Fv) z
 replace z:=aC (Cj CC Fv) z
 replace z:=aC (KM CC Fv) z
 replace z:=aC (zC CC Fv) z
 replace z:=aC (xS CC Fv) z
 replace z:=aC (EH CC Fv) z
 replace z:=aC (De CC Fv) z
 exact aC (EK CC Fv) z
noncomputable def RE:List (Nat×lQ):=(178,aB CD 2 eT cg)::(227,aB CD 5 gD gC)::(228,aB CD 2 iU iT)::(44,aB CD 4 um uk)::(110,aB CD 3 iO iN)::(26,aB CD 2 xI xH)::(30,aB CD 1 jS jR)::(37,aB CD 2 df cZ)::RD
noncomputable def CE:aU:=⟨G0,mz T2,ou RE,λ_=>none⟩
theorem ctxE:aI CE P:=by
 have z:=OX
 replace z:=aC (GB CD OX) z
 replace z:=aC (Nx CD OX) z
 replace z:=aC (m_soc_Of CD OX) z
 replace z:=aC (Ck CD OX) z
 replace z:=aC (XI CD OX) z
 replace z:=aC (CS CD OX) z
 replace z:=aC (zF CD OX) z
 exact aC (A0 CD OX) z
noncomputable def RG:List (Nat×lQ):=(183,aB CE 2 eW br)::(41,aB CE 4 fO fN)::(6,aB CE 4 gK gJ)::RE
noncomputable def CG:aU:=⟨G0,mz T2,ou RG,λ_=>none⟩
theorem ctxG:aI CG P:=by
 have z:=ctxE
 replace z:=aC (Ep CE ctxE) z
 replace z:=aC (Ip CE ctxE) z
 exact aC (A5 CE ctxE) z
noncomputable def RH:List (Nat×lQ):=(117,aB CG 2 cz cx)::(12,aB CG 3 dM dL)::RG
noncomputable def CH:aU:=⟨G0,mz T2,ou RH,λ_=>none⟩
theorem ctxH:aI CH P:=by
 have z:=ctxG
 replace z:=aC (Er CG ctxG) z
 exact aC (EB CG ctxG) z
noncomputable def RI:List (Nat×lQ):=(47,aB CH 3 j7 cC)::(143,aB CH 1 fU fT)::RH
noncomputable def CI:aU:=⟨G0,mz T2,ou RI,λ_=>none⟩
theorem ctxI:aI CI P:=by
 have z:=ctxH
 replace z:=aC (IJ CH ctxH) z
 exact aC (GD CH ctxH) z
noncomputable def RJ:List (Nat×lQ):=(15,aB CI 0 pG pF)::(82,aB CI 1 fS fR)::RI
noncomputable def CJ:aU:=⟨G0,mz T2,ou RJ,λ_=>none⟩
theorem ctxJ:aI CJ P:=by
 have z:=ctxI
 replace z:=aC (IB CI ctxI) z
 exact aC (P6 CI ctxI) z
noncomputable def RK:List (Nat×lQ):=(32,aB CJ 2 j6 cB)::RJ
noncomputable def CK:aU:=⟨G0,mz T2,ou RK,λ_=>none⟩
theorem ctxK:aI CK P:=by
 have z:=ctxJ
 exact aC (GA CJ ctxJ) z
noncomputable def RL:List (Nat×lQ):=(8,aB CK 2 dG dF)::RK
noncomputable def CL:aU:=⟨G0,mz T2,ou RL,λ_=>none⟩
theorem ctxL:aI CL P:=by
 have z:=ctxK
 exact aC (Nv CK ctxK) z
noncomputable def RM:List (Nat×lQ):=(4,aB CL 0 pE pD)::RL
noncomputable def CM:aU:=⟨G0,mz T2,ou RM,λ_=>none⟩
theorem ctxM:aI CM P:=by
 have z:=ctxL
 exact aC (P5 CL ctxL) z
theorem lmC:LmC C0:=⟨rfl,rfl,rfl,rfl,rfl,rfl,rfl⟩
theorem lmS:LmS C0:=⟨rfl,rfl,rfl,rfl,rfl⟩
theorem haB:HaC CC:=⟨rfl,_,rfl,⟨rfl,_,rfl⟩⟩
theorem cpB:CpC CB:=⟨⟨rfl,_,rfl⟩,rfl⟩
theorem slC:SlC CB CC:=⟨rfl,rfl,rfl,_,rfl⟩
theorem imC:ImC CB:=⟨rfl,rfl,rfl,rfl,rfl,⟨_,rfl,lmS⟩,rfl⟩
theorem prC:PrgC C0 CB CC:=⟨rfl,rfl,rfl,rfl,rfl⟩
theorem nmC:NmC CC:=⟨rfl,⟨_,rfl⟩,rfl,⟨_,rfl,⟨rfl,⟨_,rfl⟩,rfl⟩⟩,rfl,⟨_,rfl⟩,rfl⟩
theorem wiB:WiC CB:=⟨rfl,rfl⟩
theorem stC:StC CB CC:=⟨wiB,rfl,rfl,rfl,⟨_,rfl⟩⟩
theorem ldC:LdC CC:=⟨rfl,⟨_,rfl,wiB⟩,rfl,⟨_,rfl⟩,rfl⟩
theorem cdC:CdC CD:=⟨⟨rfl,_,rfl⟩,rfl,rfl,rfl,⟨_,_,rfl,stC⟩⟩
theorem staC:StaC CC:=⟨⟨rfl,_,rfl⟩,haB,rfl,rfl,rfl,rfl,rfl⟩
theorem lkC:LkC CC:=⟨⟨rfl,_,rfl⟩,rfl⟩
theorem choC:ChoC CC:=⟨rfl,rfl,rfl,⟨_,rfl,cpB⟩⟩
theorem ckC:CkC CC:=⟨⟨rfl,_,rfl⟩,haB,rfl⟩
theorem locE:LocC CE:=⟨⟨rfl,_,rfl⟩,rfl,⟨_,rfl⟩,rfl,⟨_,C0,rfl,rfl,rfl,rfl⟩,rfl,rfl⟩
theorem lobE:LobC CE:=⟨rfl,rfl,rfl,⟨_,_,rfl,slC⟩,rfl,⟨_,CC,CB,rfl,⟨⟨rfl,rfl,rfl,_,rfl⟩,rfl,rfl,⟨_,slC⟩,rfl⟩⟩,rfl,⟨_,CC,CB,rfl,⟨rfl,rfl,slC⟩⟩⟩
theorem tkG:Sj CG:=⟨rfl,⟨_,rfl,cdC⟩,rfl,⟨_,rfl,staC⟩,rfl,⟨_,rfl,lkC⟩,rfl,⟨_,rfl,choC⟩,rfl,⟨_,rfl,ckC⟩,rfl,⟨_,rfl,⟨rfl,rfl,lobE,locE⟩⟩⟩
theorem rnH:RnC CH CG:=⟨rfl,rfl,tkG⟩
theorem layC:LayC CD:=⟨rfl,rfl,rfl,⟨_,_,rfl,rfl,rfl⟩,rfl,rfl,rfl,rfl,rfl,rfl,rfl,⟨_,_,_,rfl,prC⟩,rfl,⟨_,rfl,nmC⟩⟩
theorem wkI:WkC CI:=⟨rfl,⟨_,rfl,lmC⟩,rfl,rfl,⟨_,rfl,imC⟩,rfl,⟨_,rfl,layC⟩,rfl,⟨_,rfl⟩,rfl,⟨_,_,rfl,rnH⟩⟩
theorem maB:WT CB:=⟨rfl,⟨_,rfl,lmC⟩⟩
theorem pgC0:ProgC C0:=⟨rfl,rfl⟩
theorem sfD:SofC CD:=⟨rfl,rfl,rfl,⟨_,_,rfl,rfl,rfl⟩,rfl,⟨_,rfl⟩,rfl,rfl,⟨_,_,_,rfl,rfl,rfl,rfl,rfl⟩⟩
theorem laE:WU CE:=⟨rfl,rfl,rfl,⟨_,_,rfl,rfl,rfl⟩,rfl,⟨_,rfl,imC⟩,rfl,rfl,rfl,rfl,⟨_,rfl⟩,rfl,rfl,rfl,⟨_,_,_,rfl,prC⟩,rfl,⟨_,rfl,sfD⟩⟩
theorem toB:TokC CB:=⟨rfl,⟨_,rfl⟩,rfl,rfl,⟨_,rfl,lmS⟩,rfl⟩
theorem onD:OnC CD:=⟨rfl,rfl,⟨_,_,_,rfl,rfl,rfl,rfl,rfl⟩,rfl,⟨_,rfl⟩,rfl,⟨_,rfl,nmC⟩,rfl,⟨_,rfl⟩⟩
theorem asD:AskC CD:=⟨rfl,⟨_,rfl,ldC⟩,rfl,⟨_,_,rfl,stC⟩⟩
theorem feB:FeC CB:=⟨rfl⟩
theorem cdoE:CdoC CE:=⟨rfl,rfl,rfl,rfl,⟨_,_,rfl,rfl,rfl⟩⟩
theorem sbD:SbC4 CD:=⟨rfl,rfl,⟨_,_,rfl,stC⟩,rfl⟩
theorem sbiE:SbiC CE:=⟨rfl,⟨_,rfl,sbD⟩⟩
theorem csG:CsC CG:=⟨rfl,⟨_,rfl,feB⟩,rfl,rfl,⟨_,rfl,cdoE,sbiE⟩⟩
theorem spG:StpC CG:=⟨rfl,⟨_,rfl,feB⟩,rfl,⟨_,rfl⟩,rfl,rfl,⟨_,rfl,cdoE,sbiE⟩⟩
theorem liH:LiC CH:=⟨rfl,⟨_,rfl,⟨rfl,rfl⟩⟩,rfl,⟨_,rfl,csG⟩,rfl,rfl,⟨_,rfl⟩⟩
theorem seI:OG CI CG CB CH:=⟨rfl,⟨_,rfl⟩,rfl,rfl,rfl,rfl,rfl,rfl⟩
theorem hiK:HiC CK:=⟨CJ,CI,CG,CB,CH,⟨rfl,rfl,⟨rfl,rfl⟩⟩,seI,tkG,liH,rfl,⟨_,rfl⟩⟩
theorem poK:PowC CK:=⟨rfl,⟨_,rfl,onD⟩⟩
theorem ouB:OutC CB:=⟨rfl,⟨_,rfl,rfl⟩⟩
theorem lvL:LivC CL:=⟨rfl,⟨_,rfl,maB⟩,rfl,⟨_,rfl,pgC0⟩,rfl,⟨_,rfl,laE⟩,rfl,⟨_,rfl,poK,hiK⟩,rfl,⟨_,rfl,wkI⟩,rfl,⟨_,rfl⟩,rfl,⟨_,rfl,ouB⟩⟩
theorem shM:ShutC CM:=⟨rfl,⟨_,rfl,lvL⟩,rfl,⟨_,rfl,maB⟩,rfl,⟨_,rfl,laE⟩,rfl,⟨_,rfl,toB⟩,rfl,⟨_,rfl,poK,hiK,rfl,⟨_,rfl,asD,rfl,⟨_,rfl⟩⟩⟩,rfl,⟨_,rfl⟩,rfl,⟨_,rfl⟩,rfl,rfl,⟨_,rfl,spG⟩,rfl,⟨_,rfl,ouB⟩⟩
theorem CM_types:CM.aZ 0=some (D.agg (.ar vZ.length (sH [.i64,.i64,.i64])) (vZ.map (G7 [.i64,.i64,.i64]))):=rfl
theorem CM_first:CM.aZ 3=some (xG .u32 Kq):=rfl
theorem Zq:CM.aZ 4=some (xG .u32 DV):=rfl
theorem CM_tz:CM.aZ 5=some (xG .u8 tzZ):=rfl
theorem CM_spans:CM.aZ 2=some (D.agg (.ar v5.length (sH [.u32,.i64])) (v5.map (G7 [.u32,.i64]))):=rfl
theorem OY(g:Nat)(h:¬g=0)(h0:¬g=3)(h1:¬g=4)(h2:¬g=5)(h3:¬g=2):CM.aZ g=none:=G0_none g h h0 h1 h2 h3
end kj
end Go.Am

import Derived.Test.YtcmafnfakehjgaaGreatDoorKi10
set_option linter.unusedSimpArgs false
set_option linter.unusedVariables false
set_option maxRecDepth 10000
set_option maxHeartbeats 4000000
namespace Go.Am
attribute [local congr] cJ bI cK bJ bK b6 bw bN bO b7 bi b8 bP cI
namespace kj
open Go.Am.F
open Ms
abbrev SPl:Sh:= .cons LI (.cons (.ar 32 L8) .nil)
abbrev xc:Sh:= .cons (.ar 8 SPl) (.cons LB (.cons LB .nil))
def plD(p:Int×List (BitVec 8)):D:= .agg SPl [.raw (it p.1),.agg (.ar 32 L8) (bs p.2)]
def gH(l:List (Int×List (BitVec 8))):D:= .agg xc [.agg (.ar 8 SPl) (l.map plD),.raw (.bool false),.raw (.bool false)]
theorem uV{l:List (Int×List (BitVec 8))}{h:Nat}(hh:h<l.length):cM [gH l] [0,0,h,0]=some (.raw (it (l[h]).1)):=by
 simp[cM,D.get,gH,hh,plD]
theorem slot_key{l:List (Int×List (BitVec 8))}{h:Nat}(hh:h<l.length):cM [gH l] [0,0,h,1]=some (.agg (.ar 32 L8) (bs (l[h]).2)):=by
 simp[cM,D.get,gH,hh,plD]
theorem YV(l:List (Int×List (BitVec 8))):cM [gH l] [0,1]=some (.raw (.bool false)):=rfl
theorem MG(l:List (Int×List (BitVec 8))):cM [gH l] [0,2]=some (.raw (.bool false)):=rfl
theorem JV{l:List (Int×List (BitVec 8))}{h:Nat}(hh:h<l.length)(p:Int×List (BitVec 8)):mL [gH l] [0,0,h] (plD p)=some [gH (l.set h p)]:=by
 simp[mL,D.set,gH,hh,acr]
theorem Oz(C C1:aU){rows:Rows}{r q h:Nat}{ex:Bool}{l:List (Int×List (BitVec 8))}(hr:live rows r=some ⟨xc,[gH l]⟩)(hq:live rows q=some ⟨LI,[.raw (it (h:Int))]⟩)(hl:l.length=8)(hh:h<8)
  (nw:C.fn 274=none)(Ws:C.cV 274=some (aB C1 2 cS cR)){K:D->Rows->Prop}(hk:K (.raw (it 0)) rows):
  aB C 2 fG fF [.ptr xc r [0],.sl LI q [] 0 1 ex] rows K:=by
 refine ae rfl ?_
 unfold fF fG
 have hd:=MG l
 have e0:((0:Int)<=(h:Int))=True:=aas (by omega)
 have e1:((h:Int)<8)=True:=aas (by omega)
 simp only[↓ag,ah,simprocAttr,aK,hr,hd]
 refine bx 1 (λi env rs=>has env [(17,.raw (it (i:Int))),(16,.raw (it 1)),(15,.sl LI q [] 0 1 ex),(0,.ptr xc r [0])]/\rs=rows) ?_ ?_ ⟨?_,rfl⟩
 ·rintro i hi env rs ⟨hv,rfl⟩ R hR
  simp only[has]at hv
  have hi0:i=0:=by omega
  subst hi0
  simp only[↓ag,ah,simprocAttr,aK,hv,hr,hq,ii,nw,Ws,cR,cS,e0,e1,aca]
  exact hR _ _ ⟨by simp only[has,↓ag,ah,simprocAttr,hv],rfl⟩
 ·rintro env rs ⟨hv,rfl⟩ R
  simp only[has]at hv
  simp only[↓ag,ah,simprocAttr,aK,hv]
  exact hk
 ·simp only[has,↓ag,ah,simprocAttr]
def Kept(rows aa:Rows):Prop:=∀q row,live rows q=some row->live aa q=some row
theorem Kept.refl(rows:Rows):Kept rows rows:=λ_ _ h=>h
theorem Kept.app(rows L:Rows):Kept rows (rows++L):=λ_ _ h=>ab h L
theorem Kept.trans{a b c:Rows}(h:Kept a b)(h':Kept b c):Kept a c:=λq row hq=>h' q row (h q row hq)
theorem Kept.set{a b:Rows}{q:Nat}{x:Option Row}(h:Kept a b)(hq:live a q=none):Kept a (b.set q x):=λq' row hq'=>by
 have:q≠q':=λe=>by rw[e,hq']at hq;cases hq
 rw[aA this];exact h q' row hq'
structure SlC (C1 C:aU):Prop where
 nm:C.fn 255=none
 rm:C.cV 255=some (aB C1 2 fG fF)
 nw:C1.fn 274=none
 Ws:∃C0,C1.cV 274=some (aB C0 2 cS cR)
theorem key_run(C C1:aU)(hC:SlC C1 C){rows:Rows}{r h:Nat}{l:List (Int×List (BitVec 8))}(hr:live rows r=some ⟨xc,[gH l]⟩)(hl:l.length=8)(hh:h<8){K:D->Rows->Prop}
  (hk:∀aa,Kept rows aa->K (.cd [bif decide ((l.getD h (0,[])).1=0)then .raw (.slice none 0 0)else .sl L8 r [0,0,h,1] 0 32 true,.raw (it (bif decide ((l.getD h (0,[])).1=0)then 3 else 0))]) aa):
  aB C 2 gO gN [.ptr xc r [0],.raw (it (h:Int))] rows K:=by
 obtain⟨nm,rm,nw,C0,Ws⟩:=hC
 refine ae rfl ?_
 unfold gN gO
 have e0:((0:Int)<=(h:Int))=True:=aas (by omega)
 have e1:((h:Int)<8)=True:=aas (by omega)
 have u7:=λL=>ab hr L
 have Gv:=uV (l:=l) (h:=h) (by omega)
 have hg:l.getD h (0,[])=l[h]'(by omega):=by simp[List.getD,(by omega:h<l.length)]
 rw[hg]at hk
 simp only[↓ag,ah,simprocAttr,aK,nm,rm]
 refine Oz (q:=rows.length) C1 C0 (u7 _) (by rw[a9];rfl) hl hh nw Ws ?_
 simp only[↓ag,ah,simprocAttr,aK,u7,Gv,e0,e1]
 by_cases hz:(l[h]'(by omega)).1=0
 ·have Gs:((l[h]'(by omega)).1=0)=True:=aas hz
  have:=hk _ (Kept.app rows [some ⟨LI,[.raw (it (h:Int))]⟩])
  rw[abA hz]at this
  simp only[↓ag,ah,simprocAttr,aK,Gs,aaD]
  exact this
 ·have Gs:((l[h]'(by omega)).1=0)=False:=aaw hz
  have:=hk _ (Kept.app rows [some ⟨LI,[.raw (it (h:Int))]⟩])
  rw[aa7 hz]at this
  simp only[↓ag,ah,simprocAttr,aK,Gs,aaE,e0,e1]
  exact this
structure MaC (C2 C1 C:aU):Prop where
 nk:C.fn 256=none
 rk:C.cV 256=some (aB C1 2 gO gN)
 sl:SlC C2 C1
 ms:C.fn 280=some fMacSum
structure QuC (C3 C2 C1 Cp C:aU):Prop where
 np:C.fn 281=none
 rp:C.cV 281=some (aB Cp 2 NR NQ)
 pt:Cp.fn 254=some JU
 nM:C.fn 263=none
 rM:C.cV 263=some (aB C1 3 EM EL)
 ma:MaC C3 C2 C1
end kj
end Go.Am
namespace Go.Am
attribute [local congr] cJ bI cK bJ bK b6 bw bN bO b7 bi b8 bP cI
namespace kj
open Go.Am.F
def Fr(S:List Nat)(rows aa:Rows):Prop:=∀q row,live rows q=some row->q∉S->live aa q=some row
theorem Fr.refl(S:List Nat)(rows:Rows):Fr S rows rows:=λ_ _ h _=>h
theorem Fr.app(S:List Nat)(rows L:Rows):Fr S rows (rows++L):=λ_ _ h _=>bG h
theorem Fr.trans{S:List Nat}{a b c:Rows}(h:Fr S a b)(h':Fr S b c):Fr S a c:=λq row hq hn=>h' q row (h q row hq hn) hn
theorem Fr.mono{S S':List Nat}{a b:Rows}(h:Fr S a b)(hs:∀x∈S,x∈S'):Fr S' a b:=λq row hq hn=>h q row hq λh=>hn (hs _ h)
theorem Fr.set{S:List Nat}{a b:Rows}(h:Fr S a b){r:Nat}(hr:r∈S)(x:Option Row):Fr S a (b.set r x):=λq row hq hn=>by
 rw[aA λe=>hn (by rw[<-e];exact hr)];exact h q row hq hn
theorem Fr.of{S:List Nat}{a b:Rows}(h:dz a b):Fr S a b:=λq row hq _=>h q row hq
theorem bB{rows:Rows}{a b:Nat}{s t:Sh}{l l':List D}(h:live rows a=some ⟨s,l⟩)(h':live rows b=some ⟨t,l'⟩)(hs:s≠t):a≠b:=λe=>by
 rw[e,h']at h
 injection h with h
 injection h with h _
 exact hs h.symm
theorem jr{rows:Rows}{b:Nat}{y:Row}(hb:live rows b=some y):(∀l X,(rows++l).set b X=rows.set b X++l)/\(∀X Y l,(rows.set b X++l).set b Y=rows.set b Y++l)/\(∀X l,live (rows.set b (some X)++l) b=some X)/\(∀X l,live (rows.set b X++l) rows.length=live l 0)/\
  (∀X l k,live (rows.set b X++l) (rows.length+k)=live l k)/\(∀X l Y,(rows.set b X++l).set rows.length Y=rows.set b X++l.set 0 Y)/\∀X l k Y,(rows.set b X++l).set (rows.length+k) Y=rows.set b X++l.set k Y:=by
 have hl:=aR hb
 have h2:∀X,(rows.set b X).length=rows.length:=λX=>abe ..
 refine⟨λl X=>List.set_append_left _ _ hl,λX Y l=>?_,λX l=>ab (aD hb) l,λX l=>?_,λX l k=>?_,λX l Y=>?_,λX l k Y=>?_⟩
 ·rw[List.set_append_left _ _ (by rw[h2];exact hl),adv]
 ·have:=a9 (rows.set b X) l;rwa [h2]at this
 ·have:=bg (rows.set b X) l k;rwa [h2]at this
 ·have:=Qr (rows.set b X) l Y;rwa [h2]at this
 ·have:=Qs (rows.set b X) l k Y;rwa [h2]at this
theorem tE{rows:Rows}{b r:Nat}{y:Row}(h:live rows r=some y)(hn:r≠b)(X:Option Row)(l:Rows):live (rows.set b X++l) r=some y:=by
 refine ab ?_ l
 rw[aA (abh hn)];exact h
abbrev jN:Sh:= .cons LI (.cons LI (.cons SM (.cons LB (.cons LI (.cons LI (.cons LI (.cons LI (.cons .ref (.cons (.ar 2 SVw) (.cons .ref (.cons LI (.cons LI .nil))))))))))))
structure Bt where
 ph:Int
 sl:Int
 qh:Bo
 tr:Bool
 e:Int
 left:Int
 mU:Int
 least:Int
 bA:D
 v0:D
 v1:D
 ops:D
 at_:Int
 pay:Int
def ml(b:Bt):D:= .agg jN [.raw (it b.ph),.raw (it b.sl),dw b.qh,.raw (.bool b.tr),.raw (it b.e),.raw (it b.left),.raw (it b.mU),.raw (it b.least),b.bA,.agg (.ar 2 SVw) [b.v0,b.v1],b.ops,.raw (it b.at_),.raw (it b.pay)]
abbrev cO(rows:Rows)(b:Nat)(B:Bt):Prop:=live rows b=some ⟨jN,[ml B]⟩
abbrev DI:Sh:= .cons (.ar 32 cN) (.cons cN (.cons (.cons cN (.cons cN (.cons cN (.cons cN (.cons cN (.cons cN (.cons cN (.cons cN .nil)))))))) (.cons LB .nil)))
abbrev fq:Sh:= .cons .ref (.cons .ref (.cons DI (.cons .ref .nil)))
abbrev SMea:Sh:= .cons (.ar 4 (.ar 32 L8)) .nil
abbrev Sf:Sh:= .cons .ref (.cons SMea (.cons (.ar 32 L8) (.cons LI .nil)))
structure Ly where
 M:Nat
 s:Nat
 e:Nat
 sl:Nat
 f:Nat
 m:Nat
 q:Nat
 a:Nat
 w:Nat
def Bp(L:Ly)(core p:D):D:= .agg fq [.ptr du L.s [0],.ptr Sf L.e [0],core,p]
structure zp where
 st:Int
 cD:List (BitVec 8)
 x:List (BitVec 8)
 c:pj
 co:D
 pp:D
 pt:D
structure jd (rows:Rows) (L:Ly) (S:zp):Prop where
 ma:live rows L.M=some ⟨fq,[Bp L S.co S.pp]⟩
 sp:live rows L.s=some ⟨du,[jU S.st S.cD S.pt L.f L.q]⟩
 rl:S.cD.length=8192
 fl:fW rows L.f L.m S.x
 xl:S.x.length=10240
 ch:oe rows L.q L.a L.w S.c
def Ly.ids(L:Ly):List Nat:=[L.M,L.s,L.f,L.m,L.q,L.a,L.w]
theorem jd.keep{rows aa:Rows}{L:Ly}{S:zp}(h:jd rows L S)(f:∀q row,live rows q=some row->q∈L.ids->live aa q=some row):jd aa L S:=by
 obtain⟨h1,h2,h3,⟨⟨ex,h4⟩,h5⟩,h6,h7⟩:=h
 exact⟨f _ _ h1 (by simp[Ly.ids]),f _ _ h2 (by simp[Ly.ids]),h3,⟨⟨ex,f _ _ h4 (by simp[Ly.ids])⟩,f _ _ h5 (by simp[Ly.ids])⟩,h6,h7.keep λp row hp hq=>f p row hp (by rcases hq with h|h|h<;>simp[Ly.ids,h])⟩
theorem jd.fr{rows aa:Rows}{L:Ly}{S:zp}{b:Nat}{B:Bt}(h:jd rows L S)(hb:cO rows b B)(f:Fr [b] rows aa):jd aa L S:=by
 refine h.keep λq row hq hm=>f q row hq λhn=>?_
 have e:q=b:=by simpa using hn
 subst e
 obtain⟨h1,h2,h3,⟨⟨ex,h4⟩,h5⟩,h6,h7⟩:=h
 have h8:=h7.ch
 have h9:=h7.ar
 have h10:=h7.dat
 simp only[Ly.ids,aaI,aa1,acd]at hm
 rcases hm with rfl|rfl|rfl|rfl|rfl|rfl|rfl<;>simp_all
theorem yE(C:aU){rows:Rows}{b:Nat}{B:Bt}(hb:cO rows b B)(p t:Int){K:D->Rows->Prop}(hk:K (.cd []) (rows.set b (some ⟨jN,[ml {B with ph:=p,left:=t}]⟩))):
  aB C 3 jH jG [.ptr jN b [0],.raw (it p),.raw (it t)] rows K:=by
 refine ae rfl ?_
 unfold jG jH
 simp only[cO,ml]at hb
 have h2:=λx=>aD (y:=x) hb
 simp only[↓ag,ah,simprocAttr,hb,h2,adv]
 exact hk
theorem halt_run(C C1:aU)(n0:C.fn 220=none)(r0:C.cV 220=some (aB C1 3 jH jG)){rows:Rows}{b:Nat}{B:Bt}(hb:cO rows b B)(e:Int){K:D->Rows->Prop}(hk:K (.raw (.bool true)) (rows.set b (some ⟨jN,[ml {B with ph:=9,left:=0,e:=e}]⟩))):
  aB C 2 gM gL [.ptr jN b [0],.raw (it e)] rows K:=by
 refine ae rfl ?_
 unfold gL gM
 simp only[cO,ml]at hb
 simp only[↓ag,ah,simprocAttr,hb,n0,r0]
 refine yE C1 (B:={B with e:=e}) (aD hb) 9 0 ?_
 simp only[↓ag,ah,simprocAttr,adv]
 exact hk
structure ToC (C:aU):Prop where
 n:C.fn 220=none
 r:∃C1,C.cV 220=some (aB C1 3 jH jG)
structure HaC (C:aU):Prop where
 n:C.fn 222=none
 r:∃C1,C.cV 222=some (aB C1 2 gM gL)/\ToC C1
theorem MH(C1:aU)(H:ToC C1){rows:Rows}{b:Nat}{B:Bt}(hb:cO rows b B)(e:Int){K:D->Rows->Prop}(hk:K (.raw (.bool true)) (rows.set b (some ⟨jN,[ml {B with ph:=9,left:=0,e:=e}]⟩))):
  aB C1 2 gM gL [.ptr jN b [0],.raw (it e)] rows K:=by
 obtain⟨C2,r⟩:=H.r
 exact halt_run C1 C2 H.n r hb e hk
structure StaC (C:aU):Prop where
 to:ToC C
 ha:HaC C
 li:C.fn 63=some Mq
 ct:C.fn 176=some fCtr
 ke:C.fn 159=some VT
 fi:C.fn 203=some Fi
 se:C.fn 221=some YS
theorem selFirst(l:Int):(Lb l gW 0 0).i=if l=4\/l<1\/3<l then-1 else 0:=by
 unfold Lb
 by_cases h1:l=4
 ·simp[h1]
 ·by_cases h2:l<1\/3<l
  ·simp[h1,h2]
  ·rw[aaC h1,aaC h2,aaC (by omega)]
   rfl
theorem YW(C:aU)(H:StaC C){rows:Rows}{L:Ly}{S:zp}{b:Nat}{B:Bt}(hM:jd rows L S)(hb:cO rows b B){K:D->Rows->Prop}
  (h0:1<=eB S.c/\eB S.c<=3->∀aa p,Fr [b] rows aa->rows.length<=p->live aa p=some ⟨L8,bs (oa S.c)⟩->cO aa b {B with ph:=1,left:=17,mU:=eB S.c,least:=mO S.c,bA:= .sl L8 p [] 0 56 false}->K (.raw (.bool false)) aa)
  (h1:¬(1<=eB S.c/\eB S.c<=3)->∀aa d,Fr [b] rows aa->cO aa b {B with ph:=9,left:=0,e:=(Lb (eB S.c) gW 0 0).e,mU:=eB S.c,least:=mO S.c,bA:=d}->K (.raw (.bool true)) aa):
  aB C 2 fm fj [.ptr jN b [0],.ptr fq L.M [0]] rows K:=by
 refine ae rfl ?_
 unfold fj fm
 obtain⟨l7,hsp,yx,qj,FK,E5⟩:=hM
 have P0:=aR hb
 have kL:=λk=>kLife E5.rd E5.len k
 have kC:=λk=>kCtr E5.rd E5.len k
 have kK:=λk=>kKeyC E5.rd E5.len k
 simp only[Bp]at l7
 simp only[jU]at hsp
 have zt:=λL'=>ab hb L'
 simp only[cO,ml]at hb zt
 have hp:=jr hb
 have hc:jj gW=true:=rfl
 have kF:=λrows k=>kFirst rows k
 have kS:=λrows k=>kSel rows k (eB S.c) gW hc 0 0
 have hz:D.agg SJ [.raw (u32 0#32),.raw (it 0),.raw (it 0),.raw (it 0)]=jD ⟨0#32,0,0,0⟩:=rfl
 have cf:∀c,(Se c).fits SCo=true:=λ_=>rfl
 have g0:∀c,(Se c).get [0]=some (.raw (it c.i)):=λ_=>rfl
 have g4:∀c,(Se c).get [4]=some (.raw (it c.e)):=λ_=>rfl
 have hsi:=selFirst (eB S.c)
 simp only[hz]
 simp only[↓ag,ah,simprocAttr,aK,l7,hsp,hb,zt,hp,H.li,H.ct,H.ke,kL,kC,kK,H.fi,kF,H.se,kS,cf,g0,g4,adv]
 have hF:∀X l,Fr [b] rows (rows.set b X++l):=λX l=>((Fr.refl _ _).set (by simp) _).trans (Fr.app _ _ _)
 have Uz:∀X l,live (rows.set b (some X)++l) b=some X:=hp.2.2.1
 by_cases c:1<=eB S.c/\eB S.c<=3
 ·rw[aaC (by omega)]at hsi
  obtain⟨C1,r1⟩:=H.to.r
  simp only[↓ag,ah,simprocAttr,hsi,H.to.n,r1]
  refine yE C1 (B:={B with mU:=eB S.c,least:=mO S.c,bA:= .sl L8 rows.length [] 0 56 false}) (Uz _ _) 1 17 ?_
  simp only[↓ag,ah,simprocAttr,aK,hp]
  exact h0 c _ _ (hF _ _) (aax _) (by rw[hp.2.2.2.1];rfl) (Uz _ _)
 ·rw[aaJ (by omega)]at hsi
  obtain⟨C1,r1,hT⟩:=H.ha.r
  simp only[↓ag,ah,simprocAttr,aK,hp,hsi,g4,H.ha.n,r1]
  refine MH C1 hT (B:={B with mU:=eB S.c,least:=mO S.c,bA:= .sl L8 rows.length [] 0 56 false}) (Uz _ _) _ ?_
  simp only[↓ag,ah,simprocAttr,aK,hp]
  exact h1 c _ _ (hF _ _) (Uz _ _)
theorem kReadF{rows:Rows}{r m:Nat}{x:List (BitVec 8)}(h:fW rows r m x)(h1:8704<=x.length)(h2:x.length<=1048576)(k:D->Rows->Prop):aG Fj rows k [.ptr SF r [0]]=k (.cd [jD (nj (some (x,false))).1,.raw (it (nj (some (x,false))).2)]) rows:=by
 obtain⟨e,hf⟩:=h.to
 rw[kReadJ hf h2,JQ x e h1,JQ x false h1]
def lookM(x bA:List (BitVec 8))(least:Int)(i:Nat):Bo:=if mF x bA least i=0 then(gG x i).1 else fA
def lookP(x bA:List (BitVec 8))(least:Int)(i n:Nat):D:=if mF x bA least i=0 then .sl L8 n [] 0 (gG x i).2.2.1.length false else .raw (.slice none 0 0)
def YX(x bA:List (BitVec 8))(least:Int)(i n:Nat):D:=La (mF x bA least i) (lookM x bA least i) (lookP x bA least i n)
theorem vwN_fits(x bA:List (BitVec 8))(least:Int)(i n:Nat):(YX x bA least i n).fits SVw=true:=by
 simp only[YX,lookP]
 split<;>rfl
theorem kLook2{rows:Rows}{f m:Nat}{x bA:List (BitVec 8)}{dp:D}(hF:fW rows f m x)(hx:x.length=10240)(hp:aY rows dp bA)(qL:bA.length<=1000)(least:Int)(i:Nat)(hi:i<=1)(k:D->Rows->Prop):
  aG Ra rows k [.ptr SF f [0],dp,.raw (it least),.raw (it (i:Int))]=k (YX x bA least i rows.length) (rows++vwR x bA least i):=by
 refine(kLook hF hx hp qL least i hi k).trans ?_
 simp only[YX,vwAt,lookM,lookP]
 by_cases c:mF x bA least i=0<;>simp only[c,abR,abP]
def Bt.JW(B:Bt)(i:Nat)(v:D):Bt:=if i=0 then{B with v0:=v}else{B with v1:=v}
structure LkC (C:aU):Prop where
 to:ToC C
 lo:C.fn 200=some Ra
theorem UA(C:aU)(H:LkC C){rows:Rows}{L:Ly}{S:zp}{b:Nat}{B:Bt}{bA:List (BitVec 8)}(i:Nat)(hi:i<=1)(hM:jd rows L S)(hb:cO rows b B)(wM:B.ph=i+1)(hp:aY rows B.bA bA)(qL:bA.length<=1000){K:D->Rows->Prop}
  (hk:K (.cd []) (rows.set b (some ⟨jN,[ml {B.JW i (YX S.x bA B.least i rows.length)with ph:=i+2,left:=if i=0 then 17 else 1}]⟩)++vwR S.x bA B.least i)):
  aB C 2 cQ cP [.ptr jN b [0],.ptr fq L.M [0]] rows K:=by
 refine ae rfl ?_
 unfold cP cQ
 obtain⟨l7,hsp,yx,qj,FK,E5⟩:=hM
 have P0:=aR hb
 have kL:=λk=>kLook2 qj FK hp qL B.least i hi k
 simp only[Bp]at l7
 simp only[jU]at hsp
 have zt:=λL'=>ab hb L'
 simp only[cO,ml]at hb zt
 have hq:=jr hb
 obtain⟨C1,r1⟩:=H.to.r
 have hf:=vwN_fits S.x bA B.least i rows.length
 generalize YX S.x bA B.least i rows.length=V at*
 generalize vwR S.x bA B.least i=R at*
 have Uz:∀X l,live (rows.set b (some X)++l) b=some X:=hq.2.2.1
 have e:i=0\/i=1:=by omega
 rcases e with rfl|rfl
 ·have wM:B.ph=1:=wM
  simp only[acP,aca]at kL
  simp only[↓ag,ah,simprocAttr,aK,wM,l7,hsp,hb,zt,hq,H.lo,kL,hf,H.to.n,r1]
  refine yE C1 (B:={B with v0:=V}) (wM▸Uz _ _) 2 17 ?_
  simp only[↓ag,ah,simprocAttr,aK,hq]
  exact hk
 ·have wM:B.ph=2:=wM
  simp only[Int.ofNat_one,acv]at kL
  simp only[↓ag,ah,simprocAttr,aK,wM,l7,hsp,hb,zt,hq,H.lo,kL,hf,H.to.n,r1]
  refine yE C1 (B:={B with v1:=V}) (wM▸Uz _ _) 3 1 ?_
  simp only[↓ag,ah,simprocAttr,aK,hq]
  exact hk
def sv(x:List (BitVec 8))(j:Nat):Nat:=4096*j+50+fX (sub x (4096*j) 4096)
theorem sub2_get{x:List (BitVec 8)}(hx:x.length=10240):∃p0 p1,sub x 48 2=[p0,p1]/\p0.toNat*256+p1.toNat=fX (sub x 0 4096):=by
 refine⟨x.getD 48 0#8,x.getD 49 0#8,?_,?_⟩
 ·apply abX
  intro i
  simp only[sub,abi,aa5]
  rcases i with _| _|i
  ·simp[aao (show 48<x.length by omega)]
  ·simp[aao (show 49<x.length by omega)]
  ·have:¬(i+1+1<2):=by omega
   simp[this]
 ·simp only[fX,sub,aay,abi,aa5]
  simp
structure CpC (C:aU):Prop where
 to:ToC C
 rd:C.fn 152=some Av
theorem YY(C:aU)(H:CpC C){rows:Rows}{L:Ly}{S:zp}{b:Nat}{B:Bt}(z:Nat)(hz:z<=2048)(hM:jd rows L S)(hb:cO rows b B)(mH:B.sl=0)(xa:B.qh.s=z){K:D->Rows->Prop}
  (hk:∀R,K (.cd []) (rows.set b (some ⟨jN,[ml {B with pay:=(sv S.x 0:Int),at_:=0,ph:=5,left:=((z+63)/64:Nat)}]⟩)++R)):
  aB C 2 jF jE [.ptr jN b [0],.ptr fq L.M [0]] rows K:=by
 refine ae rfl ?_
 unfold jE jF
 obtain⟨l7,hsp,yx,qj,FK,E5⟩:=hM
 have P0:=aR hb
 obtain⟨p0,p1,tI,hs3⟩:=sub2_get FK
 have kR:=λk=>QU qj (by omega) 48 2 (by omega) k
 rw[tI]at kR
 simp only[Bp]at l7
 simp only[jU]at hsp
 have zt:=λL'=>ab hb L'
 simp only[cO,ml]at hb zt
 have hq:=jr hb
 obtain⟨C1,r1⟩:=H.to.r
 have Uz:∀X l,live (rows.set b (some X)++l) b=some X:=hq.2.2.1
 have t0:=p0.isLt
 have t1:=p1.isLt
 have sh8:=λk=>b_shlI _ t0 k
 have or8:=λk=>b_orI _ _ t0 t1 k
 have hsb:fX (sub S.x 0 4096)<65536:=by omega
 have gm:(dw B.qh).get [1]=some (.raw (it (z:Int))):=by rw[<-xa];rfl
 have w0:wz ((wz (wz ((z:Int)+64)-1)).tdiv 64)=((z+63)/64:Nat):=by
  rw[bh (n:=(z:Int)+64) (by omega),bh (n:=(z:Int)+64-1) (by omega),show(z:Int)+64-1=((z+63:Nat):Int) by omega,show(64:Int)=((64:Nat):Int)from rfl,<-aev,bh (by omega)]
 replace kR:∀k,aG Av rows k [.ptr SF L.f [0],.raw (it 48),.raw (it 2)]=k (.cd [.sl L8 rows.length [] 0 2 false,.raw (it 0)]) (rows++[some ⟨L8,bs [p0,p1]⟩]):=kR
 have w1:wz (50+((fX (sub S.x 0 4096):Nat):Int))=(sv S.x 0:Int):=by
  rw[bh (by omega)];simp only[sv];rfl
 simp only[↓ag,ah,simprocAttr,aK,mH,l7,hsp,hb,zt,hq,H.rd,kR,bs,List.map,sh8,or8,hs3,gm,H.to.n,r1,w0,w1]
 refine yE C1 (B:={B with pay:=(sv S.x 0:Int),at_:=0}) (mH▸Uz _ _) 5 _ ?_
 simp only[↓ag,ah,simprocAttr,aK,hq]
 exact hk _
theorem Rc(p:List (BitVec 8))(h:(cU p).2=true):jj (cU p).1=true:=by
 unfold cU at h⊢
 cases c:decide (p.length=32)&&(jj (ZL p)&&decide (sn (ZL p)=p))<;>rw[c]at h
 ·cases h
 ·simp only[aan]at c
  exact c.2.1
theorem JX(K:FV)(i:Nat)(s:JS×Int)(h:jj s.1=true):jj (DE K i s).1=true:=by
 unfold DE
 split
 ·cases c:(cU (sub (tA K) (256*i) 32)).2&&(decide (s.2=-1)||decide (s.1.q<(cU (sub (tA K) (256*i) 32)).1.q))
  ·exact h
  ·exact Rc _ (acU.1 c).1
 ·exact h
theorem UB(K:FV):jj (nj K).1=true:=JX _ _ _ (JX _ _ _ rfl)
structure ChoC (C:aU):Prop where
 rd:C.fn 149=some Fj
 se:C.fn 221=some YS
 cp0:C.fn 219=none
 cp1:∃C1,C.cV 219=some (aB C1 2 jF jE)/\CpC C1
theorem Rd(C:aU)(H:ChoC C){rows:Rows}{L:Ly}{S:zp}{b z:Nat}{B:Bt}{e1:Int}{m0 m1:Bo}{d0 d1:D}(hM:jd rows L S)(hb:cO rows b B)(hv0:B.v0=La 0 m0 d0)(hv1:B.v1=La e1 m1 d1)(ho:B.ops= .raw (.slice none 0 0))(hmz:m0.s=z)(hz2:z<=2048)
  {c:Cho}(hc:c=Lb B.mU (nj (some (S.x,false))).1 0 e1)(hci:c.i=0)(hcc:c.c=false){K:D->Rows->Prop}
  (hk:∀aa,Fr [b] rows aa->cO aa b {B with sl:=0,tr:=c.t,qh:=m0,pay:=(sv S.x 0:Int),at_:=0,ph:=5,left:=((z+63)/64:Nat)}->K (.raw (.bool false)) aa):
  aB C 2 eV eU [.ptr jN b [0],.ptr fq L.M [0]] rows K:=by
 refine ae rfl ?_
 unfold eU eV
 obtain⟨ph,sl,mn,tr,er,lf,mU,least,bA,v0,v1,ops,at_,pay⟩:=B
 simp only at hv0 hv1 ho hc
 subst hv0 hv1 ho
 have hM0:=hM
 have hb0:=hb
 obtain⟨l7,hsp,yx,qj,FK,E5⟩:=hM
 have P0:=aR hb
 have kR:=λk=>kReadF qj (by omega) (by omega) k
 have hrj:=UB (some (S.x,false))
 have kS:=λrows k=>kSel rows k mU _ hrj 0 e1
 rw[<-hc]at kS
 generalize nj (some (S.x,false))=J at*
 obtain⟨J,jp⟩:=J
 simp only at hc kS hrj
 have hz0:D.agg SJ [.raw (u32 0#32),.raw (it 0),.raw (it 0),.raw (it 0)]=jD ⟨0#32,0,0,0⟩:=rfl
 have hzc:D.agg SCo [.raw (it 0),jD ⟨0#32,0,0,0⟩,.raw (.bool false),.raw (.bool false),.raw (it 0)]=Se ⟨0,⟨0#32,0,0,0⟩,false,false,0⟩:=rfl
 have cf:∀c,(Se c).fits SCo=true:=λ_=>rfl
 have cg0:∀c,(Se c).get [0]=some (.raw (it c.i)):=λ_=>rfl
 have cg2:∀c,(Se c).get [2]=some (.raw (.bool c.c)):=λ_=>rfl
 have cg3:∀c,(Se c).get [3]=some (.raw (.bool c.t)):=λ_=>rfl
 have vg0:∀e m d,(La e m d).get [0]=some (.raw (it e)):=λ_ _ _=>rfl
 have vg1:∀e m d,(La e m d).get [1]=some (dw m):=λ_ _ _=>rfl
 simp only[Bp]at l7
 simp only[jU]at hsp
 have zt:=λL'=>ab hb L'
 have Le:=λL'=>ab l7 L'
 have hsp1:=λL'=>ab hsp L'
 simp only[cO,ml]at hb zt
 obtain⟨C2,rc,hC2⟩:=H.cp1
 have hq:=jr hb
 have Uz:∀X l,live (rows.set b (some X)++l) b=some X:=hq.2.2.1
 have hF:∀X l,Fr [b] rows (rows.set b X++l):=λX l=>((Fr.refl _ _).set (by simp) _).trans (Fr.app _ _ _)
 have hmf:=fI m0
 simp only[↓ag,ah,simprocAttr,aK,hz0,hzc,l7,hsp,hb,zt,Le,hsp1,vg0,vg1,hq,dK,cf,cg0,cg2,cg3,H.rd,kR,H.se,kS,hmf,hci,hcc,H.cp0,rc]
 refine YY C2 hC2 (S:=S) (L:=L) (B:=⟨ph,0,m0,c.t,er,lf,mU,least,bA,La 0 m0 d0,La e1 m1 d1,.raw (.slice none 0 0),at_,pay⟩) z hz2 (hM0.fr hb0 (hF _ _)) (Uz _ _) rfl hmz λR=>?_
 simp only[↓ag,ah,simprocAttr,aK,hq]
 exact hk _ (hF _ _) (Uz _ _)
def og:aj->aj
 | .seq a _=>a
 |c=>c
def gX:aj->aj
 | .seq _ b=>b
 |c=>c
noncomputable def OA:aj:=gX (gX cg)
theorem YZ:cg= .seq (og cg) (.seq (og (gX cg)) OA):=rfl
def Lf(cD:List (BitVec 8)):List (BitVec 8):=aP cD 0 (List.replicate 4096 0#8)
def qG(cD x:List (BitVec 8))(p a:Nat):List (BitVec 8):=aP (Lf cD) 0 (sub x p a)
theorem ramZ_len{cD:List (BitVec 8)}(h:cD.length=8192):(Lf cD).length=8192:=by
 rw[Lf,jT _ _ _ (by rw[aaN];omega),h]
theorem ramC_0(cD x:List (BitVec 8))(p:Nat):qG cD x p 0=Lf cD:=by simp[qG,sub,aP]
theorem Y0(cD x:List (BitVec 8))(p a n:Nat)(hp:p+a<=x.length):aP (qG cD x p a) a (sub x (p+a) n)=qG cD x p (a+n):=by
 have h1:(sub x p a).length=a:=tz (by omega)
 have h2:sub x p (a+n)=sub x p a++sub x (p+a) n:=by
  simp only[sub]
  rw[aef,abr]
 unfold qG
 rw[h2]
 generalize sub x p a=u at*
 generalize sub x (p+a) n=v at*
 subst h1
 simp only[aP,acF,aaZ,abk,acS,aap,aaB]
 simp[aei,abr]
structure CdC (C:aU):Prop where
 to:ToC C
 rd:C.fn 152=some Av
 ba:C.fn 207=some Bg
 s0:C.fn 93=none
 s1:∃C1 C2,C.cV 93=some (aB C1 4 ca b9)/\StC C2 C1
theorem jd.cD{rows:Rows}{L:Ly}{S:zp}(h:jd rows L S){r2:List (BitVec 8)}(h2:r2.length=8192){X:Row}(hX:X=⟨du,[jU S.st r2 S.pt L.f L.q]⟩):jd (rows.set L.s (some X)) L {S with cD:=r2}:=by
 subst hX
 obtain⟨h1,Zy,h3,⟨⟨ex,h4⟩,h5⟩,h6,h7⟩:=h
 have h8:=h7.ch
 have h9:=h7.ar
 have h10:=h7.dat
 have k:∀{q row},live rows q=some row->row.sh≠du->live (rows.set L.s (some ⟨du,[jU S.st r2 S.pt L.f L.q]⟩)) q=some row:=λ{q row} hq hn=>by
  rw[aA λe=>hn (by rw[<-e,Zy]at hq;injection hq with hq;rw[<-hq])];exact hq
 exact⟨k h1 (by intro h;cases h),aD Zy,h2,⟨⟨ex,k h4 (by intro h;cases h)⟩,k h5 (by intro h;cases h)⟩,h6,h7.keep λp row hp hq=>k hp (by rcases hq with rfl|rfl|rfl<;>(intro h;simp_all))⟩
theorem spc_clr{rows:Rows}{s f c:Nat}{ex:Bool}{st:Int}{cD:List (BitVec 8)}{pt:D}(hs:live rows s=some ⟨du,[jU st cD pt f c]⟩)(hr:cD.length=8192){k:D->Rows->Prop}
  (hk:k (.raw (it 4096)) (rows.set s (some ⟨du,[jU st (Lf cD) pt f c]⟩))):oq rows L8 (.sl L8 s [0,1] 0 4096 ex) (List.replicate 4096 (.raw (u8 0#8))) k:=by
 have e:List.replicate 4096 (D.raw (u8 0#8))=bs (List.replicate 4096 0#8):=by rw[bs,ad6]
 rw[e]
 refine Q0 hs hr (by omega) (by rw[aaN];omega) ?_
 rw[aaN]
 exact hk
theorem clr_go{C:aU}{env:Env}{x:X}{rows:Rows}{s f c:Nat}{ex:Bool}{st:Int}{cD:List (BitVec 8)}{pt:D}(h:ev C env x=some (.sl L8 s [0,1] 0 4096 ex))(hs:live rows s=some ⟨du,[jU st cD pt f c]⟩)(hr:cD.length=8192){k:D->Rows->Prop}
  (hk:k (.cd []) (rows.set s (some ⟨du,[jU st (Lf cD) pt f c]⟩))):dX C env rows (.clr L8 (.raw (u8 0#8)) x) k:=by
 rw[o_clr,h]
 exact o7 (a:= .sl L8 s [0,1] 0 4096 ex) rfl (o7 (a:=4096) rfl (spc_clr hs hr hk))
theorem UC(C:aU)(H:CdC C){rows:Rows}{L:Ly}{S:zp}{b:Nat}{B:Bt}(z p i l:Nat)(hz:z<=2048)(hp:p+z<=10240)(hi:64*i<z)(hst:S.st=0)(hM:jd rows L S)(hb:cO rows b B)(Rf:B.pay=(p:Int))(xa:B.qh.s=z)(Lo:B.at_=((64*i:Nat):Int))(hl:B.left=((l+1:Nat):Int))(Ea:l<=100){K:D->Rows->Prop}
  (hk:∀aa,Fr [b,L.s] rows aa->jd aa L {S with cD:=aP (if i=0 then Lf S.cD else S.cD) (64*i) (sub S.x (p+64*i) (min 64 (z-64*i)))}->
   cO aa b {B with at_:=((64*i+min 64 (z-64*i):Nat):Int),left:=if l=0 then 1 else(l:Int),ph:=if l=0 then 6 else B.ph}->K (.raw (.bool false)) aa):
  aB C 2 eT cg [.ptr jN b [0],.ptr fq L.M [0]] rows K:=by
 have main:∀env R (S0:zp),has env [(0,.ptr jN b [0]),(1,.ptr fq L.M [0]),(4,.raw (.bool false))]->jd R L S0->S0.x=S.x->S0.st=0->cO R b B->Fr [b,L.s] rows R->(∀aa,Fr [b,L.s] R aa->jd aa L {S0 with cD:=aP S0.cD (64*i) (sub S.x (p+64*i) (min 64 (z-64*i)))}->
   cO aa b {B with at_:=((64*i+min 64 (z-64*i):Nat):Int),left:=if l=0 then 1 else(l:Int),ph:=if l=0 then 6 else B.ph}->K (.raw (.bool false)) aa)->aw C OA (BS [.tmp 4] K) env R:=by
  intro env R S0 hh hM hx hst hb hF hk
  simp only[has]at hh
  obtain⟨D9,O6,hh4,-⟩:=hh
  obtain⟨Ky,oh,x0,c0,co,pp,pt⟩:=S0
  simp only at hx hst hk
  subst hx hst
  have hM0:=hM
  have hb0:=hb
  obtain⟨l7,hsp,yx,qj,FK,E5⟩:=hM
  obtain⟨m,wg,KJ,hm3,hm4⟩:∃m:Nat,min 64 (z-64*i)=m/\0<m/\m<=64/\64*i+m<=z:=⟨_,rfl,by omega,by omega,by omega⟩
  rw[wg]at hk
  replace yx:oh.length=8192:=yx
  replace FK:S.x.length=10240:=FK
  replace qj:fW R L.f L.m S.x:=qj
  have kR:=λk=>QU qj (by omega) (p+64*i) m (by omega) k
  simp only[Bp]at l7
  have hsp0:=hsp
  simp only[jU]at hsp
  simp only[cO,ml]at hb
  have gm:(dw B.qh).get [1]=some (.raw (it (z:Int))):=by rw[<-xa];rfl
  have w1:wz ((z:Int)-((64*i:Nat):Int))=((z-64*i:Nat):Int):=by rw[bh (by omega)];omega
  have w2:wz ((p:Int)+((64*i:Nat):Int))=((p+64*i:Nat):Int):=by rw[bh (by omega)];omega
  have mm:min (64:Int) ((z-64*i:Nat):Int)=(m:Int):=by omega
  have kB:=λrows k=>Ul rows k
  obtain⟨C1,C2,r1,hS⟩:=H.s1
  have hbA:=λL'=>ab hb L'
  have hmaA:=λL'=>ab l7 L'
  have hspA:=λL'=>ab hsp L'
  unfold OA
  simp only[cg,gX,↓ag,ah,simprocAttr,aK,D9,O6,hh4,l7,hsp,hb,hbA,hmaA,hspA,gm,Lo,Rf,w1,w2,mm,H.rd,kR,H.ba,kB,H.s0,r1]
  have mH:(sub S.x (p+64*i) m).length=m:=tz (by omega)
  have ne:b≠L.s:=bB hb hsp (by intro h;cases h)
  generalize sub S.x (p+64*i) m=u at*
  subst mH
  have hR1:=hM0.keep (aa:=R++[some ⟨L8,bs u⟩]) λq row hq _=>ab hq _
  have hsp1:live (R++[some ⟨L8,bs u⟩]) L.s=some ⟨du,[jU 0 oh pt L.f L.q]⟩:=ab hsp0 _
  have hbR:=hbA [some ⟨L8,bs u⟩]
  have hlv:=a9 R [some ⟨L8,bs u⟩]
  have hF1:=hF.trans (Fr.app [b,L.s] R [some ⟨L8,bs u⟩])
  have hFR:=Fr.app [b,L.s] R [some ⟨L8,bs u⟩]
  generalize R++[some ⟨L8,bs u⟩]=R1 at*
  have hm8:(aP oh (64*i) u).length=8192:=by rw[jT _ _ _ (by omega),yx]
  refine YK C1 C2 hS (cD:=oh) (pt:=pt) (o:=64*i) (p:=u) hsp1 yx (by omega) KJ (by show elems R1 (.sl L8 R.length [] 0 u.length false)=some (bs u);simp only[elems,hlv];simp[live,lL,aE]) rfl ?_
  have Lg:=hR1.cD hm8 rfl
  have Kv:live (R1.set L.s (some ⟨du,[jU 0 (aP oh (64*i) u) pt L.f L.q]⟩)) b=_:=(aA (abh ne)).trans hbR
  have Bq:Fr [b,L.s] R (R1.set L.s (some ⟨du,[jU 0 (aP oh (64*i) u) pt L.f L.q]⟩)):=hFR.set (by simp) _
  generalize R1.set L.s (some ⟨du,[jU 0 (aP oh (64*i) u) pt L.f L.q]⟩)=R2 at*
  have w3:wz (((64*i:Nat):Int)+(u.length:Int))=((64*i+u.length:Nat):Int):=by rw[bh (by omega)];omega
  have w4:wz (((l+1:Nat):Int)-1)=(l:Int):=by rw[bh (by omega)];omega
  have tI:=λx=>aD (y:=x) Kv
  obtain⟨C3,r3⟩:=H.to.r
  by_cases c:l=0
  ·subst c
   simp only[D9,O6,hh4,↓ag,ah,simprocAttr,aK,Kv,tI,hl,Lo,w3,w4,adv,H.to.n,r3]
   refine yE C3 (B:={B with at_:=((64*i+u.length:Nat):Int),left:=0}) (aD Kv) 6 1 ?_
   simp only[↓ag,ah,simprocAttr,aK,adv]
   exact hk _ (Bq.set (by simp) _) (Lg.fr (B:=B) Kv ((Fr.refl _ _).set (by simp) _)) (aD Kv)
  ·have c1:((l:Int)=0)=False:=aaw (by omega)
   simp only[D9,O6,hh4,↓ag,ah,simprocAttr,aK,Kv,tI,hl,Lo,w3,w4,adv,c1]
   rw[aaC c,aaC c]at hk
   exact hk _ (Bq.set (by simp) _) (Lg.fr (B:=B) Kv ((Fr.refl _ _).set (by simp) _)) (aD Kv)
 refine ae rfl ?_
 rw[YZ]
 simp only[cg,og,gX,eT]
 have hM0:=hM
 have hb0:=hb
 obtain⟨l7,hsp,yx,qj,FK,E5⟩:=hM
 simp only[Bp]at l7
 have hsp0:=hsp
 simp only[jU]at hsp
 simp only[cO,ml]at hb
 by_cases c:i=0
 ·subst c
  have Lo:B.at_=0:=Lo
  generalize jt:nY.clr L8 (.raw (u8 0#8)) (.tmp 21)=CL
  simp only[-List.reduceReplicate,↓ag,ah,simprocAttr,aK,l7,hsp,hb,Lo]
  subst jt
  refine clr_go rfl hsp0 yx ?_
  simp only[↓ag,ah,simprocAttr]
  have h8:=ramZ_len yx
  have ne:b≠L.s:=bB hb hsp (by intro h;cases h)
  have hFr:Fr [b,L.s] rows (rows.set L.s (some ⟨du,[jU S.st (Lf S.cD) S.pt L.f L.q]⟩)):=(Fr.refl _ _).set (by simp) _
  exact main _ _ {S with cD:=Lf S.cD} (by simp only[has,↓ag,ah,simprocAttr]) (hM0.cD h8 rfl) rfl hst (by rw[cO,aA (abh ne)];exact hb0) hFr λaa h1 h2 h3=>hk aa (hFr.trans h1) h2 h3
 ·have c1:(((64*i:Nat):Int)=0)=False:=aaw (by omega)
  simp only[-List.reduceReplicate,↓ag,ah,simprocAttr,aK,l7,hsp,hb,Lo,c1]
  rw[aaC c]at hk
  exact main _ _ S (by simp only[has,↓ag,ah,simprocAttr]) hM0 rfl hst hb0 (Fr.refl _ _) hk
structure CkC (C:aU):Prop where
 to:ToC C
 ha:HaC C
 su:C.fn 125=some EU
theorem Rg(C:aU)(H:CkC C){rows:Rows}{L:Ly}{S:zp}{b:Nat}{B:Bt}(z:Nat)(hz:z<=2048)(hM:jd rows L S)(hb:cO rows b B)(xa:B.qh.s=z)(zH:B.qh.dg.length=32){K:D->Rows->Prop}
  (h0:eY (S.cD.take z)≠B.qh.dg->∀aa,Fr [b] rows aa->cO aa b {B with ph:=9,left:=0,e:=16}->K (.raw (.bool true)) aa)
  (h1:eY (S.cD.take z)=B.qh.dg->∀aa,Fr [b] rows aa->cO aa b {B with ph:=7,left:=1}->K (.raw (.bool false)) aa):
  aB C 2 eJ eI [.ptr jN b [0],.ptr fq L.M [0]] rows K:=by
 refine ae rfl ?_
 unfold eI eJ
 have hb0:=hb
 obtain⟨l7,hsp,yx,qj,FK,E5⟩:=hM
 simp only[Bp]at l7
 have hsp0:=hsp
 simp only[jU]at hsp
 simp only[cO,ml]at hb
 have hq:=jr hb
 have hbA:=λL'=>ab hb L'
 have Uz:∀X l,live (rows.set b (some X)++l) b=some X:=hq.2.2.1
 have hF:∀X l,Fr [b] rows (rows.set b X++l):=λX l=>((Fr.refl _ _).set (by simp) _).trans (Fr.app _ _ _)
 have gm:(dw B.qh).get [1]=some (.raw (it (z:Int))):=by rw[<-xa];rfl
 have g3:(dw B.qh).get [3]=some (.agg (.ar 32 L8) (bs B.qh.dg)):=rfl
 have hBs:∀R e,aY (rows++R) (.sl L8 L.s [0,1] 0 z e) (S.cD.take z):=λR e=>by
  have:=aY.at (off:=0) (len:=z) (e:=e) (ab hsp0 R) (n:=8192) (i:=0) (q:=[1]) (l:=S.cD) rfl (by omega)
  rwa [abz]at this
 have kS:∀e k,aG EU (rows++[some ⟨.ref,[.sl L8 L.s [0,1] 0 z e]⟩]) k [.sl .ref rows.length [] 0 1 true]=k (.agg (.ar 32 L8) (bs (eY (S.cD.take z)))) (rows++[some ⟨.ref,[.sl L8 L.s [0,1] 0 z e]⟩]):=λe k=>by
  have:=TL (rows++[some ⟨.ref,[.sl L8 L.s [0,1] 0 z e]⟩]) k rows.length 1 true [.sl L8 L.s [0,1] 0 z e] [S.cD.take z] (a9 rows _) rfl (.cons (hBs _ e) .nil) (by simp) (by simp;omega)
  simpa using this
 have z0:(0:Int)<=(z:Int):=by omega
 have z1:(z:Int)<=8192:=by omega
 have eq:=N4 (eY (S.cD.take z)) B.qh.dg (dk _) zH
 by_cases c:eY (S.cD.take z)=B.qh.dg
 ·rw[abA c]at eq
  obtain⟨C1,r1⟩:=H.to.r
  simp only[↓ag,ah,simprocAttr,aK,l7,hsp,hb,hbA,hq,gm,g3,H.su,kS,z0,z1,acV,eq,H.to.n,r1]
  refine yE C1 (B:=B) (ab hb0 _) 7 1 ?_
  simp only[↓ag,ah,simprocAttr,aK,hq]
  exact h1 c _ (hF _ _) (Uz _ _)
 ·rw[aa7 c]at eq
  obtain⟨C1,r1,hT⟩:=H.ha.r
  simp only[↓ag,ah,simprocAttr,aK,l7,hsp,hb,hbA,hq,gm,g3,H.su,kS,z0,z1,acV,eq,H.ha.n,r1]
  refine MH C1 hT (B:=B) (ab hb0 _) 16 ?_
  simp only[↓ag,ah,simprocAttr,aK,hq]
  exact h0 c _ (hF _ _) (Uz _ _)
def tF(rows:Rows)(d:D)(ls:List (List (BitVec 8))):Prop:=(∃d',view rows 9 d=some d'/\Bi d'=some ls)/\(bb d=false->Bi d=some ls)
theorem tF.nil(rows:Rows):tF rows (.raw (.slice none 0 0)) []:=⟨⟨_,rfl,rfl⟩,λ_=>rfl⟩
theorem tF.sl{rows:Rows}{r n:Nat}{ex:Bool}{l:List D}{ls:List (List (BitVec 8))}(hl:live rows r=some ⟨.ref,l⟩)(hn:l.length=n)(hv:aW (λx y=>aY rows x y) l ls):tF rows (.sl .ref r [] 0 n ex) ls:=by
 obtain⟨l',h1,h2⟩:=sa hv
 have he:elems rows (.sl .ref r [] 0 n ex)=some l:=by simp[elems,hl,<-hn]
 have hvw:view rows 9 (.sl .ref r [] 0 n ex)=some (.dh .ref l' ex):=by
  simp only[view,he,hn,acy,abw,aaK,Sh.pure,h1]
 exact⟨⟨_,hvw,by simpa[Bi]using h2⟩,λh=>by simp[bb]at h⟩
theorem kDer(rows:Rows)(k:D->Rows->Prop)(d e:D)(key:List (BitVec 8))(lab:ByteArray)(ls:List (List (BitVec 8)))(h:aY rows d key)(h':tF rows e ls)(hp:JL key lab ls=true):aG YM rows k [d,.raw (.string lab),e]=k (.agg (.ar 32 L8) (bs (YL key lab ls))) rows:=by
 obtain⟨⟨d',lz,hb⟩,hn⟩:=h
 obtain⟨⟨e',he',hq⟩,hm⟩:=h'
 have e1:∀a b,eP a=some key->Bi b=some ls->YM [a,.raw (.string lab),b] []=some (aV (YL key lab ls),[]):=λa b ha hb=>by
  rw[YM,Ba,ha,hb];simp[rdStr,hp]
 have hsh:shift rows.length (aV (YL key lab ls))=aV (YL key lab ls):=by simp[aV,shift,Sh.pure]
 have hno:cv (aV (YL key lab ls))=true:=by simp[aV,cv,Sh.pure]
 unfold aG
 cases hh:aX [d,.raw (.string lab),e]with
 |true=>
  have hvs:view rows 9 (.raw (.string lab))=some (.raw (.string lab)):=rfl
  simp only[adf,eK,lz,he',hvs,bj,e1 _ _ hb.rd hq,hno,bf,acM,abf,hsh,af,aaS]
  simp[aV]
 |false=>
  simp only[aX,acG,Bool.or_false]at hh
  simp only[adf,bj,e1 _ _ (hn hh.1).rd (hm hh.2.2),hsh,af,aaS]
  simp[aV]
abbrev Lh:=List (Int×List (BitVec 8))
theorem layk_run(C C1:aU)(hC:SlC C1 C){rows:Rows}{r h:Nat}{key:List (BitVec 8)}{l:Lh}(hr:live rows r=some ⟨xc,[gH l]⟩)(hl:l.length=8)(hh:h<8)(hz:(l.getD h (0,[])).1=0){K:D->Rows->Prop}
  (hk:∀aa,(∀q row,live rows q=some row->q≠r->live aa q=some row)->live aa r=some ⟨xc,[gH (l.set h (1,key))]⟩->K (.raw (it 0)) aa):
  aB C 4 jJ jI [.ptr xc r [0],.raw (it (h:Int)),.raw (it 1),.agg (.ar 32 L8) (bs key)] rows K:=by
 obtain⟨nm,rm,nw,C0,Ws⟩:=hC
 refine ae rfl ?_
 unfold jI jJ
 have e0:((0:Int)<=(h:Int))=True:=aas (by omega)
 have e1:((h:Int)<8)=True:=aas (by omega)
 have u7:=λL=>ab hr L
 have Gv:=uV (l:=l) (h:=h) (by omega)
 have hg:l.getD h (0,[])=l[h]'(by omega):=by simp[List.getD,(by omega:h<l.length)]
 rw[hg]at hz
 rw[hz]at Gv
 have KC:=YV l
 have hst:=JV (l:=l) (h:=h) (by omega) (1,key)
 have hlt:=aR hr
 simp only[↓ag,ah,simprocAttr,aK,nm,rm]
 refine Oz (q:=rows.length+1) C1 C0 (u7 _) (by rw[bg];rfl) hl hh nw Ws ?_
 have k0:live (rows++[some ⟨.ar 32 L8,[.agg (.ar 32 L8) (bs key)]⟩,some ⟨LI,[.raw (it (h:Int))]⟩]) rows.length=some ⟨.ar 32 L8,[.agg (.ar 32 L8) (bs key)]⟩:=by rw[a9];rfl
 have cw:mL [gH l] [0,0,h] (.agg SPl [.raw (it 1),.agg (.ar 32 L8) (bs key)])=some [gH (l.set h (1,key))]:=hst
 simp only[↓ag,ah,simprocAttr,aK,u7,Gv,e0,e1,KC,k0,cw]
 refine hk _ ?_ ?_
 ·intro q row hq hne
  rw[aA (abh hne)]
  exact ab hq _
 ·exact aD (u7 _)
theorem may2_run(C C1:aU){rows:Rows}{r q:Nat}{ex:Bool}{l:Lh}(hr:live rows r=some ⟨xc,[gH l]⟩)(hq:live rows q=some ⟨LI,[.raw (it 0),.raw (it 1)]⟩)(hl:l.length=8)
  (nw:C.fn 274=none)(Ws:C.cV 274=some (aB C1 2 cS cR)){K:D->Rows->Prop}(hk:K (.raw (it 0)) rows):
  aB C 2 fG fF [.ptr xc r [0],.sl LI q [] 0 2 ex] rows K:=by
 refine ae rfl ?_
 unfold fF fG
 have hd:=MG l
 simp only[↓ag,ah,simprocAttr,aK,hr,hd]
 refine dQ 3 ?_
 simp only[↓ag,ah,simprocAttr,aK,hr,hq,hd,ii,nw,Ws,cR,cS]
 exact hk
theorem kind_run(C C1:aU)(hC:SlC C1 C){rows:Rows}{r:Nat}{l:Lh}(hr:live rows r=some ⟨xc,[gH l]⟩)(hl:l.length=8){K:D->Rows->Prop}(hk:K (.raw (it (l[0]'(by omega)).1)) (rows++[some ⟨LI,[.raw (it 0)]⟩])):
  aB C 2 ja iZ [.ptr xc r [0],.raw (it 0)] rows K:=by
 obtain⟨nm,rm,nw,C0,Ws⟩:=hC
 refine ae rfl ?_
 unfold iZ ja
 have u7:=λL=>ab hr L
 have Gv:=uV (l:=l) (h:=0) (by omega)
 simp only[↓ag,ah,simprocAttr,aK,nm,rm]
 refine Oz (q:=rows.length) C1 C0 (h:=0) (u7 [some ⟨LI,[.raw (it 0)]⟩]) (a9 rows [some ⟨LI,[.raw (it 0)]⟩]) hl (by omega) nw Ws ?_
 simp only[↓ag,ah,simprocAttr,aK,u7,Gv]
 exact hk
structure WpC (C C1 C2:aU):Prop where
 n0:C.fn 258=none
 r0:C.cV 258=some (aB C1 2 ja iZ)
 sl:SlC C2 C1
theorem wipe_run(C C1 C2:aU)(H:WpC C C1 C2){rows:Rows}{r q:Nat}{ex:Bool}{l:Lh}(hr:live rows r=some ⟨xc,[gH l]⟩)(hq:live rows q=some ⟨LI,[.raw (it 0)]⟩)(hl:l.length=8)(hn:(l.getD 0 (0,[])).1≠0){K:D->Rows->Prop}
  (hk:∀aa,(∀q row,live rows q=some row->q≠r->live aa q=some row)->live aa r=some ⟨xc,[gH (l.set 0 (0,sO))]⟩->K (.raw (it 1)) aa):
  aB C 2 iU iT [.ptr xc r [0],.sl LI q [] 0 1 ex] rows K:=by
 obtain⟨n0,r0,nm,rm,nw,C0,Ws⟩:=H
 refine ae rfl ?_
 unfold iT iU
 simp only[eu]
 have u7:=λL=>ab hr L
 have hq':=λL=>ab hq L
 have Gv:=uV (l:=l) (h:=0) (by omega)
 have hg:l.getD 0 (0,[])=l[0]'(by omega):=by simp[List.getD,(by omega:0<l.length)]
 rw[hg]at hn
 have Nd:((l[0]'(by omega)).1=0)=False:=aaw hn
 have hst:mL [gH l] [0,0,0] (.agg SPl [.raw (it 0),.agg (.ar 32 L8) (bs sO)])=some [gH (l.set 0 (0,sO))]:=JV (l:=l) (h:=0) (by omega) (0,sO)
 simp only[↓ag,ah,simprocAttr,aK,hr]
 refine dQ 2 ?_
 simp only[↓ag,ah,simprocAttr,aK,hr,hq,n0,r0]
 refine kind_run C1 C2 ⟨nm,rm,nw,C0,Ws⟩ hr hl ?_
 simp only[↓ag,ah,simprocAttr,aK,u7,hq',Gv,Nd,hst]
 refine hk _ ?_ (aD (u7 _))
 intro q row hq hne
 rw[aA (abh hne)]
 exact ab hq _
structure DeC (C C1 C2:aU):Prop where
 sl:SlC C2 C
 k0:C.fn 256=none
 k1:C.cV 256=some (aB C1 2 gO gN)
 sk:∃C3,SlC C3 C1
 de:C.fn 257=some YM
theorem UD(C C1 C2:aU)(H:DeC C C1 C2){rows:Rows}{r:Nat}{l:Lh}{lab:ByteArray}{d:D}{ls:List (List (BitVec 8))}(hr:live rows r=some ⟨xc,[gH l]⟩)(hl:l.length=8)(hn:(l.getD 0 (0,[])).1≠0)(hk32:(l.getD 0 (0,[])).2.length=32)(hz:(l.getD 1 (0,[])).1=0)
  (hd:∀aa,Kept rows aa->tF aa d ls)(hpre:JL (l.getD 0 (0,[])).2 lab ls=true){K:D->Rows->Prop}
  (hk:∀aa p,(∀q row,live rows q=some row->q≠r->live aa q=some row)->live aa r=some ⟨xc,[gH (l.set 1 p)]⟩->K (.raw (it 0)) aa):
  aB C 5 gD gC [.ptr xc r [0],.raw (it 0),.raw (it 1),.raw (.string lab),d] rows K:=by
 obtain⟨⟨nm,rm,nw,C0,Ws⟩,k0,k1,⟨C3,sk⟩,de⟩:=H
 refine ae rfl ?_
 unfold gC gD
 simp only[eu]
 have hr1:=ab hr [some ⟨LI,[.raw (it 0),.raw (it 1)]⟩]
 have hF1:Kept rows (rows++[some ⟨LI,[.raw (it 0),.raw (it 1)]⟩]):=Kept.app _ _
 have Gv:=uV (l:=l) (h:=1) (by omega)
 have hg:l.getD 1 (0,[])=l[1]'(by omega):=by simp[List.getD,(by omega:1<l.length)]
 rw[hg]at hz
 rw[hz]at Gv
 simp only[↓ag,ah,simprocAttr,aK,nm,rm]
 refine may2_run (q:=rows.length) C2 C0 hr1 (a9 rows [some ⟨LI,[.raw (it 0),.raw (it 1)]⟩]) hl nw Ws ?_
 simp only[↓ag,ah,simprocAttr,aK,k0,k1]
 refine key_run C1 C3 sk (h:=0) hr1 hl (by omega) λaa hK=>?_
 rw[aa7 hn]
 have YP:=hK _ _ hr1
 have Bq:=hF1.trans hK
 have hB:aY aa (.sl L8 r [0,0,0,1] 0 32 true) (l.getD 0 (0,[])).2:=by
  have Sw:l.getD 0 (0,[])=l[0]'(by omega):=by simp[List.getD,(by omega:0<l.length)]
  refine aY.uL YP (n:=32) (i:=0) (q:=[0,0,1]) ?_ hk32
  have:=slot_key (l:=l) (h:=0) (by omega)
  rw[Sw]
  exact this
 have kD:=λk=>kDer aa k _ d _ lab ls hB (hd _ Bq) hpre
 have hst:∀p,mL [gH l] [0,0,1] (.agg SPl [.raw (it 2),.agg (.ar 32 L8) (bs p)])=some [gH (l.set 1 (2,p))]:=λp=>JV (l:=l) (h:=1) (by omega) (2,p)
 simp only[↓ag,ah,simprocAttr,aK,YP,Gv,de,kD,hst]
 refine hk _ _ ?_ (aD YP)
 intro q row hq hne
 rw[aA (abh hne)]
 exact Bq q row hq
noncomputable def Wt:Fn:=nv (cj jm) Wp λr=>(aV (eY r.flatten),[])
theorem mdig_ok(C:aU)(hC:aI C P)(h1:C.fn 254=some JU)(h2:C.fn 125=some EU):aQ C.aZ P 225 (Fn.run Wt):=by
 refine aJ (A9 C hC) λds rows r h=>?_
 obtain⟨d,R,rfl,rfl,hd,hp,rfl⟩:=bd h
 cases aH hd
 refine⟨rfl,ae rfl ?_⟩
 clear h hd
 unfold rY rZ
 simp only[eu]
 have hf:(jm R).fits SMea=true:=by simp[jm,D.fits]
 have kT:=λrows k=>kMText rows k R hp
 simp only[↓ag,ah,simprocAttr,aK,hf,h1,kT,h2,jm]
 refine Eq.mpr (TL _ _ 3 1 true [.sl L8 2 [] 0 128 false] [R.flatten] rfl rfl (.cons (aY.own (l:=R.flatten) rfl _ (JR hp).symm) .nil) (by simp) (by simp[JR hp])) ?_
 have hS:[R.flatten].flatten=R.flatten:=by simp
 simp only[↓ag,ah,simprocAttr,aK,hS]
 exact .val _ rfl
theorem kMDig(rows:Rows)(k:D->Rows->Prop)(r:List (List (BitVec 8)))(h:Wp r=true):aG Wt rows k [jm r]=k (.agg (.ar 32 L8) (bs (eY r.flatten))) rows:=by
 refine(cL (MF r rows) h (by simp[aV,cv,bf,Sh.pure]) k).trans ?_
 simp[shift,af,aV,Sh.pure]
noncomputable def UE:Fn:=fAt [.raw (it 0)] (.cd [.raw (it 27),.raw (it 0)])
theorem ato_ok(C:aU)(hC:aI C P):aQ C.aZ P 205 (Fn.run UE):=by
 refine JI (m_otp_at C hC) (ae rfl ?_)
 unfold Ql Qm
 simp only[↓ag,ah,simprocAttr,aK]
 exact .val _ rfl
def OB(c:pj):List (BitVec 8)×Int:=
 bif c.s then(sO,12)else bif Ym (c.w.getD 35 0#32) 1 then(sO,17)else bif Ym (c.w.getD 35 0#32) 0 then(mo ((c.w.drop 27).take 8),0)else(sO,3)
theorem rowC_len(c:pj)(h:c.ws.length=64):(OB c).1.length=32:=by
 have h1:c.w.length=64:=by rw[aaA,h]
 unfold OB
 cases c.s<;>cases Ym (c.w.getD 35 0#32) 1<;>cases Ym (c.w.getD 35 0#32) 0<;>simp only[aaU,aaK]<;>first|rfl|(rw[pN,aau,aat,h1];rfl)
noncomputable def Wu:Fn:=zy (cj tS) u9 (λc i=>decide (c.ws.length=64)&&decide (i=0)) λc _=>(.cd [aV (OB c).1,.raw (it (OB c).2)],[])
theorem rowc_ok(C:aU)(hC:aI C P)(h1:C.fn 65=some Dn)(h2:C.fn 205=some UE)(h3:C.fn 128=some fOn)(h4:C.fn 192=some Di):aQ C.aZ P 224 (Fn.run Wu):=by
 refine aJ (IW C hC) λds rows r h=>?_
 obtain⟨d,e,c,i,rfl,rfl,hd,he,hp,rfl⟩:=dS h
 cases aH hd
 cases bX he
 simp only[aan,aaq]at hp
 obtain⟨hp,rfl⟩:=hp
 refine⟨rfl,ae rfl ?_⟩
 clear h hd he
 unfold x7 x8
 have hm:c.w.length=64:=by rw[aaA,hp]
 have kA:=λrows k=>Mp rows k c hp
 have kT:=λrows k=>kAt [.raw (it 0)] (.cd [.raw (it 27),.raw (it 0)]) rfl rfl rows k rfl
 have kO0:∀rows k,aG fOn rows k [.raw (u32 (c.w.getD 35 0#32)),.raw (it 0)]=k (.raw (.bool (Ym (c.w.getD 35 0#32) 0))) rows:=λrows k=>kOn rows k (c.w.getD 35 0#32) 0 (by omega)
 have kO1:∀rows k,aG fOn rows k [.raw (u32 (c.w.getD 35 0#32)),.raw (it 1)]=k (.raw (.bool (Ym (c.w.getD 35 0#32) 1))) rows:=λrows k=>kOn rows k (c.w.getD 35 0#32) 1 (by omega)
 have nb:Np (tS c) (.raw (.pointer none))=some false:=rfl
 have g35:=lM (l:=c.w) (i:=35) (by omega)
 have Wv:((us c.w).drop 27).take 8=us ((c.w.drop 27).take 8):=by rw[VQ,VS]
 have kD:=λrows k=>VF rows k ((c.w.drop 27).take 8) (by rw[aau,aat,hm];rfl)
 simp only[eu]
 unfold OB
 simp only[tS]at kA nb⊢
 cases hs:c.s
 ·rw[hs]at kA nb
  cases ho1:Ym (c.w.getD 35 0#32) 1
  ·rw[ho1]at kO1
   cases ho0:Ym (c.w.getD 35 0#32) 0
   ·rw[ho0]at kO0
    simp only[↓ag,ah,simprocAttr,aK,h1,h2,h3,h4,kA,UE,kT,nb,kO0,kO1,g35]
    exact .val _ rfl
   ·rw[ho0]at kO0
    simp only[↓ag,ah,simprocAttr,aK,h1,h2,h3,h4,kA,UE,kT,nb,kO0,kO1,g35,Wv,kD]
    exact⟨by simp[us];omega,.val _ rfl⟩
  ·rw[ho1]at kO1
   simp only[↓ag,ah,simprocAttr,aK,h1,h2,h3,h4,kA,UE,kT,nb,kO1,g35]
   exact .val _ rfl
 ·rw[hs]at kA nb
  simp only[↓ag,ah,simprocAttr,aK,h1,h2,h3,h4,kA,UE,kT,nb]
  exact .val _ rfl
theorem kRowC{rows:Rows}{d:D}{c:pj}(h:bY rows (cj tS) d c)(hc:c.ws.length=64)(k:D->Rows->Prop):aG Wu rows k [d,.raw (it 0)]=k (.cd [.agg (.ar 32 L8) (bs (OB c).1),.raw (it (OB c).2)]) rows:=by
 refine(lY h (bY.int 0) (by simp[hc]) (by simp[aV,cv,lc,bf,Sh.pure]) k).trans ?_
 simp[shift,bD,af,aV,Sh.pure]
def gI(a:BitVec 32):D:= .agg DI [.agg (.ar 32 cN) (us (List.replicate 32 0#32)),.raw (u32 a),.agg (.cons cN (.cons cN (.cons cN (.cons cN (.cons cN (.cons cN (.cons cN (.cons cN .nil)))))))) (us (List.replicate 8 0#32)),.raw (.bool false)]
noncomputable def Fl:Fn:=nv ry (λ_=>true) λa=>(gI a,[])
theorem coren_ok(C:aU)(hC:aI C P):aQ C.aZ P 11 (Fn.run Fl):=by
 refine aJ (Td C hC) λds rows r h=>?_
 obtain⟨d,a,rfl,rfl,hd,hp,rfl⟩:=bd h
 cases dY hd
 refine⟨rfl,ae rfl ?_⟩
 clear h hd
 unfold Im Io
 simp only[↓ag,ah,simprocAttr,aK]
 exact .val _ rfl
theorem UF(rows:Rows)(k:D->Rows->Prop)(a:BitVec 32):aG Fl rows k [.raw (u32 a)]=k (gI a) rows:=by
 refine(bk rfl (fa (fL a) rfl)).trans ?_
 simp[gI,shift,af,Sh.pure]
abbrev SCs:Sh:= .cons cN (.cons cN (.cons cN (.cons cN (.cons cN (.cons cN (.cons cN (.cons cN .nil)))))))
abbrev SEv:Sh:= .cons LB (.cons cN (.cons SIn (.cons cN (.cons .ref .nil))))
structure qH where
 x1:BitVec 32
 x2:BitVec 32
 pc:BitVec 32
 cy:BitVec 32
def eO(c:qH):D:= .agg DI [.agg (.ar 32 cN) (us (0#32::c.x1::c.x2::List.replicate 29 0#32)),.raw (u32 c.pc),.agg SCs [.raw (u32 0#32),.raw (u32 0#32),.raw (u32 0#32),.raw (u32 0#32),.raw (u32 0#32),.raw (u32 0#32),.raw (u32 0#32),.raw (u32 c.cy)],.raw (.bool false)]
theorem MI(a:BitVec 32):gI a=eO ⟨0#32,0#32,a,0#32⟩:=rfl
theorem G4:D.agg DI [.agg (.ar 32 cN) (List.replicate 32 (.raw (u32 0#32))),.raw (u32 0#32),.agg SCs [.raw (u32 0#32),.raw (u32 0#32),.raw (u32 0#32),.raw (u32 0#32),.raw (u32 0#32),.raw (u32 0#32),.raw (u32 0#32),.raw (u32 0#32)],.raw (.bool false)]=eO ⟨0#32,0#32,0#32,0#32⟩:=rfl
theorem JY(x y:qH)(h:eO x=eO y):x=y:=by
 obtain⟨a1,a2,a3,a4⟩:=x
 obtain⟨b1,b2,b3,b4⟩:=y
 unfold eO at h
 injection h with _ h
 injection h with h1 h
 injection h with h2 h
 injection h with h3 _
 injection h1 with _ h1
 injection h1 with _ h1
 injection h1 with h4 h1
 injection h1 with h5 _
 injection h2 with h2
 injection h4 with h4
 injection h5 with h5
 injection h3 with _ h3
 injection h3 with _ h3
 injection h3 with _ h3
 injection h3 with _ h3
 injection h3 with _ h3
 injection h3 with _ h3
 injection h3 with _ h3
 injection h3 with _ h3
 injection h3 with h3 _
 injection h3 with h3
 have:=Go.Am.lV.1 h2
 have:=Go.Am.lV.1 h3
 have:=Go.Am.lV.1 h4
 have:=Go.Am.lV.1 h5
 subst_vars
 rfl
theorem Ww(x y:In)(h:El x=El y):x=y:=by
 obtain⟨a1,a2,a3,a4,a5⟩:=x
 obtain⟨b1,b2,b3,b4,b5⟩:=y
 unfold El at h
 injection h with _ h
 injection h with h1 h
 injection h with h2 h
 injection h with h3 h
 injection h with h4 h
 injection h with h5 _
 injection h1 with h1
 injection h2 with h2
 injection h3 with h3
 injection h4 with h4
 injection h5 with h5
 have:=Go.Am.AQ.1 h1
 have:=Go.Am.AQ.1 h2
 have:=Go.Am.AQ.1 h3
 have:=Go.Am.AQ.1 h4
 have:=Go.Am.lV.1 h5
 subst_vars
 rfl
theorem sx(c:qH):(eO c).fits DI=true:=rfl
theorem JZ(i:In):(El i).fits SIn=true:=rfl
theorem DJ(c:qH):(eO c).get [1]=some (.raw (u32 c.pc)):=rfl
theorem co_gc(c:qH):(eO c).get [2,7]=some (.raw (u32 c.cy)):=rfl
theorem Wx(c:qH):(eO c).get [0,0]=some (.raw (u32 0#32)):=rfl
theorem co_g1(c:qH):(eO c).get [0,1]=some (.raw (u32 c.x1)):=rfl
theorem co_g2(c:qH):(eO c).get [0,2]=some (.raw (u32 c.x2)):=rfl
theorem co_sp(c:qH)(v:BitVec 32):(eO c).set [1] (.raw (u32 v))=some (eO {c with pc:=v}):=rfl
theorem co_sc(c:qH)(v:BitVec 32):(eO c).set [2,7] (.raw (u32 v))=some (eO {c with cy:=v}):=rfl
theorem co_s1(c:qH)(v:BitVec 32):(eO c).set [0,1] (.raw (u32 v))=some (eO {c with x1:=v}):=rfl
theorem co_s2(c:qH)(v:BitVec 32):(eO c).set [0,2] (.raw (u32 v))=some (eO {c with x2:=v}):=rfl
theorem co_st(c:qH):(eO c).set [3] (.raw (.bool false))=some (eO c):=rfl
theorem MJ(i:In):(El i).get [0]=some (.raw (u8 i.op)):=rfl
theorem MK(i:In):(El i).get [1]=some (.raw (u8 i.rd)):=rfl
theorem ML(i:In):(El i).get [2]=some (.raw (u8 i.a)):=rfl
theorem MM(i:In):(El i).get [3]=some (.raw (u8 i.b)):=rfl
theorem MN(i:In):(El i).get [4]=some (.raw (u32 i.im)):=rfl
def G5(t:Bool)(c:BitVec 32)(i:In)(a:BitVec 32)(w:D):D:= .agg SEv [.raw (.bool t),.raw (u32 c),El i,.raw (u32 a),w]
def noI:In:=⟨0#8,0#8,0#8,0#8,0#32⟩
abbrev ir:D:= .raw (.slice none 0 0)
theorem inZ:D.agg SIn [.raw (u8 0#8),.raw (u8 0#8),.raw (u8 0#8),.raw (u8 0#8),.raw (u32 0#32),.raw (u16 0#16)]=El noI:=rfl
theorem evZ:D.agg SEv [.raw (.bool false),.raw (u32 0#32),El noI,.raw (u32 0#32),ir]=G5 false 0#32 noI 0#32 ir:=rfl
theorem DL(t c i a w):(G5 t c i a w).fits SEv=true:=rfl
def qH.put(c:qH)(i:Nat)(v:BitVec 32):qH:=if i=1 then{c with x1:=v}else if i=2 then{c with x2:=v}else c
def mkWi(a:qH×Nat×BitVec 32):List D:=[eO a.1,.raw (it (a.2.1:Int)),.raw (u32 a.2.2)]
theorem mkWi_inj(x y:qH×Nat×BitVec 32)(h:mkWi x=mkWi y):x=y:=by
 unfold mkWi at h
 injection h with h1 h
 injection h with h2 h
 injection h with h3 _
 injection h3 with h3
 exact adp (JY _ _ h1) (adp (tB h2) (Go.Am.lV.1 h3))
noncomputable def DM:Fn:=QX mkWi (λa=>decide (a.2.1<=2)) λa=>eO (a.1.put a.2.1 a.2.2)
theorem with_ok(C:aU)(hC:aI C P):aQ C.aZ P 105 (Fn.run DM):=by
 refine gQ (Ey C hC) λx hx=>ae rfl ?_
 obtain⟨c,i,v⟩:=x
 unfold uw ux mkWi
 simp only[-List.reduceReplicate,G4]
 have hi:i=0\/i=1\/i=2:=by have:=acs hx;simp only at this;omega
 rcases hi with rfl|rfl|rfl<;>simp only[↓ag,ah,simprocAttr,aK,sx,co_s1,co_s2,acv,aby,aca]<;>exact .val _ rfl
theorem Wy(rows:Rows)(c:qH)(i:Nat)(v:BitVec 32)(h:i<=2)(k:D->Rows->Prop):aG DM rows k [eO c,.raw (it (i:Int)),.raw (u32 v)]=k (eO (c.put i v)) rows:=uT (out:=λa:qH×Nat×BitVec 32=>eO (a.1.put a.2.1 a.2.2)) mkWi_inj (c,i,v) (by simpa using h) rfl rows k rfl
def qH.nx(c:qH):qH:={c with pc:=c.pc+4#32,cy:=c.cy+1#32}
def mkNx(a:qH×In):List D:=[eO a.1,El a.2]
theorem mkNx_inj(x y:qH×In)(h:mkNx x=mkNx y):x=y:=by
 unfold mkNx at h
 injection h with h1 h
 injection h with h2 _
 exact adp (JY _ _ h1) (Ww _ _ h2)
noncomputable def Gk:Fn:=QX mkNx (λ_=>true) λa=> .cd [eO a.1.nx,G5 false 0#32 a.2 0#32 ir]
theorem next_ok3(C:aU)(hC:aI C P):aQ C.aZ P 106 (Fn.run Gk):=by
 refine gQ (Ez C hC) λx hx=>ae rfl ?_
 obtain⟨c,i⟩:=x
 unfold uy uz mkNx
 simp only[-List.reduceReplicate,G4]
 simp only[↓ag,ah,simprocAttr,aK,sx,JZ,DJ,co_gc,co_sp,co_sc]
 exact .val _ rfl
theorem Wz(rows:Rows)(c:qH)(i:In)(k:D->Rows->Prop):aG Gk rows k [eO c,El i]=k (.cd [eO c.nx,G5 false 0#32 i 0#32 ir]) rows:=uT (out:=λa:qH×In=> .cd [eO a.1.nx,G5 false 0#32 a.2 0#32 ir]) mkNx_inj (c,i) rfl rfl rows k rfl
def mkJ(a:qH×In×BitVec 32):List D:=[eO a.1,El a.2.1,.raw (u32 a.2.2)]
theorem mkJ_inj(x y:qH×In×BitVec 32)(h:mkJ x=mkJ y):x=y:=by
 unfold mkJ at h
 injection h with h1 h
 injection h with h2 h
 injection h with h3 _
 injection h3 with h3
 exact adp (JY _ _ h1) (adp (Ww _ _ h2) (Go.Am.lV.1 h3))
def qH.to(c:qH)(a:BitVec 32):qH:={c with pc:=a,cy:=c.cy+1#32}
noncomputable def Rh:Fn:=QX mkJ (λa=>decide (a.2.1.rd=0#8)&&decide (a.2.2 %4#32=0#32)) λa=> .cd [eO (a.1.to a.2.2),G5 false 0#32 a.2.1 0#32 ir]
theorem jump_ok(C:aU)(hC:aI C P)(h1:C.fn 105=some DM):aQ C.aZ P 107 (Fn.run Rh):=by
 refine gQ (EA C hC) λx hx=>ae rfl ?_
 obtain⟨c,i,a⟩:=x
 unfold uA uB mkJ
 simp only[aan,aaq]at hx
 obtain⟨hr,ha⟩:=hx
 have kW:∀rows v k,aG DM rows k [eO c,.raw (it 0),.raw (u32 v)]=k (eO c) rows:=λrows v k=>Wy rows c 0 v (by decide) k
 simp only[-List.reduceReplicate,G4]
 simp only[↓ag,ah,simprocAttr,aK,sx,JZ,DJ,co_gc,co_sp,co_sc,MK,hr,ha,h1,kW]
 exact .val _ rfl
theorem kJump(rows:Rows)(c:qH)(i:In)(a:BitVec 32)(hr:i.rd=0#8)(ha:a %4#32=0#32)(k:D->Rows->Prop):aG Rh rows k [eO c,El i,.raw (u32 a)]=k (.cd [eO (c.to a),G5 false 0#32 i 0#32 ir]) rows:=uT (out:=λa:qH×In×BitVec 32=> .cd [eO (a.1.to a.2.2),G5 false 0#32 a.2.1 0#32 ir]) mkJ_inj (c,i,a) (by simp[hr,ha]) rfl rows k rfl
structure CdoC (C:aU):Prop where
 wi:C.fn 105=some DM
 nx:C.fn 106=some Gk
 ju:C.fn 107=some Rh
 a0:C.fn 113=none
 a1:∃C1 C2,C.cV 113=some (aB C1 3 xU xT)/\C1.fn 174=none/\C1.cV 174=some (aB C2 1 uG uF)
def qH.doS(c:qH)(i:In):qH:=if i.op=1#8 then(c.put i.rd.toNat i.im).nx else if i.op=19#8 then(c.put i.rd.toNat (0#32+i.im)).nx else c.to (c.pc+i.im)
theorem cdo_run(C:aU)(H:CdoC C){rows:Rows}{s:D}{c:qH}(w w':BitVec 32)(hw:w'=1073742007#32\/w'=109052179#32\/w'=110100755#32\/w'=111#32)(hp:c.pc %4#32=0#32)(hs:s.fits .ref=true){K:D->Rows->Prop}
  (hk:∀R,K (.cd [eO (c.doS (vT w')),G5 false 0#32 (vT w') 0#32 ir]) (rows++R)):aB C 4 fO fN [eO c,s,El (vT w'),.raw (u32 w)] rows K:=by
 refine ae rfl ?_
 unfold fN fO
 obtain⟨A1,A2,a1,a2,a3⟩:=H.a1
 simp only[-List.reduceReplicate,G4,inZ,evZ]
 have h0:0#32+0#32=0#32:=rfl
 have hz:c.pc+0#32=c.pc:=BitVec.add_zero _
 rcases hw with rfl|rfl|rfl|rfl
 ·have kW:∀rows k,aG DM rows k [eO c,.raw (it 1),.raw (u32 1073741824#32)]=k (eO (c.put 1 1073741824#32)) rows:=λrows k=>Wy rows c 1 _ (by decide) k
  have kN:∀rows k,aG Gk rows k [eO (c.put 1 1073741824#32),El (vT 1073742007#32)]=_:=λrows k=>Wz rows _ _ k
  have e:vT 1073742007#32=⟨1#8,1#8,0#8,0#8,1073741824#32⟩:=rfl
  rw[e]at kN hk⊢
  have e2:c.doS ⟨1#8,1#8,0#8,0#8,1073741824#32⟩=(c.put 1 1073741824#32).nx:=rfl
  rw[e2]at hk
  simp only[↓ag,ah,simprocAttr,aK,sx,JZ,DL,MJ,MK,ML,MM,MN,Wx,H.wi,kW,H.nx,kN]
  exact hk _
 ·have kW:∀rows k,aG DM rows k [eO c,.raw (it 2),.raw (u32 104#32)]=k (eO (c.put 2 104#32)) rows:=λrows k=>Wy rows c 2 _ (by decide) k
  have kN:∀rows k,aG Gk rows k [eO (c.put 2 104#32),El (vT 109052179#32)]=_:=λrows k=>Wz rows _ _ k
  have e:vT 109052179#32=⟨19#8,2#8,0#8,0#8,104#32⟩:=rfl
  rw[e]at kN hk⊢
  have e2:c.doS ⟨19#8,2#8,0#8,0#8,104#32⟩=(c.put 2 104#32).nx:=rfl
  rw[e2]at hk
  simp only[↓ag,ah,simprocAttr,aK,BitVec.reduceAdd,BitVec.reduceLE,BitVec.reduceLT,sx,JZ,DL,MJ,MK,ML,MM,MN,Wx,H.wi,kW,H.nx,kN,H.a0,a1,a2,a3,ii,xT,xU,uF,uG]
  exact hk _
 ·have kW:∀rows k,aG DM rows k [eO c,.raw (it 2),.raw (u32 105#32)]=k (eO (c.put 2 105#32)) rows:=λrows k=>Wy rows c 2 _ (by decide) k
  have kN:∀rows k,aG Gk rows k [eO (c.put 2 105#32),El (vT 110100755#32)]=_:=λrows k=>Wz rows _ _ k
  have e:vT 110100755#32=⟨19#8,2#8,0#8,0#8,105#32⟩:=rfl
  rw[e]at kN hk⊢
  have e2:c.doS ⟨19#8,2#8,0#8,0#8,105#32⟩=(c.put 2 105#32).nx:=rfl
  rw[e2]at hk
  simp only[↓ag,ah,simprocAttr,aK,BitVec.reduceAdd,BitVec.reduceLE,BitVec.reduceLT,sx,JZ,DL,MJ,MK,ML,MM,MN,Wx,H.wi,kW,H.nx,kN,H.a0,a1,a2,a3,ii,xT,xU,uF,uG]
  exact hk _
 ·have e:vT 111#32=⟨3#8,0#8,0#8,0#8,0#32⟩:=rfl
  rw[e]at hk⊢
  have kJ:∀rows k,aG Rh rows k [eO c,El ⟨3#8,0#8,0#8,0#8,0#32⟩,.raw (u32 c.pc)]=_:=λrows k=>kJump rows c _ _ rfl hp k
  have e2:c.doS ⟨3#8,0#8,0#8,0#8,0#32⟩=c.to c.pc:=by
   show c.to (c.pc+0#32)=_
   rw[hz]
  rw[e2]at hk
  simp only[↓ag,ah,simprocAttr,aK,sx,JZ,DL,MJ,MK,ML,MM,MN,Wx,DJ,hz,H.ju,kJ]
  exact hk _
theorem Ri(x:BitVec 32):(bU x).1≠0->(bU x).2<(qx (bU x).1).2/\(bU x).1<=5:=by
 have h:∀(l:List (BitVec 32×Nat)) (k:Nat),(∀i,i<l.length->jk[k+i]?=l[i]?)->(mT x l k).1≠0->(mT x l k).2<(qx (mT x l k).1).2/\(mT x l k).1<k+l.length:=by
  intro l
  induction l with
  |nil=>intro k _ h;exact absurd rfl h
  | cons s l ih =>
   intro k hk h
   rw[mT]at h⊢
   by_cases c:Dy x s=true
   ·rw[aaJ c]at h⊢
    have h0:=hk 0 (by simp)
    have e:qx k=s:=by
     have EZ:jk[k]?=some s:=h0
     rw[qx,aay,EZ];rfl
    refine⟨?_,by simp⟩
    show(x-s.1).toNat<(qx k).2
    rw[e]
    simp only[Dy,aan,aaq]at c
    exact c.2
   ·rw[aaC c]at h⊢
    have:=ih (k+1) (λi hi=>by have:=hk (i+1) (by simpa using hi);rw[show k+1+i=k+(i+1) by omega];exact this) h
    exact⟨this.1,by have:=this.2;simp only[aaP];omega⟩
 intro hx
 have:=h jk 0 (λi _=>by rw[abk]) hx
 exact⟨this.1,by have h2:(mT x jk 0).1<0+6:=this.2;have:(bU x).1=(mT x jk 0).1:=rfl;omega⟩
theorem vW(C:aU)(H:WiC C){rows:Rows}{s f c st who:Nat}{cD:List (BitVec 8)}{pt:D}{x:BitVec 32}{w:Bool}(hs:live rows s=some ⟨du,[jU (st:Int) cD pt f c]⟩)(hp:Dz ⟨who,st,x,1,w,false⟩=true){K:D->Rows->Prop}(hk:K (G1 ⟨who,st,x,1,w,false⟩) rows):
  aB C 5 cY cW [.ptr du s [0],.raw (it (who:Int)),.raw (u32 x),.raw (it 1),.raw (.bool w)] rows K:=by
 refine ae rfl ?_
 unfold cW cY
 have k1:=λrows k=>kChk rows ⟨who,st,x,1,w,false⟩ hp k
 have hl:=Ri x
 simp only[Uj,acv]at k1
 simp only[jU]at hs
 by_cases c:(pS ⟨who,st,x,1,w,false⟩).2.2=0
 ·have hr:(bU x).1≠0:=λh=>by
   unfold pS at c
   rw[aaJ h]at c
   exact absurd c (by decide)
  obtain⟨h1,h2⟩:=hl hr
  have e:pS ⟨who,st,x,1,w,false⟩=((bU x).1,(bU x).2,0):=by
   unfold pS at c⊢
   rw[aaC hr]at c⊢
   split at c
   ·rename_i h;rw[aaJ h]
   ·exact absurd c (by decide)
  have k2:=λrows k=>kBase rows (bU x).1 ⟨by omega,h2⟩ k
  rw[G1,e]at k1 hk
  have e1:wz (((qx (bU x).1).2:Int)-((bU x).2:Int))=((qx (bU x).1).2:Int)-((bU x).2:Int):=by
   have hb:(qx (bU x).1).2<=10240:=by
    have:∀r:Fin 6,(qx r.1).2<=10240:=by decide
    exact this ⟨(bU x).1,Nat.lt_succ_of_le h2⟩
   exact bh (by omega)
  have e2:(((qx (bU x).1).2:Int)-((bU x).2:Int)<1)=False:=aaw (by omega)
  simp only[aca,acP]at k1 hk
  simp only[↓ag,ah,simprocAttr,hs,H.ck,H.ba,k1,k2,e1,e2]
  exact hk
 ·have e:(pS ⟨who,st,x,1,w,false⟩).1=0/\(pS ⟨who,st,x,1,w,false⟩).2.1=0:=by
   unfold pS at c⊢
   split
   ·exact⟨rfl,rfl⟩
   ·rename_i h
    rw[aaC h]at c
    split
    ·rename_i h';rw[aaJ h']at c;exact absurd rfl c
    ·exact⟨rfl,rfl⟩
  have e0:(((pS ⟨who,st,x,1,w,false⟩).2.2:Int)=0)=False:=aaw (by omega)
  rw[G1,e.1,e.2]at k1 hk
  simp only[aca,acP]at k1 hk
  simp only[↓ag,ah,simprocAttr,hs,H.ck,H.ba,k1,e0]
  exact hk
def yF(l:List (BitVec 8)):D:= .agg (.ar 64 L8) (bs l)
theorem Rj{rows:Rows}{s f c o len:Nat}{ex:Bool}{st:Int}{cD l p:List (BitVec 8)}(hs:live rows s=some ⟨du,[jU st cD (yF l) f c]⟩)(hl:l.length=64)(h:o+len<=64)(hp:p.length<=len){k:D->Rows->Prop}
  (hk:k (.raw (it (p.length:Int))) (rows.set s (some ⟨du,[jU st cD (yF (aP l o p)) f c]⟩))):oq rows L8 (.sl L8 s [0,2] o len ex) (bs p) k:=by
 have e1:min (bs p).length len=p.length:=by rw[aE];omega
 have e2:(bs p).take p.length=bs p:=lL p
 have e3:aP (bs l) o (bs p)=bs (aP l o p):=Bf l o p
 have hg:cM [jU st cD (yF l) f c] [0,2]=some (.agg (.ar 64 L8) (bs l)):=rfl
 refine⟨rfl,o7 hs ?_⟩
 rw[hg]
 refine⟨by rw[aE];omega,o7 (a:=[jU st cD (yF (aP l o p)) f c]) ?_ ?_⟩
 ·rw[e1,e2,e3];rfl
 ·rw[e1];exact hk
theorem J0(C C1:aU)(H:StC C1 C){rows:Rows}{s f c st who o:Nat}{cD l:List (BitVec 8)}{d:D}{x:BitVec 32}{y:BitVec 8}(hs:live rows s=some ⟨du,[jU (st:Int) cD (yF l) f c]⟩)(hl:l.length=64)(hp:Dz ⟨who,st,x,1,true,false⟩=true)(hc:pS ⟨who,st,x,1,true,false⟩=(4,o,0))(ho:o<64)
  (hd:pw rows L8 d=some (bs [y]))(xu:dW d=some 1){K:D->Rows->Prop}(hk:K (.raw (it 0)) (rows.set s (some ⟨du,[jU (st:Int) cD (yF (aP l o [y])) f c]⟩))):
  aB C 4 ca b9 [.ptr du s [0],.raw (it (who:Int)),.raw (u32 x),d] rows K:=by
 refine ae rfl ?_
 unfold b9 ca
 obtain⟨C2,r1⟩:=H.r1
 simp only[↓ag,ah,simprocAttr,xu,H.n0,H.r0,acv]
 refine vW C1 H.wi hs hp ?_
 rw[G1,hc]
 have ib:=hs
 have e1:((0:Int)<=(o:Int))=True:=aas (by omega)
 have e2:((o:Int)<=64)=True:=aas (by omega)
 simp only[↓ag,ah,simprocAttr,H.n1,r1,ii,eF,eG,aca,acP,aby]
 refine⟨by omega,by omega,o7 hd ⟨λk hk=>?_,Rj hs hl (by omega) (by simp;omega) ?_⟩⟩
 ·rw[xu]at hk;cases hk;rfl
 ·simp only[↓ag,ah,simprocAttr]
  exact hk
theorem UG(C C1:aU)(H:StC C1 C){rows:Rows}{s f c st who e:Nat}{cD:List (BitVec 8)}{d pt:D}{x:BitVec 32}(hs:live rows s=some ⟨du,[jU (st:Int) cD pt f c]⟩)(hp:Dz ⟨who,st,x,1,true,false⟩=true)(hc:pS ⟨who,st,x,1,true,false⟩=(0,0,e))(he:e≠0)
  (xu:dW d=some 1){K:D->Rows->Prop}(hk:K (.raw (it (e:Int))) rows):
  aB C 4 ca b9 [.ptr du s [0],.raw (it (who:Int)),.raw (u32 x),d] rows K:=by
 refine ae rfl ?_
 unfold b9 ca
 have e0:((e:Int)=0)=False:=aaw (by omega)
 simp only[↓ag,ah,simprocAttr,xu,H.n0,H.r0,acv]
 refine vW C1 H.wi hs hp ?_
 rw[G1,hc]
 simp only[↓ag,ah,simprocAttr,e0]
 exact hk
structure LdC (C:aU):Prop where
 w0:C.fn 151=none
 w1:∃C1,C.cV 151=some (aB C1 5 cY cW)/\WiC C1
 k0:C.fn 154=none
 k1:∃C2,C.cV 154=some (aB C2 2 eG eF)
 cl:C.fn 114=some oX
theorem Y1(C:aU)(H:LdC C){rows:Rows}{s f c st who e:Nat}{cD:List (BitVec 8)}{pt:D}{x:BitVec 32}(hs:live rows s=some ⟨du,[jU (st:Int) cD pt f c]⟩)(hp:Dz ⟨who,st,x,1,false,false⟩=true)(hc:pS ⟨who,st,x,1,false,false⟩=(0,0,e))(he:e≠0){K:D->Rows->Prop}(hk:K (.cd [(.raw (.slice none 0 0)),.raw (it (e:Int))]) rows):
  aB C 4 eE eD [.ptr du s [0],.raw (it (who:Int)),.raw (u32 x),.raw (it 1)] rows K:=by
 refine ae rfl ?_
 unfold eD eE
 obtain⟨C1,w1,hW⟩:=H.w1
 have e0:((e:Int)=0)=False:=aaw (by omega)
 simp only[↓ag,ah,simprocAttr,H.w0,w1]
 refine vW C1 hW hs hp ?_
 rw[G1,hc]
 simp only[↓ag,ah,simprocAttr,e0]
 exact hk
theorem Y2(C:aU)(H:LdC C){rows:Rows}{s f c st who o:Nat}{cD l:List (BitVec 8)}{x:BitVec 32}(hs:live rows s=some ⟨du,[jU (st:Int) cD (yF l) f c]⟩)(hl:l.length=64)(hp:Dz ⟨who,st,x,1,false,false⟩=true)(hc:pS ⟨who,st,x,1,false,false⟩=(4,o,0))(ho:o<64){K:D->Rows->Prop}(hk:∀d R,d.fits .ref=true->K (.cd [d,.raw (it 0)]) (rows++R)):
  aB C 4 eE eD [.ptr du s [0],.raw (it (who:Int)),.raw (u32 x),.raw (it 1)] rows K:=by
 refine ae rfl ?_
 unfold eD eE
 obtain⟨C1,w1,hW⟩:=H.w1
 obtain⟨C2,k1⟩:=H.k1
 simp only[↓ag,ah,simprocAttr,H.w0,w1]
 refine vW C1 hW hs hp ?_
 rw[G1,hc]
 have ib:=hs
 simp only[jU,yF]at ib
 have w0:wz ((o:Int)+1)=((o+1:Nat):Int):=by rw[bh (by omega)];omega
 have e1:((0:Int)<=(o:Int))=True:=aas (by omega)
 have e2:((o:Int)<=((o+1:Nat):Int))=True:=aas (by omega)
 have e3:(((o+1:Nat):Int)<=64)=True:=aas (by omega)
 simp only[↓ag,ah,simprocAttr,aK,H.k0,k1,ii,eF,eG,aca,acP,aby,w0,e1,e2,e3,ib,H.cl]
 have hb:∀ex,aY rows (.sl L8 s [0,2] o (o+1-o) ex) ((l.drop o).take (o+1-o)):=λex=>aY.at (n:=64) (l:=l) hs rfl (by omega)
 have kC:=λex k=>EV rows k _ _ (hb ex) (by rw[aau];omega)
 simp only[↓ag,ah,simprocAttr,aK,kC]
 exact hk _ _ rfl
structure FeC (C:aU):Prop where
 ck:C.fn 96=some tC
theorem UH(C:aU)(H:FeC C){rows:Rows}{s f c:Nat}{cD:List (BitVec 8)}{pt:D}(hs:live rows s=some ⟨du,[jU 0 cD pt f c]⟩){K:D->Rows->Prop}(hk:K (.cd [.raw (u32 0#32),.raw (it 8)]) rows):
  aB C 2 dB dA [.ptr du s [0],.raw (u32 536870912#32)] rows K:=by
 refine ae rfl ?_
 unfold dA dB
 have k1:∀rows k,aG tC rows k [.agg SAc [.raw (it 1),.raw (it 0),.raw (u32 536870912#32),.raw (it 4),.raw (.bool false),.raw (.bool true)]]=k (.cd [.raw (it 0),.raw (it 0),.raw (it 8)]) rows:=λrows k=>kChk rows ⟨1,0,536870912#32,4,false,true⟩ (by decide) k
 simp only[jU]at hs
 simp only[↓ag,ah,simprocAttr,hs,H.ck,k1]
 exact hk
def lw(w:BitVec 32):List (BitVec 8):=[w.setWidth 8,(w>>>8).setWidth 8,(w>>>16).setWidth 8,(w>>>24).setWidth 8]
theorem lw_back(w:BitVec 32)(h:w∈Uo):BitVec.setWidth 32 ((lw w).getD 3 0#8)<<<24|||BitVec.setWidth 32 ((lw w).getD 2 0#8)<<<16|||BitVec.setWidth 32 ((lw w).getD 1 0#8)<<<8|||BitVec.setWidth 32 ((lw w).getD 0 0#8)=w:=by
 simp only[Uo,aaI,aa1,acd]at h
 rcases h with rfl|rfl|rfl|rfl|rfl<;>rfl
theorem J4(C:aU)(H:FeC C){rows:Rows}{s f c o:Nat}{cD:List (BitVec 8)}{pt:D}{x w:BitVec 32}(hs:live rows s=some ⟨du,[jU 1 cD pt f c]⟩)(hr:cD.length=8192)(ho:o+4<=4096)(Si:o %4=0)(hx:x.toNat=536870912+o)(hw:(cD.drop o).take 4=lw w)(hww:w∈Uo){K:D->Rows->Prop}(hk:K (.cd [.raw (u32 w),.raw (it 0)]) rows):
  aB C 2 dB dA [.ptr du s [0],.raw (u32 x)] rows K:=by
 refine ae rfl ?_
 unfold dA dB
 have h1:bU x=(1,o):=Fb (i:=1) rfl (by decide) (by rw[hx];exact⟨Nat.le_add_right _ _,by show _<536870912+4096;omega⟩) (by rw[hx];exact aek _ _)
 have hc:pS ⟨1,1,x,4,false,true⟩=(1,o,0):=by
  unfold pS
  rw[h1]
  rfl
 have hp:Dz ⟨1,1,x,4,false,true⟩=true:=by
  simp only[Dz,h1,aan,aaq]
  exact⟨⟨rfl,by show x.toNat %4=0;omega⟩,.inr (by decide:(1,1,1)∈Ui)⟩
 have k1:∀rows k,aG tC rows k [.agg SAc [.raw (it 1),.raw (it 1),.raw (u32 x),.raw (it 4),.raw (.bool false),.raw (.bool true)]]=k (.cd [.raw (it 1),.raw (it (o:Int)),.raw (it 0)]) rows:=λrows k=>by
  have:=kChk rows ⟨1,1,x,4,false,true⟩ hp k
  rw[G1,hc]at this
  exact this
 have hb:∀j (hj:j<4),(bs cD)[o+j]?=some (.raw (u8 ((lw w).getD j 0#8))):=λj hj=>by
  have:((cD.drop o).take 4)[j]?=some ((lw w).getD j 0#8):=by
   rw[hw,aay]
   have:j<(lw w).length:=hj
   rw[aao this];rfl
  rw[abi,aaJ hj,aa5]at this
  rw[bs,abl,this];rfl
 have hb0:=hb 0 (by decide)
 have zt:=hb 1 (by decide)
 have Kv:=hb 2 (by decide)
 have hb3:=hb 3 (by decide)
 simp only[jU]at hs
 have w0:wz ((o:Int)+4)=((o+4:Nat):Int):=by rw[bh (by omega)];omega
 have e1:((0:Int)<=(o:Int))=True:=aas (by omega)
 have e2:((o:Int)<=((o+4:Nat):Int))=True:=aas (by omega)
 have e3:(((o+4:Nat):Int)<=8192)=True:=aas (by omega)
 have e4:∀j:Nat,j<4->((j:Int)<((o+4-o:Nat):Int))=True:=λj hj=>aas (by omega)
 have e40:((0:Int)<((o+4-o:Nat):Int))=True:=e4 0 (by decide)
 have e41:((1:Int)<((o+4-o:Nat):Int))=True:=e4 1 (by decide)
 have e42:((2:Int)<((o+4-o:Nat):Int))=True:=e4 2 (by decide)
 have e43:((3:Int)<((o+4-o:Nat):Int))=True:=e4 3 (by decide)
 simp only[↓ag,ah,simprocAttr,hs,H.ck,k1,w0,e1,e2,e3,e40,e41,e42,e43,hb0,zt,Kv,hb3,aaz]
 rw[lw_back w hww]
 exact hk
theorem ev_s3(t c i a w)(v:BitVec 32):(G5 t c i a w).set [3] (.raw (u32 v))=some (G5 t c i v w):=rfl
theorem ev_s4(t c i a w d):(G5 t c i a w).set [4] d=some (G5 t c i a d):=rfl
noncomputable def fSzC:Fn:=fAt [.raw (u8 16#8)] (.cd [.raw (it 1),.raw (.bool true)])
theorem size_ok3(C:aU)(hC:aI C P):aQ C.aZ P 170 (Fn.run fSzC):=by
 refine JI (Qj C hC) (ae rfl ?_)
 unfold F0 F3
 simp only[↓ag,ah,simprocAttr]
 exact .val _ rfl
structure SbC4 (C:aU):Prop where
 z0:C.fn 170=some fSzC
 s0:C.fn 93=none
 s1:∃C1 C2,C.cV 93=some (aB C1 4 ca b9)/\StC C2 C1
 nx:C.fn 106=some Gk
structure SbiC (C:aU):Prop where
 Ky:C.fn 110=none
 st1:∃C1,C.cV 110=some (aB C1 3 iO iN)/\SbC4 C1
def sbI:In:=⟨16#8,0#8,1#8,2#8,0#32⟩
theorem cst_run(C:aU)(H:SbC4 C){rows:Rows}{s f q:Nat}{cD l:List (BitVec 8)}{c:qH}(hs:live rows s=some ⟨du,[jU 1 cD (yF l) f q]⟩)(hl:l.length=64)(hx:c.x1=1073741824#32){K:D->Rows->Prop}
  (hk:∀R r ex,live (rows.set s (some ⟨du,[jU 1 cD (yF (aP l 0 [c.x2.setWidth 8])) f q]⟩)++R) (rows.length+r)=some ⟨L8,bs [c.x2.setWidth 8,(c.x2>>>8).setWidth 8,(c.x2>>>16).setWidth 8,(c.x2>>>24).setWidth 8]⟩->
   K (.cd [eO c.nx,G5 false 0#32 sbI 1073741824#32 (.sl L8 (rows.length+r) [] 0 1 ex)]) (rows.set s (some ⟨du,[jU 1 cD (yF (aP l 0 [c.x2.setWidth 8])) f q]⟩)++R)):
  aB C 3 iO iN [eO c,.ptr du s [0],El sbI] rows K:=by
 refine ae rfl ?_
 unfold iN iO
 have kZ:=λrows k=>kAt [.raw (u8 16#8)] (.cd [.raw (it 1),.raw (.bool true)]) rfl rfl rows k rfl
 obtain⟨S1,S2,s1,hS⟩:=H.s1
 have Ha:=λl=>ab hs l
 have kN:=λrows k=>Wz rows c sbI k
 have e:sbI=⟨16#8,0#8,1#8,2#8,0#32⟩:=rfl
 have hxz:c.x1+0#32=1073741824#32:=by rw[hx];rfl
 have hm:1073741824#32 %1#32=0#32:=rfl
 have ho:BitVec.ofInt 32 1=1#32:=rfl
 have hq:=jr hs
 simp only[-List.reduceReplicate,G4,inZ,evZ]
 rw[e]at kN hk⊢
 simp only[↓ag,ah,simprocAttr,aK,sx,JZ,DL,MJ,ML,MM,MN,co_g1,co_g2,hxz,hm,ho,H.z0,fSzC,kZ,H.s0,s1]
 have hc4:Dz ⟨1,1,1073741824#32,1,true,false⟩=true/\pS ⟨1,1,1073741824#32,1,true,false⟩=(4,0,0):=by decide
 refine J0 S1 S2 hS (who:=1) (st:=1) (o:=0) (y:=c.x2.setWidth 8) (d:= .sl L8 (rows.length+4) [] 0 1 (qB none 1 1 4 true)) (Ha _) hl hc4.1 hc4.2 (by decide) ?_ rfl ?_
 ·simp only[pw,elems,bg]
  rfl
 ·simp only[hq]
  simp only[↓ag,ah,simprocAttr,aK,hq,sx,JZ,DL,ev_s3,ev_s4,H.nx,kN]
  exact hk _ 4 _ ((hq.2.2.2.2.1 _ _ _).trans rfl)
structure StpC (C:aU):Prop where
 f0:C.fn 39=none
 f1:∃C1,C.cV 39=some (aB C1 2 dB dA)/\FeC C1
 t0:C.fn 38=none
 t1:∃C1,C.cV 38=some (aB C1 3 lX lW)
 de:C.fn 40=some fDec
 d0:C.fn 41=none
 d1:∃C1,C.cV 41=some (aB C1 4 fO fN)/\CdoC C1/\SbiC C1
theorem Y3(C:aU)(H:StpC C){rows:Rows}{s f c:Nat}{cD:List (BitVec 8)}{pt:D}(hs:live rows s=some ⟨du,[jU 0 cD pt f c]⟩){K:D->Rows->Prop}(hk:∀d R,d.fits DI=true->K (.cd [d,G5 true 1#32 noI 0#32 ir]) (rows++R)):
  aB C 3 dM dL [gI 536870912#32,.ptr du s [0],.raw (.bool false)] rows K:=by
 refine ae rfl ?_
 unfold dL dM
 obtain⟨F1,f1,hF⟩:=H.f1
 obtain⟨T1,t1⟩:=H.t1
 have Ha:=λl=>ab hs l
 rw[MI]
 simp only[-List.reduceReplicate,G4,inZ,evZ]
 have e1:536870912#32 %4#32=0#32:=rfl
 simp only[↓ag,ah,simprocAttr,aK,sx,co_st,DJ,e1,H.f0,f1]
 refine UH F1 hF (Ha _) ?_
 simp only[↓ag,ah,simprocAttr,aK,sx,DJ,H.t0,t1,ii,lW,lX,eO]
 exact hk _ _ rfl
theorem WA(a b c d:Option Row)(R:Rows)(r:Nat):live (a::b::c::d::R) (4+r)=live R r:=bg [a,b,c,d] R r
theorem cdos_run(C:aU)(H:SbiC C){rows:Rows}{s f q:Nat}{cD l:List (BitVec 8)}{c:qH}(w:BitVec 32)(hs:live rows s=some ⟨du,[jU 1 cD (yF l) f q]⟩)(hl:l.length=64)(hx:c.x1=1073741824#32){K:D->Rows->Prop}
  (hk:∀R r ex,live (rows.set s (some ⟨du,[jU 1 cD (yF (aP l 0 [c.x2.setWidth 8])) f q]⟩)++R) (rows.length+r)=some ⟨L8,bs [c.x2.setWidth 8,(c.x2>>>8).setWidth 8,(c.x2>>>16).setWidth 8,(c.x2>>>24).setWidth 8]⟩->
   K (.cd [eO c.nx,G5 false 0#32 sbI 1073741824#32 (.sl L8 (rows.length+r) [] 0 1 ex)]) (rows.set s (some ⟨du,[jU 1 cD (yF (aP l 0 [c.x2.setWidth 8])) f q]⟩)++R)):
  aB C 4 fO fN [eO c,.ptr du s [0],El sbI,.raw (u32 w)] rows K:=by
 refine ae rfl ?_
 unfold fN fO
 obtain⟨C1,s1,hS⟩:=H.st1
 have Ha:=λl=>ab hs l
 have e:sbI=⟨16#8,0#8,1#8,2#8,0#32⟩:=rfl
 have hq:=jr hs
 simp only[-List.reduceReplicate,G4,inZ,evZ]
 rw[e]
 simp only[↓ag,ah,simprocAttr,aK,BitVec.reduceLE,BitVec.reduceLT,sx,JZ,DL,MJ,MK,ML,MM,MN,co_g1,co_g2,H.Ky,s1]
 refine cst_run C1 hS (Ha _) hl hx λR r ex hr=>?_
 simp only[hq,aaB,abu,aaZ,aap,aaP,aaV,abk,Nat.reduceAdd,abO]at hr
 simp only[↓ag,ah,simprocAttr,aK,hq,sx,DL]
 exact hk _ (4+r) ex ((hq.2.2.2.2.1 _ _ _).trans ((WA _ _ _ _ R r).trans ((WA _ _ _ _ R r).symm.trans hr)))
structure CsC (C:aU):Prop where
 f0:C.fn 39=none
 f1:∃C1,C.cV 39=some (aB C1 2 dB dA)/\FeC C1
 de:C.fn 40=some fDec
 d0:C.fn 41=none
 d1:∃C1,C.cV 41=some (aB C1 4 fO fN)/\CdoC C1/\SbiC C1
theorem Y4(C:aU)(H:CsC C){rows:Rows}{s f q o:Nat}{cD:List (BitVec 8)}{pt:D}{c:qH}{w:BitVec 32}(hs:live rows s=some ⟨du,[jU 1 cD pt f q]⟩)(hr:cD.length=8192)(ho:o+4<=4096)(Si:o %4=0)(hx:c.pc.toNat=536870912+o)(hw:(cD.drop o).take 4=lw w)
  (hww:w=1073742007#32\/w=109052179#32\/w=110100755#32\/w=111#32){K:D->Rows->Prop}(hk:∀R,K (.cd [eO (c.doS (vT w)),G5 false 0#32 (vT w) 0#32 ir]) (rows++R)):
  aB C 3 dM dL [eO c,.ptr du s [0],.raw (.bool false)] rows K:=by
 refine ae rfl ?_
 unfold dL dM
 obtain⟨F1,f1,hF⟩:=H.f1
 obtain⟨D1,d1,hD,-⟩:=H.d1
 have Ha:=λl=>ab hs l
 have hwm:w∈Uo:=by rcases hww with rfl|rfl|rfl|rfl<;>decide
 have kD:=λrows k=>kDec rows w hwm k
 have hp:c.pc %4#32=0#32:=by
  apply aaL
  rw[abC,hx]
  show(536870912+o) %4=0
  omega
 simp only[-List.reduceReplicate,G4,inZ,evZ]
 simp only[↓ag,ah,simprocAttr,aK,sx,co_st,DJ,hp,H.f0,f1]
 refine J4 F1 hF (Ha _) hr ho Si hx hw hwm ?_
 simp only[↓ag,ah,simprocAttr,aK,sx,DJ,JZ,H.de,kD,H.d0,d1]
 refine cdo_run D1 hD w w hww hp rfl λR=>?_
 simp only[↓ag,ah,simprocAttr,aK,sx,DL]
 exact hk _
theorem Y5(C:aU)(H:CsC C){rows:Rows}{s f q o:Nat}{cD l:List (BitVec 8)}{c:qH}(hs:live rows s=some ⟨du,[jU 1 cD (yF l) f q]⟩)(hl:l.length=64)(hr:cD.length=8192)(ho:o+4<=4096)(Si:o %4=0)(hx:c.pc.toNat=536870912+o)(hw:(cD.drop o).take 4=lw 2129955#32)(rq:c.x1=1073741824#32){K:D->Rows->Prop}
  (hk:∀R r ex,live (rows.set s (some ⟨du,[jU 1 cD (yF (aP l 0 [c.x2.setWidth 8])) f q]⟩)++R) (rows.length+r)=some ⟨L8,bs [c.x2.setWidth 8,(c.x2>>>8).setWidth 8,(c.x2>>>16).setWidth 8,(c.x2>>>24).setWidth 8]⟩->
   K (.cd [eO c.nx,G5 false 0#32 sbI 1073741824#32 (.sl L8 (rows.length+r) [] 0 1 ex)]) (rows.set s (some ⟨du,[jU 1 cD (yF (aP l 0 [c.x2.setWidth 8])) f q]⟩)++R)):
  aB C 3 dM dL [eO c,.ptr du s [0],.raw (.bool false)] rows K:=by
 refine ae rfl ?_
 unfold dL dM
 obtain⟨F1,f1,hF⟩:=H.f1
 obtain⟨D1,d1,-,hD⟩:=H.d1
 have Ha:=λl=>ab hs l
 have kD:=λrows k=>kDec rows 2129955#32 (by decide) k
 have hd:vT 2129955#32=sbI:=rfl
 rw[hd]at kD
 have hq:=jr hs
 have hp:c.pc %4#32=0#32:=by
  apply aaL
  rw[abC,hx]
  show(536870912+o) %4=0
  omega
 simp only[-List.reduceReplicate,G4,inZ,evZ]
 simp only[↓ag,ah,simprocAttr,aK,sx,co_st,DJ,hp,H.f0,f1]
 refine J4 F1 hF (Ha _) hr ho Si hx hw (by decide) ?_
 simp only[↓ag,ah,simprocAttr,aK,sx,DJ,JZ,H.de,kD,H.d0,d1]
 refine cdos_run D1 hD _ (Ha _) hl rq λR r ex hr=>?_
 simp only[hq,aaB,abu,aaZ,aap,aaP,aaV,abk,Nat.reduceAdd,abO]at hr
 simp only[↓ag,ah,simprocAttr,aK,hq,sx,DL]
 exact hk _ (4+r) ex ((hq.2.2.2.2.1 _ _ _).trans ((WA _ _ _ _ R r).trans ((WA _ _ _ _ R r).symm.trans hr)))
def MO(n:BitVec 32):List (BitVec 8):=[n.setWidth 8,(n>>>8).setWidth 8,(n>>>16).setWidth 8,(n>>>24).setWidth 8]
def OC:Fn:=nv ry (λ_=>true) λn=>(.sl L8 0 [] 0 4 true,[some ⟨L8,bs (MO n)⟩])
theorem bytes_ok(C:aU)(hC:aI C P):aQ C.aZ P 234 (Fn.run OC):=by
 refine aJ (NM C hC) λds rows r h=>?_
 obtain⟨d,n,rfl,rfl,hd,-,rfl⟩:=bd h
 cases dY hd
 refine⟨rfl,ae rfl ?_⟩
 unfold CX CY
 simp only[↓ag,ah,simprocAttr]
 exact .own _ 0 0 4 true true _ rfl rfl id
def yG(a:List (BitVec 8)):Nat->BitVec 32
 |0=>0#32
 |i+1=>if i<4 then yG a i|||(a.getD i 0#8).setWidth 32<<<(8*i)else yG a i
def OD(a:List (BitVec 8)):BitVec 32:=yG a a.length
def Hp:Fn:=nv eP (λa=>Nat.ble a.length 9223372036854775807) λa=>(.raw (u32 (OD a)),[])
theorem Y6(C:aU)(hC:aI C P):aQ C.aZ P 235 (Fn.run Hp):=by
 refine cA (KT C hC) λds rows r h=>?_
 obtain⟨d,a,rfl,rfl,hd,hp,rfl⟩:=bd h
 obtain⟨x,hx⟩:=cF hd
 refine⟨rfl,_,.cons hx .nil,ae rfl ?_⟩
 simp only[abD]at hp
 clear h hx hd
 unfold Ag Ah
 simp only[↓ag,ah,simprocAttr,aE]
 refine bx a.length (λi env rows=>has env [(3,.raw (u32 (yG a i))),(6,.dh L8 (bs a) x),(7,.raw (it a.length)),(8,.raw (it i))]) ?_ ?_ ?_
 ·rintro i hi env rows hh R hR
  simp only[has]at hh
  have h2:((i:Int)<(a.length:Int))=True:=aas (by omega)
  have hw:=cG i (by omega)
  have ea:∀(k:D->Rows->Prop) rows,pC L8 (i:Int) rows k (.dh L8 (bs a) x)=k (.cb (.raw (u8 (a.getD i 0#8)))) rows:=λk rows=>TA a x i hi rows k
  by_cases h4:i<4
  ·have h4':((i:Int)<4)=True:=aas (by omega)
   have hw8:wz (8*(i:Int))=8*(i:Int):=bh (by omega)
   have hn8:(8*(i:Int)).toNat=8*i:=by omega
   simp only[↓ag,ah,simprocAttr,hh,h2,ea,h4',hw,hw8,hn8]
   refine⟨by omega,hR _ _ ?_⟩
   have e:yG a (i+1)=(yG a i|||(a.getD i 0#8).setWidth 32<<<(8*i)):=by simp only[yG,h4,abR]
   simp only[has,↓ag,ah,simprocAttr,hh,e]
  ·have h4':((i:Int)<4)=False:=aaw (by omega)
   simp only[↓ag,ah,simprocAttr,hh,h2,ea,h4',hw]
   refine hR _ _ ?_
   have e:yG a (i+1)=yG a i:=by simp only[yG,h4,abP]
   simp only[has,↓ag,ah,simprocAttr,hh,e]
 ·rintro env rows hh R
  simp only[has]at hh
  have h2:((a.length:Int)<(a.length:Int))=False:=aaw (by omega)
  simp only[↓ag,ah,simprocAttr,hh,h2]
  exact .val _ rfl
 ·simp only[has,↓ag,ah,simprocAttr,yG]
theorem kNumber(rows:Rows)(k:D->Rows->Prop)(d:D)(p:List (BitVec 8))(h:aY rows d p)(hp:p.length<=9223372036854775807):aG Hp rows k [d]=k (.raw (u32 (OD p))) rows:=by
 refine(qO h (by simpa using hp) rfl).trans ?_
 simp[shift,af]
theorem kBytes(rows:Rows)(k:D->Rows->Prop)(n:BitVec 32):aG OC rows k [.raw (u32 n)]=k (.sl L8 (0+rows.length) [] 0 4 true) (rows++[some ⟨L8,bs (MO n)⟩]):=by
 refine(bk rfl (fa (fL n) rfl)).trans ?_
 rfl
abbrev qI:Sh:= .cons .ref (.cons .ref (.cons cN .nil))
def DO(o:D)(t:BitVec 32):D:= .agg qI [o,ir,.raw (u32 t)]
theorem po_g0(o t):(DO o t).get [0]=some o:=rfl
theorem po_g2(o t):(DO o t).get [2]=some (.raw (u32 t)):=rfl
theorem po_s0(o t d):(DO o t).set [0] d=some (DO d t):=rfl
theorem po_s2(o t)(v:BitVec 32):(DO o t).set [2] (.raw (u32 v))=some (DO o v):=rfl
structure PtC (C:aU):Prop where
 by_:C.fn 234=some OC
 nu:C.fn 235=some Hp
def ptT(l:List (BitVec 8)):Prop:=l.length=64/\(l.drop 12).take 4=[0#8,0#8,0#8,0#8]
theorem MP(C:aU)(H:PtC C){rows:Rows}{s f q p:Nat}{cD l:List (BitVec 8)}{o:D}{t:BitVec 32}(hs:live rows s=some ⟨du,[jU 1 cD (yF l) f q]⟩)(hp:live rows p=some ⟨qI,[DO o t]⟩)(hl:ptT l){K:D->Rows->Prop}
  (hk:∀R,K (.raw (.bool false)) ((rows.set p (some ⟨qI,[DO o (t+1#32)]⟩)).set s (some ⟨du,[jU 1 cD (yF (aP l 16 (MO (t+1#32)))) f q]⟩)++R)):
  aB C 2 jC jB [.ptr qI p [0],.ptr (.ar 64 L8) s [0,2]] rows K:=by
 refine ae rfl ?_
 unfold jB jC
 have ZM:p≠s:=bB hp hs (by intro h;cases h)
 have kB:=λrows k=>kBytes rows k (t+1#32)
 have Bb:=λx=>aD (y:=x) hp
 simp only[↓ag,ah,simprocAttr,aK,hp,Bb,po_g2,po_s2,H.by_,kB]
 have hq:=jr hp
 have tI:live (rows.set p (some ⟨qI,[DO o (t+1#32)]⟩)) s=some ⟨du,[jU 1 cD (yF l) f q]⟩:=(aA ZM).trans hs
 have Vo:=jr tI
 have hlb:(bs (MO (t+1#32))).length=4:=rfl
 refine o7 (a:=bs (MO (t+1#32))) (by rw[hq.2.2.2.1];rfl) ⟨rfl,Rj (ab tI _) hl.1 (by decide) (show 4<=48 by decide) ?_⟩
 rw[Vo.1]
 have Ea:(aP l 16 (MO (t+1#32))).length=64:=by rw[jT _ _ _ (show 16+4<=l.length by rw[hl.1];decide),hl.1]
 have hz:((aP l 16 (MO (t+1#32))).drop 12).take (16-12)=[0#8,0#8,0#8,0#8]:=by
  rw[<-hl.2,aP]
  apply abX
  intro i
  simp only[abi,aa5]
  by_cases c:i<4
  ·rw[aaJ c,aaJ c,aaB,aaM (by rw[aau,hl.1];omega),abi,aaJ (by omega)]
  ·rw[aaC c,aaC c]
 have hb:∀Y ex,aY ((rows.set p (some ⟨qI,[DO o (t+1#32)]⟩)).set s (some ⟨du,[jU 1 cD (yF (aP l 16 (MO (t+1#32)))) f q]⟩)++[Y]) (.sl L8 s [0,2] 12 (16-12) ex) [0#8,0#8,0#8,0#8]:=λY ex=>by
  have:=aY.at (n:=64) (l:=aP l 16 (MO (t+1#32))) (off:=12) (len:=16-12) (e:=ex) (Vo.2.2.1 ⟨du,[jU 1 cD (yF (aP l 16 (MO (t+1#32)))) f q]⟩ [Y]) (q:=[2]) (i:=0) rfl (by rw[Ea];decide)
  rw[hz]at this
  exact this
 have kN:=λY ex k=>kNumber _ k _ _ (hb Y ex) (by decide)
 have n0:OD [0#8,0#8,0#8,0#8]=0#32:=rfl
 simp only[Nat.reduceSub]at kN
 simp only[↓ag,ah,simprocAttr,aK,H.nu,kN,n0]
 exact hk _
theorem UI(C:aU){rows:Rows}{p:Nat}{o:D}{t:BitVec 32}(hp:live rows p=some ⟨qI,[DO o t]⟩){K:D->Rows->Prop}(hk:K (.cd []) (rows.set p (some ⟨qI,[DO o 0#32]⟩))):aB C 1 iM iL [.ptr qI p [0]] rows K:=by
 refine ae rfl ?_
 unfold iL iM
 simp only[↓ag,ah,simprocAttr,aK,hp,po_s2]
 exact hk
theorem UJ(C:aU){rows:Rows}{p r:Nat}{o:D}{t:BitVec 32}{outs z:List (BitVec 8)}{y:BitVec 8}{ex:Bool}(hp:live rows p=some ⟨qI,[DO o t]⟩)(hO:jy L8 o rows (bs outs))(hlo:outs.length<=100)(hr:live rows r=some ⟨L8,bs (y::z)⟩){K:D->Rows->Prop}
  (hk:∀aa o',live aa p=some ⟨qI,[DO o' t]⟩->jy L8 o' aa (bs (outs++[y]))->(∀q row,live rows q=some row->q≠p->(∀ex n,o≠ .sl L8 q [] 0 n ex)->live aa q=some row)->K (.cd []) aa):
  aB C 4 iS iR [.ptr qI p [0],.raw (it 1),.raw (it 0),.sl L8 r [] 0 1 ex] rows K:=by
 refine ae rfl ?_
 unfold iR iS
 have mH:dW o=some outs.length:=by rw[hO.dW,aE]
 have e1:((outs.length:Int)<4096)=True:=aas (by omega)
 have hy:(bs (y::z))[0]?=some (.raw (u8 y)):=rfl
 simp only[↓ag,ah,simprocAttr,aK,hp,po_g0,mH,e1,hr,hy]
 have np:=ia hO hp (by intro h;cases h)
 refine yj hO.push (by rw[aE];simp only[most,aaP,aaV];omega) (by rw[aE];simp only[most,aaP,aaV];omega) λrs' g1 g2 g3=>?_
 have qL:=g2 _ _ (ab hp _) np
 have hlp:=aR hp
 rw[aap]at g1 g3
 simp only[aaP,aaV]at g1 g3
 have pz:=λx=>aD (y:=x) qL
 simp only[↓ag,ah,simprocAttr,aK,qL,po_g0,po_s0]
 refine hk _ _ (pz _) (.inr ⟨rows.length+1,false,?_,(aA (by omega)).trans (g1.trans ?_)⟩) λq row hq hn ho=>?_
 ·simp[bs]
 ·simp[bs]
 ·rw[aA (abh hn)]
  exact g2 _ _ (ab hq _) ho
theorem pout_run(C:aU)(jt:C.fn 114=some oX){rows:Rows}{p:Nat}{o:D}{t:BitVec 32}{outs:List (BitVec 8)}(hp:live rows p=some ⟨qI,[DO o t]⟩)(hO:aY rows o outs)(hlo:outs.length<=100){K:D->Rows->Prop}
  (hk:K (.sl L8 rows.length [] 0 outs.length false) (rows++[some ⟨L8,bs outs⟩])):aB C 1 ix iw [.ptr qI p [0]] rows K:=by
 refine ae rfl ?_
 unfold iw ix
 have kC:=λk=>EV rows k _ _ hO (by omega)
 simp only[↓ag,ah,simprocAttr,aK,hp,po_g0,jt,kC]
 exact hk
def Ly.all(L:Ly)(b:Nat):List Nat:=[b,L.M,L.s,L.m,L.e,L.sl,L.q,L.w]
noncomputable def WB:aj:=gX (gX (gX (gX br)))
noncomputable def locB:aj:=og WB
noncomputable def locC:aj:=gX WB
theorem Y7:br= .seq (og br) (.seq (og (gX br)) (.seq (og (gX (gX br))) (.seq (og (gX (gX (gX br)))) (.seq locB locC)))):=rfl
def enD(L:Ly)(m k n:D):D:= .agg Sf [.ptr xc L.sl [0],m,k,n]
structure Fm (rows:Rows) (L:Ly) (R:List (List (BitVec 8))) (l:Lh):Prop where
 e:∃k n,live rows L.e=some ⟨Sf,[enD L (jm R) k n]⟩
 s:live rows L.sl=some ⟨xc,[gH l]⟩
 hr:Wp R=true
 hl:l.length=8
theorem Fm.keep{rows aa:Rows}{L:Ly}{R:List (List (BitVec 8))}{l:Lh}(h:Fm rows L R l)(f:∀q row,live rows q=some row->q=L.e\/q=L.sl->live aa q=some row):Fm aa L R l:=by
 obtain⟨⟨k,n,h1⟩,h2,h3,h4⟩:=h
 exact⟨⟨k,n,f _ _ h1 (.inl rfl)⟩,f _ _ h2 (.inr rfl),h3,h4⟩
theorem jd.off{rows aa:Rows}{L:Ly}{S:zp}{r:Nat}{y:Row}(h:jd rows L S)(hy:live rows r=some y)(hs:y.sh=xc\/y.sh=Sf)(f:∀q row,live rows q=some row->q≠r->live aa q=some row):jd aa L S:=by
 refine h.keep λq row hq hm=>f q row hq λhn=>?_
 subst hn
 obtain⟨h1,h2,h3,⟨⟨ex,h4⟩,h5⟩,h6,h7⟩:=h
 have h8:=h7.ch
 have h9:=h7.ar
 have h10:=h7.dat
 simp only[Ly.ids,aaI,aa1,acd]at hm
 rcases hs with hs|hs<;>rcases hm with rfl|rfl|rfl|rfl|rfl|rfl|rfl<;>simp_all
theorem jd.sealA{rows aa:Rows}{L:Ly}{S:zp}{c':pj}(h:jd rows L S)(hc:oe aa L.q L.a L.w c')(f:∀p row,live rows p=some row->p≠L.q->p≠L.w->live aa p=some row):jd aa L {S with c:=c'}:=by
 obtain⟨h1,h2,h3,⟨⟨ex,h4⟩,h5⟩,h6,h7⟩:=h
 have h8:=h7.ch
 have h9:=h7.ar
 have h10:=h7.dat
 have k:∀{q row},live rows q=some row->row.sh≠Kz->row.sh≠tN->live aa q=some row:=λ{q row} hq hn Nd=>f q row hq (λe=>hn (by rw[e,h8]at hq;injection hq with hq;rw[<-hq])) (λe=>Nd (by rw[e,h10]at hq;injection hq with hq;rw[<-hq]))
 exact⟨k h1 (by intro h;cases h) (by intro h;cases h),k h2 (by intro h;cases h) (by intro h;cases h),h3,⟨⟨ex,k h4 (by intro h;cases h) (by intro h;cases h)⟩,k h5 (by intro h;cases h) (by intro h;cases h)⟩,h6,hc⟩
theorem jd.stg{rows:Rows}{L:Ly}{S:zp}(h:jd rows L S)(st:Int):jd (rows.set L.s (some ⟨du,[jU st S.cD S.pt L.f L.q]⟩)) L {S with st:=st}:=by
 obtain⟨h1,Zy,h3,⟨⟨ex,h4⟩,h5⟩,h6,h7⟩:=h
 have h8:=h7.ch
 have h9:=h7.ar
 have h10:=h7.dat
 have k:∀{q row},live rows q=some row->row.sh≠du->live (rows.set L.s (some ⟨du,[jU st S.cD S.pt L.f L.q]⟩)) q=some row:=λ{q row} hq hn=>by
  rw[aA λe=>hn (by rw[<-e,Zy]at hq;injection hq with hq;rw[<-hq])];exact hq
 exact⟨k h1 (by intro h;cases h),aD Zy,h3,⟨⟨ex,k h4 (by intro h;cases h)⟩,k h5 (by intro h;cases h)⟩,h6,h7.keep λp row hp hq=>k hp (by rcases hq with rfl|rfl|rfl<;>(intro h;simp_all))⟩
theorem jd.cor{rows:Rows}{L:Ly}{S:zp}{c p:D}(h:jd rows L S):jd (rows.set L.M (some ⟨fq,[Bp L c p]⟩)) L {S with co:=c,pp:=p}:=by
 obtain⟨h1,Zy,h3,⟨⟨ex,h4⟩,h5⟩,h6,h7⟩:=h
 have h8:=h7.ch
 have h9:=h7.ar
 have h10:=h7.dat
 have k:∀{q row},live rows q=some row->row.sh≠fq->live (rows.set L.M (some ⟨fq,[Bp L c p]⟩)) q=some row:=λ{q row} hq hn=>by
  rw[aA λe=>hn (by rw[<-e,h1]at hq;injection hq with hq;rw[<-hq])];exact hq
 exact⟨aD h1,k Zy (by intro h;cases h),h3,⟨⟨ex,k h4 (by intro h;cases h)⟩,k h5 (by intro h;cases h)⟩,h6,h7.keep λp row hp hq=>k hp (by rcases hq with rfl|rfl|rfl<;>(intro h;simp_all))⟩
structure LocC (C:aU):Prop where
 to:ToC C
 l0:C.fn 229=none
 l1:∃C1,C.cV 229=some (aB C1 1 iW iV)
 s0:C.fn 230=none
 s1:∃C1 C2,C.cV 230=some (aB C1 1 j9 j8)/\C2.fn 189=some tx/\C1.fn 259=none/\C1.cV 259=some (aB C2 2 gq gk)
 ba:C.fn 207=some Bg
 co:C.fn 11=some Fl
def slotL(l:Lh):D:= .agg xc [.agg (.ar 8 SPl) (l.map plD),.raw (.bool true),.raw (.bool false)]
theorem slk_run(C:aU){rows:Rows}{r:Nat}{l:Lh}(hr:live rows r=some ⟨xc,[gH l]⟩){K:D->Rows->Prop}(hk:K (.cd []) (rows.set r (some ⟨xc,[slotL l]⟩))):aB C 1 iW iV [.ptr xc r [0]] rows K:=by
 refine ae rfl ?_
 unfold iV iW
 have KC:mL [gH l] [0,1] (.raw (.bool true))=some [slotL l]:=rfl
 simp only[↓ag,ah,simprocAttr,aK,hr,KC]
 exact hk
theorem lockC(C:aU)(H:LocC C){env:Env}{rows:Rows}{L:Ly}{S:zp}{b:Nat}{B:Bt}(hh:has env [(0,.ptr jN b [0]),(1,.ptr fq L.M [0]),(6,.ptr Sf L.e [0])])(hM:jd rows L S)(hb:cO rows b B)(hE:∃m k n l,live rows L.e=some ⟨Sf,[enD L m k n]⟩/\live rows L.sl=some ⟨xc,[gH l]⟩){K:D->Rows->Prop}
  (hk:∀aa c',c'.w=S.c.w->Fr (L.all b) rows aa->jd aa L {S with st:=1,c:=c',co:=gI (536870912#32+BitVec.ofInt 32 B.qh.e)}->cO aa b {B with ph:=8,left:=0}->K (.cd []) aa):aw C locC (BS [] K) env rows:=by
 simp only[has]at hh
 obtain⟨D9,O6,hh6,-⟩:=hh
 obtain⟨m,k,n,l,he,hs⟩:=hE
 obtain⟨C1,r1⟩:=H.l1
 obtain⟨C2,C3,r2,hTh,Z6,hL1⟩:=H.s1
 obtain⟨C4,r4⟩:=H.to.r
 have hM0:=hM
 have hb0:=hb
 obtain⟨l7,hsp,yx,qj,FK,E5⟩:=hM
 simp only[Bp]at l7
 simp only[jU]at hsp
 simp only[enD]at he
 simp only[cO,ml]at hb
 have oI:∀X q row,live rows q=some row->q≠L.sl->live (rows.set L.sl X) q=some row:=λX q row hq hn=>by rw[aA (abh hn)];exact hq
 have bS:=λX=>oI X b _ hb (bB hb hs (by intro h;cases h))
 have mS:=λX=>oI X L.M _ l7 (bB l7 hs (by intro h;cases h))
 have sS:=λX=>oI X L.s _ hsp (bB hsp hs (by intro h;cases h))
 have hM1:=λX=>hM0.off hs (.inl rfl) (oI X)
 unfold locC WB
 simp only[br,gX,↓ag,ah,simprocAttr,aK,D9,O6,hh6,he,l7,hsp,H.l0,r1]
 refine slk_run C1 hs ?_
 simp only[D9,O6,hh6,↓ag,ah,simprocAttr,aK,mS,sS,H.s0,r2]
 refine seal_run C2 C3 hTh Z6 hL1 (hM1 _).ch λR c' hC' hw hF=>?_
 have Lg:=(hM1 _).sealA hC' hF
 have hch1:=(hM1 (some ⟨xc,[slotL l]⟩)).ch
 have h8:=hch1.ch
 have h10:=hch1.dat
 have bR:=hF _ _ (bS _) (bB (bS _) h8 (by intro h;cases h)) (bB (bS _) h10 (by intro h;cases h))
 have mR:=hF _ _ (mS _) (bB (mS _) h8 (by intro h;cases h)) (bB (mS _) h10 (by intro h;cases h))
 have sR:=hF _ _ (sS _) (bB (sS _) h8 (by intro h;cases h)) (bB (sS _) h10 (by intro h;cases h))
 have kB:=λrows k=>Ul rows k
 have gm:(dw B.qh).get [2]=some (.raw (it B.qh.e)):=rfl
 have nMs:L.M≠L.s:=bB mR sR (by intro h;cases h)
 have nbs:b≠L.s:=bB bR sR (by intro h;cases h)
 have nbM:b≠L.M:=bB bR mR (by intro h;cases h)
 have mR':∀X,live (R.set L.s X) L.M=_:=λX=>(aA (abh nMs)).trans mR
 have bR':∀X,live (R.set L.s X) b=_:=λX=>(aA (abh nbs)).trans bR
 have cf:∀a,(gI a).fits DI=true:=λ_=>rfl
 simp only[D9,O6,hh6,↓ag,ah,simprocAttr,aK,H.ba,kB,bR,mR,sR,bR',mR',gm,H.co,UF,cf,H.to.n,r4]
 have hbb:=(aA (x:=some ⟨fq,[Bp L (gI (536870912#32+BitVec.ofInt 32 B.qh.e)) S.pp]⟩) (abh nbM)).trans (bR' (some ⟨du,[jU 1 S.cD S.pt L.f L.q]⟩))
 have hM4:=((Lg.stg 1).cor (c:=gI (536870912#32+BitVec.ofInt 32 B.qh.e)) (p:=S.pp))
 refine yE C4 (B:=B) hbb 8 0 ?_
 simp only[↓ag,ah,simprocAttr]
 refine hk _ c' hw (λq row hq hn=>?_) (hM4.fr (B:=B) hbb ((Fr.refl _ _).set (by simp) _)) (aD hbb)
 simp only[Ly.all,aaI,aa1,acd,ad5]at hn
 obtain⟨n1,n2,n3,n4,n5,n6,n7,n8⟩:=hn
 rw[aA (abh n1),aA (abh n2),aA (abh n3)]
 exact hF _ _ (oI _ q row hq n6) n7 n8
structure LobC (C:aU):Prop where
 ro:C.fn 224=some Wu
 di:C.fn 225=some Wt
 l0:C.fn 226=none
 l1:∃C1 C2,C.cV 226=some (aB C1 4 jJ jI)/\SlC C2 C1
 d0:C.fn 227=none
 d1:∃C1 C2 C3,C.cV 227=some (aB C1 5 gD gC)/\DeC C1 C2 C3
 w0:C.fn 228=none
 w1:∃C1 C2 C3,C.cV 228=some (aB C1 2 iU iT)/\WpC C1 C2 C3
theorem lockB(C:aU)(H:LobC C){env:Env}{rows:Rows}{L:Ly}{S:zp}{b ql:Nat}{ex:Bool}{B:Bt}{R:List (List (BitVec 8))}{l:Lh}{x:BitVec 8}(hh:has env [(0,.ptr jN b [0]),(1,.ptr fq L.M [0]),(6,.ptr Sf L.e [0]),(7,.sl L8 ql [] 0 1 ex)])(hM:jd rows L S)(hb:cO rows b B)(hE:Fm rows L R l)
  (hql:live rows ql=some ⟨L8,bs [x]⟩)(G9:(l.getD 0 (0,[])).1=0)(zw:(l.getD 1 (0,[])).1=0){Q:gF->Env->Rows->Prop}
  (hk:∀env' aa,has env' [(0,.ptr jN b [0]),(1,.ptr fq L.M [0]),(6,.ptr Sf L.e [0])]->Fr [L.sl] rows aa->(∃l',live aa L.sl=some ⟨xc,[gH l']⟩)->Q .normal env' aa):aw C locB Q env rows:=by
 simp only[has]at hh
 obtain⟨D9,O6,hh6,hh7,-⟩:=hh
 obtain⟨⟨k,n,he⟩,hs,hR,hl⟩:=hE
 obtain⟨C1,C2,r1,hSl⟩:=H.l1
 obtain⟨C3,C4,C5,r2,hDe⟩:=H.d1
 obtain⟨C6,C7,C8,r3,hWp⟩:=H.w1
 have hM0:=hM
 have hb0:=hb
 obtain⟨l7,hsp,yx,qj,FK,E5⟩:=hM
 simp only[Bp]at l7
 simp only[jU]at hsp
 simp only[enD]at he
 simp only[cO,ml]at hb
 have heA:=λL'=>ab he L'
 have hmaA:=λL'=>ab l7 L'
 have hspA:=λL'=>ab hsp L'
 unfold locB WB
 by_cases c3:B.mU=3
 ·have Uv:(B.mU=3)=True:=aas c3
  simp only[br,gX,og,↓ag,ah,simprocAttr,aK,D9,O6,hh6,hb,Uv]
  exact hk _ _ (by simp only[has,↓ag,ah,simprocAttr,D9,O6,hh6]) (Fr.refl _ _) ⟨l,hs⟩
 ·have Uv:(B.mU=3)=False:=aaw c3
  have kRo:=λk=>kRowC (E5.rd) E5.len k
  have kDi:=λrows k=>kMDig rows k R hR
  have hkl:=rowC_len S.c E5.len
  have mH:=aR hs
  have nes:L.e≠L.sl:=bB he hs (by intro h;cases h)
  have nqs:ql≠L.sl:=bB hql hs (by intro h;cases h)
  simp only[eu,br,gX,og,↓ag,ah,simprocAttr,aK,D9,O6,hh6,he,heA,hmaA,hspA,hb,l7,hsp,Uv,H.ro,kRo,H.di,kDi,H.l0,r1]
  have w12:=bg rows [some ⟨.ar 32 L8,[.agg (.ar 32 L8) (bs (OB S.c).1)]⟩,some ⟨.ar 32 L8,[.agg (.ar 32 L8) (bs (eY R.flatten))]⟩] 1
  generalize hkey:(OB S.c).1=key at*
  refine layk_run C1 C2 hSl (h:=0) (ab hs _) hl (by omega) G9 λR2 Bq tI=>?_
  have e2:=Bq _ _ (heA _) nes
  have q2:=Bq _ _ (ab hql _) nqs
  have a2:=Bq _ _ w12 (by omega)
  simp only[D9,O6,hh6,hh7,↓ag,ah,simprocAttr,aK,e2,a2,H.d0,r2]
  have g0:(l.set 0 (1,key)).getD 0 (0,[])=(1,key):=by rw[aay,List.getElem?_set_self (by omega)];rfl
  have g1:(l.set 0 (1,key)).getD 1 (0,[])=l.getD 1 (0,[]):=by rw[aay,ab7 (by decide),<-aay]
  have MQ:∀aa,Kept (R2++[some ⟨.ref,[.sl L8 (rows.length+1) [0] 0 32 true,.sl L8 ql [] 0 1 ex]⟩]) aa->tF aa (.sl .ref R2.length [] 0 2 true) [eY R.flatten,[x]]:=λaa hK=>
   tF.sl (hK _ _ (a9 R2 _)) rfl (.cons (aY.uL (n:=32) (i:=0) (q:=[]) (hK _ _ (ab a2 _)) rfl (dk _)) (.cons (aY.own (hK _ _ (ab q2 _)) _ rfl) .nil))
  refine UD C3 C4 C5 hDe (l:=l.set 0 (1,key)) (ls:=[eY R.flatten,[x]]) (ab tI _) (by rw[abe];exact hl) (by rw[g0];exact Int.one_ne_zero) (by rw[g0];exact hkl) (by rw[g1];exact zw) MQ (by rw[g0];simp[JL,hkl,dk];decide) λR3 p Y8 hs3=>?_
  have e3:=Y8 _ _ (ab e2 _) nes
  have hs4:=ab hs3 [some ⟨LI,[.raw (it 0)]⟩]
  have g2:((l.set 0 (1,key)).set 1 p).getD 0 (0,[])=(1,key):=by rw[aay,ab7 (by decide),<-aay,g0]
  simp only[D9,O6,hh6,hh7,↓ag,ah,simprocAttr,aK,e3,H.w0,r3]
  refine wipe_run C6 C7 C8 hWp hs4 (a9 R3 [some ⟨LI,[.raw (it 0)]⟩]) (by rw[abe,abe];exact hl) (by rw[g2];exact Int.one_ne_zero) λR4 hF4 hs5=>?_
  simp only[D9,O6,hh6,hh7,↓ag,ah,simprocAttr,aK]
  refine hk _ _ (by simp only[has,↓ag,ah,simprocAttr,D9,O6,hh6]) (λq row hq hn=>?_) ⟨_,hs5⟩
  have hn:q≠L.sl:=λe=>hn (by simp[e])
  exact hF4 _ _ (ab (Y8 _ _ (ab (Bq _ _ (ab hq _) hn) _) hn) _) hn
structure LoaC (C:aU):Prop where
 bo:C.fn 61=some vU
 ex:C.fn 223=some DH
 b:LobC C
 c:LocC C
theorem UK(C:aU)(H:LoaC C){rows:Rows}{L:Ly}{S:zp}{b:Nat}{B:Bt}{R:List (List (BitVec 8))}{l:Lh}(hM:jd rows L S)(hb:cO rows b B)(hE:Fm rows L R l)(G9:(l.getD 0 (0,[])).1=0)(zw:(l.getD 1 (0,[])).1=0)(hr:cT B.qh=true)(zH:B.qh.dg.length=32){K:D->Rows->Prop}
  (hk:∀aa c',c'.w=S.c.w->Fr (L.all b) rows aa->jd aa L {S with st:=1,c:=c',co:=gI (536870912#32+BitVec.ofInt 32 B.qh.e)}->cO aa b {B with ph:=8,left:=0}->K (.cd []) aa):
  aB C 2 eW br [.ptr jN b [0],.ptr fq L.M [0]] rows K:=by
 refine ae rfl ?_
 rw[Y7]
 have hM0:=hM
 have hb0:=hb
 have hE0:=hE
 obtain⟨⟨k,n,he⟩,hs,hR,hl⟩:=hE
 obtain⟨l7,hsp,yx,qj,FK,E5⟩:=hM
 simp only[Bp]at l7
 simp only[enD]at he
 simp only[cO,ml]at hb
 have heA:=λL'=>ab he L'
 have hmaA:=λL'=>ab l7 L'
 have hbA:=λL'=>ab hb L'
 have kB:=λrows k=>Ov rows k B.qh zH hr
 have gm:(dw B.qh).get [3]=some (.agg (.ar 32 L8) (bs B.qh.dg)):=rfl
 have mf:=fI B.qh
 simp only[br,gX,og,eW,↓ag,ah,simprocAttr,aK,he,heA,hmaA,hb,hbA,l7,mf,gm,H.bo,kB]
 have hlf:[D.raw (u8 (BitVec.ofInt 8 B.mU))]=bs [BitVec.ofInt 8 B.mU]:=rfl
 have UL:=Fr.app [L.e] rows [some ⟨L8,bs (ci B.qh)⟩,some ⟨L8,[D.raw (u8 (BitVec.ofInt 8 B.mU))]⟩,some ⟨.ref,[.sl L8 rows.length [] 0 48 false,.sl L8 b [0,2,3] 0 32 true,.sl L8 (rows.length+1) [] 0 1 true]⟩]
 have r0:=a9 rows [some ⟨L8,bs (ci B.qh)⟩,some ⟨L8,[D.raw (u8 (BitVec.ofInt 8 B.mU))]⟩,some ⟨.ref,[.sl L8 rows.length [] 0 48 false,.sl L8 b [0,2,3] 0 32 true,.sl L8 (rows.length+1) [] 0 1 true]⟩]
 have r1:=bg rows [some ⟨L8,bs (ci B.qh)⟩,some ⟨L8,[D.raw (u8 (BitVec.ofInt 8 B.mU))]⟩,some ⟨.ref,[.sl L8 rows.length [] 0 48 false,.sl L8 b [0,2,3] 0 32 true,.sl L8 (rows.length+1) [] 0 1 true]⟩] 1
 have r2:=bg rows [some ⟨L8,bs (ci B.qh)⟩,some ⟨L8,[D.raw (u8 (BitVec.ofInt 8 B.mU))]⟩,some ⟨.ref,[.sl L8 rows.length [] 0 48 false,.sl L8 b [0,2,3] 0 32 true,.sl L8 (rows.length+1) [] 0 1 true]⟩] 2
 have he0:=heA [some ⟨L8,bs (ci B.qh)⟩,some ⟨L8,[D.raw (u8 (BitVec.ofInt 8 B.mU))]⟩,some ⟨.ref,[.sl L8 rows.length [] 0 48 false,.sl L8 b [0,2,3] 0 32 true,.sl L8 (rows.length+1) [] 0 1 true]⟩]
 have zt:=hbA [some ⟨L8,bs (ci B.qh)⟩,some ⟨L8,[D.raw (u8 (BitVec.ofInt 8 B.mU))]⟩,some ⟨.ref,[.sl L8 rows.length [] 0 48 false,.sl L8 b [0,2,3] 0 32 true,.sl L8 (rows.length+1) [] 0 1 true]⟩]
 have hel:=aR he
 have nbe:b≠L.e:=bB hb he (by intro h;cases h)
 have P0:(ci B.qh).length=48:=pW _ zH
 generalize rows++[some ⟨L8,bs (ci B.qh)⟩,some ⟨L8,[D.raw (u8 (BitVec.ofInt 8 B.mU))]⟩,some ⟨.ref,[.sl L8 rows.length [] 0 48 false,.sl L8 b [0,2,3] 0 32 true,.sl L8 (rows.length+1) [] 0 1 true]⟩]=R0 at*
 have hp:∀i:Nat,i<3->∃d p,[D.sl L8 rows.length [] 0 48 false,.sl L8 b [0,2,3] 0 32 true,.sl L8 (rows.length+1) [] 0 1 true][i]?=some d/\d.fits .ref=true/\p.length<=1000/\∀rs,Fr [L.e] R0 rs->∀more,aY (rs++more) d p:=by
  intro i hi
  have k:∀{q row rs},live R0 q=some row->q≠L.e->Fr [L.e] R0 rs->live rs q=some row:=λhq hn hf=>hf _ _ hq (by simpa using hn)
  match i,hi with
  |0,_=>exact⟨_,ci B.qh,rfl,rfl,by omega,λrs hf more=>aY.own (ab (k r0 (by omega) hf) more) _ P0.symm⟩
  |1,_=>exact⟨_,B.qh.dg,rfl,rfl,by omega,λrs hf more=>aY.uL (n:=32) (i:=0) (q:=[2,3]) (ab (k zt nbe hf) more) rfl zH⟩
  |2,_=>exact⟨_,[BitVec.ofInt 8 B.mU],rfl,rfl,by simp,λrs hf more=>aY.own (ab (k r1 (by omega) hf) more) _ rfl⟩
 refine bx 3 (λj env rs=>has env [(42,.raw (it (j:Int))),(41,.raw (it 3)),(40,.sl .ref (rows.length+2) [] 0 3 true),(0,.ptr jN b [0]),(1,.ptr fq L.M [0]),(6,.ptr Sf L.e [0]),(7,.sl L8 (rows.length+1) [] 0 1 true)]/\Fr [L.e] R0 rs/\∃R' k' n',Wp R'=true/\live rs L.e=some ⟨Sf,[.agg Sf [.ptr xc L.sl [0],jm R',k',n']]⟩) ?_ ?_ ⟨?_,Fr.refl _ _,R,k,n,hR,he0⟩
 ·rintro j hj env rs ⟨hh,hF,R',k',n',RW,he'⟩ Q hQ
  simp only[has]at hh
  obtain⟨d,p,hd,hdf,qm,hpb⟩:=hp j hj
  have e0:((j:Int)<3)=True:=aas (by omega)
  have e1:=cG j (by omega)
  have q2:=hF _ _ r2 (by simp;omega)
  have kX:∀k,aG DH (rs++[some ⟨.ref,[d]⟩]) k [jm R',.raw (it (j:Int)),.sl .ref rs.length [] 0 1 true]=_:=λk=>kExtend (rs++[some ⟨.ref,[d]⟩]) k R' j rs.length 1 true [d] [p] RW (a9 rs _) rfl (.cons (hpb _ hF _) .nil) (by simp) (by simp;omega)
  have hq:=jr he'
  have heA':=λL'=>ab he' L'
  have mfit:(jm (Oy R' j [p].flatten)).fits SMea=true:=rfl
  simp only[↓ag,ah,simprocAttr,aK,hh,e0,q2,hd,hdf,he',heA',hq,H.ex,kX,e1,mfit]
  exact⟨abc j,hQ _ _ ⟨by simp only[has,↓ag,ah,simprocAttr,hh],hF.trans (((Fr.refl _ _).set (List.mem_singleton_self _) _).trans (Fr.app _ _ _)),_,k',n',extR_ok RW _ _,hq.2.2.1 _ _⟩⟩
 ·rintro env rs ⟨hh,hF,R',k',n',RW,he'⟩ Q
  simp only[has]at hh
  have fe:∀q row,live rows q=some row->q≠L.e->live rs q=some row:=λq row hq hn=>hF _ _ (UL _ _ hq (by simpa using hn)) (by simpa using hn)
  have nse:L.sl≠L.e:=bB hs he (by intro h;cases h)
  have Lg:=hM0.off he (.inr rfl) fe
  have Kv:cO rs b B:=fe _ _ hb0 nbe
  have tI:=fe _ _ hs nse
  have hlf2:=hF _ _ r1 (by simp;omega)
  simp only[↓ag,ah,simprocAttr,aK,hh]
  refine lockB C H.b (ex:=true) (ql:=rows.length+1) (by simp only[has,↓ag,ah,simprocAttr,hh]) Lg Kv ⟨⟨k',n',he'⟩,tI,RW,hl⟩ hlf2 G9 zw λenv' aa hh' Y9 ⟨l',ib⟩=>?_
  have fs:∀q row,live rs q=some row->q≠L.sl->live aa q=some row:=λq row hq hn=>Y9 _ _ hq (by simpa using hn)
  have nbs:b≠L.sl:=bB hb hs (by intro h;cases h)
  refine lockC C H.c hh' (Lg.off tI (.inl rfl) fs) (fs _ _ Kv nbs) ⟨_,k',n',l',fs _ _ he' (abh nse),ib⟩ λmy c' hw Y8 hM3 hB3=>hk my c' hw (λq row hq hn=>?_) hM3 hB3
  have Nd:=hn
  simp only[Ly.all,aaI,aa1,acd,ad5]at Nd
  obtain⟨n1,n2,n3,n4,n5,n6,n7,n8⟩:=Nd
  exact Y8 _ _ (fs _ _ (fe _ _ hq n5) n6) hn
 ·simp only[has,↓ag,ah,simprocAttr]
structure Sj (C:aU):Prop where
 c0:C.fn 178=none
 c1:∃C1,C.cV 178=some (aB C1 2 eT cg)/\CdC C1
 s0:C.fn 179=none
 s1:∃C1,C.cV 179=some (aB C1 2 fm fj)/\StaC C1
 l0:C.fn 180=none
 l1:∃C1,C.cV 180=some (aB C1 2 cQ cP)/\LkC C1
 h0:C.fn 181=none
 h1:∃C1,C.cV 181=some (aB C1 2 eV eU)/\ChoC C1
 k0:C.fn 182=none
 k1:∃C1,C.cV 182=some (aB C1 2 eJ eI)/\CkC C1
 o0:C.fn 183=none
 o1:∃C1,C.cV 183=some (aB C1 2 eW br)/\LoaC C1
def Gr(f:lQ)(ds:List D)(rows:Rows)(P:D->Rows->Prop):Prop:=∀K:D->Rows->Prop,(∀d aa,P d aa->K d aa)->f ds rows K
def PB(Z:Bool->Rows->Prop)(d:D)(rows:Rows):Prop:=∃v,d= .raw (.bool v)/\Z v rows
def PU(Z:Rows->Prop)(d:D)(rows:Rows):Prop:=d= .cd []/\Z rows
section
variable {C:aU} {rows:Rows} {L:Ly} {b:Nat} {B:Bt} {Z:Bool->Rows->Prop}
def Tk(C:aU)(L:Ly)(b:Nat)(rows:Rows)(Z:Bool->Rows->Prop):Prop:=Gr (aB C 2 cz cx) [.ptr jN b [0],.ptr fq L.M [0]] rows (PB Z)
theorem tick_dec(H:Sj C)(n:Nat)(hn:n<=100)(hb:cO rows b B)(hp:B.ph=1\/B.ph=2)(hl:B.left=((n+2:Nat):Int))(hz:Z false (rows.set b (some ⟨jN,[ml {B with left:=((n+1:Nat):Int)}]⟩))):Tk C L b rows Z:=by
 intro K hK
 have hk:=hK _ _ ⟨false,rfl,hz⟩
 refine ae rfl ?_
 unfold cx cz
 simp only[cO,ml]at hb
 have hs:=λx=>aD (y:=x) hb
 have w:wz (((n+2:Nat):Int)-1)=((n+1:Nat):Int):=by rw[bh (by omega)];omega
 have e:(0<((n+1:Nat):Int))=True:=aas (by omega)
 rcases hp with hp|hp<;>simp only[↓ag,ah,simprocAttr,aK,hb,hs,hp,hl,w,e]<;>(rw[ml,hp]at hk;exact hk)
theorem tick5{C1:aU}(H:Sj C)(hb:cO rows b B)(hp:B.ph=5)(h:C.cV 178=some (aB C1 2 eT cg))(hk:Gr (aB C1 2 eT cg) [.ptr jN b [0],.ptr fq L.M [0]] rows (PB Z)):Tk C L b rows Z:=by
 intro K hK
 refine ae rfl ?_
 unfold cx cz
 simp only[cO,ml]at hb
 simp only[↓ag,ah,simprocAttr,aK,hb,hp,H.c0,h]
 refine hk _ λd aa hd=>?_
 obtain⟨v,rfl,hz⟩:=hd
 simp only[↓ag,ah,simprocAttr]
 exact hK _ _ ⟨v,rfl,hz⟩
theorem tick0{C1:aU}(H:Sj C)(hb:cO rows b B)(hp:B.ph=0)(hl:B.left=1)(h:C.cV 179=some (aB C1 2 fm fj))(hk:Gr (aB C1 2 fm fj) [.ptr jN b [0],.ptr fq L.M [0]] (rows.set b (some ⟨jN,[ml {B with left:=0}]⟩)) (PB Z)):Tk C L b rows Z:=by
 intro K hK
 refine ae rfl ?_
 unfold cx cz
 simp only[cO,ml]at hb
 have hs:=λx=>aD (y:=x) hb
 rw[ml]at hk
 simp only[hp]at hk
 simp only[↓ag,ah,simprocAttr,aK,hb,hs,hp,hl,H.s0,h]
 refine hk _ λd aa hd=>?_
 obtain⟨v,rfl,hz⟩:=hd
 simp only[↓ag,ah,simprocAttr]
 exact hK _ _ ⟨_,rfl,hz⟩
theorem tick3{C1:aU}(H:Sj C)(hb:cO rows b B)(hp:B.ph=3)(hl:B.left=1)(h:C.cV 181=some (aB C1 2 eV eU))(hk:Gr (aB C1 2 eV eU) [.ptr jN b [0],.ptr fq L.M [0]] (rows.set b (some ⟨jN,[ml {B with left:=0}]⟩)) (PB Z)):Tk C L b rows Z:=by
 intro K hK
 refine ae rfl ?_
 unfold cx cz
 simp only[cO,ml]at hb
 have hs:=λx=>aD (y:=x) hb
 rw[ml]at hk
 simp only[hp]at hk
 simp only[↓ag,ah,simprocAttr,aK,hb,hs,hp,hl,H.h0,h]
 refine hk _ λd aa hd=>?_
 obtain⟨v,rfl,hz⟩:=hd
 simp only[↓ag,ah,simprocAttr]
 exact hK _ _ ⟨_,rfl,hz⟩
theorem tick6{C1:aU}(H:Sj C)(hb:cO rows b B)(hp:B.ph=6)(hl:B.left=1)(h:C.cV 182=some (aB C1 2 eJ eI))(hk:Gr (aB C1 2 eJ eI) [.ptr jN b [0],.ptr fq L.M [0]] (rows.set b (some ⟨jN,[ml {B with left:=0}]⟩)) (PB Z)):Tk C L b rows Z:=by
 intro K hK
 refine ae rfl ?_
 unfold cx cz
 simp only[cO,ml]at hb
 have hs:=λx=>aD (y:=x) hb
 rw[ml]at hk
 simp only[hp]at hk
 simp only[↓ag,ah,simprocAttr,aK,hb,hs,hp,hl,H.k0,h]
 refine hk _ λd aa hd=>?_
 obtain⟨v,rfl,hz⟩:=hd
 simp only[↓ag,ah,simprocAttr]
 exact hK _ _ ⟨_,rfl,hz⟩
theorem tick7{C1:aU}(H:Sj C)(hb:cO rows b B)(hp:B.ph=7)(hl:B.left=1)(h:C.cV 183=some (aB C1 2 eW br))(hk:Gr (aB C1 2 eW br) [.ptr jN b [0],.ptr fq L.M [0]] (rows.set b (some ⟨jN,[ml {B with left:=0}]⟩)) (PU (Z true))):Tk C L b rows Z:=by
 intro K hK
 refine ae rfl ?_
 unfold cx cz
 simp only[cO,ml]at hb
 have hs:=λx=>aD (y:=x) hb
 rw[ml]at hk
 simp only[hp]at hk
 simp only[↓ag,ah,simprocAttr,aK,hb,hs,hp,hl,H.o0,h]
 refine hk _ λd aa hd=>?_
 obtain⟨rfl,hz⟩:=hd
 simp only[↓ag,ah,simprocAttr]
 exact hK _ _ ⟨_,rfl,hz⟩
theorem tick1{C1:aU}(H:Sj C)(hb:cO rows b B)(hp:B.ph=1)(hl:B.left=1)(h:C.cV 180=some (aB C1 2 cQ cP))(hk:Gr (aB C1 2 cQ cP) [.ptr jN b [0],.ptr fq L.M [0]] (rows.set b (some ⟨jN,[ml {B with left:=0}]⟩)) (PU (Z false))):Tk C L b rows Z:=by
 intro K hK
 refine ae rfl ?_
 unfold cx cz
 simp only[cO,ml]at hb
 have hs:=λx=>aD (y:=x) hb
 rw[ml]at hk
 simp only[hp]at hk
 simp only[↓ag,ah,simprocAttr,aK,hb,hs,hp,hl,H.l0,h]
 refine hk _ λd aa hd=>?_
 obtain⟨rfl,hz⟩:=hd
 simp only[↓ag,ah,simprocAttr]
 exact hK _ _ ⟨_,rfl,hz⟩
theorem tick2{C1:aU}(H:Sj C)(hb:cO rows b B)(hp:B.ph=2)(hl:B.left=1)(h:C.cV 180=some (aB C1 2 cQ cP))(hk:Gr (aB C1 2 cQ cP) [.ptr jN b [0],.ptr fq L.M [0]] (rows.set b (some ⟨jN,[ml {B with left:=0}]⟩)) (PU (Z false))):Tk C L b rows Z:=by
 intro K hK
 refine ae rfl ?_
 unfold cx cz
 simp only[cO,ml]at hb
 have hs:=λx=>aD (y:=x) hb
 rw[ml]at hk
 simp only[hp]at hk
 simp only[↓ag,ah,simprocAttr,aK,hb,hs,hp,hl,H.l0,h]
 refine hk _ λd aa hd=>?_
 obtain⟨rfl,hz⟩:=hd
 simp only[↓ag,ah,simprocAttr]
 exact hK _ _ ⟨_,rfl,hz⟩
theorem Tk.mono{Z':Bool->Rows->Prop}(t:Tk C L b rows Z)(h:∀v aa,Z v aa->Z' v aa):Tk C L b rows Z':=λK hK=>t K λd aa ⟨v,e,z⟩=>hK d aa ⟨v,e,h v aa z⟩
end
end kj
end Go.Am

import Derived.Test.YtgcejocgnfkciaaGreatDoorKg9
set_option linter.unusedSimpArgs false
set_option linter.unusedVariables false
set_option maxRecDepth 10000
set_option maxHeartbeats 4000000
namespace Go.Am
attribute [local congr] dq bW dt bX bY cB bI bZ b5 cC bu cD b6 dj
namespace jU
open Go.Am.F
def tP:Fn:=tW PL PL (λx y=>decide (x=1#64)&&decide (y.toNat<4294967296)) λ_ y=>(.cA [.raw (u64 0#64),.raw (u64 y)],[])
theorem QG(C:bf)(hC:aJ C P):aN C.aX P 188 (Fn.run tP):=by
 refine aG (CV C hC) λds rows r h=>?_
 obtain⟨d,e,x,y,rfl,rfl,hd,he,hp,rfl⟩:=cQ h
 cases qA hd
 cases qA he
 simp only[aan,aat]at hp
 obtain⟨rfl,hy⟩:=hp
 refine⟨rfl,ag rfl ?_⟩
 clear h hd he
 unfold s5 s6
 have h1:y&&&4294967295#64=y:=by
  apply aaG
  rw[ad1]
  have:(4294967295#64).toNat=2^32-1:=by decide
  rw[this,ade];omega
 have h2:y>>>32=0#64:=by
  apply aaG
  rw[abH,abb];simp;omega
 have h3:1#64&&&4294967295#64=1#64:=by decide
 have h4:1#64>>>32=0#64:=by decide
 have h5:0#64&&&4294967295#64=0#64:=by decide
 have h6:0#64>>>32=0#64:=by decide
 simp only[↓ah,aj,simprocAttr,h1,h2,h3,h4,h5,h6,BitVec.one_mul,BitVec.zero_mul,BitVec.mul_zero,BitVec.add_zero]
 exact .val _ rfl
theorem kMul64(rows:Rows)(k:D->Rows->Prop)(y:BitVec 64)(h:y.toNat<4294967296):aI tP rows k [.raw (u64 1#64),.raw (u64 y)]=k (.cA [.raw (u64 0#64),.raw (u64 y)]) rows:=by
 refine(a9 rfl (r:=(.cA [.raw (u64 0#64),.raw (u64 y)],[])) ?_).trans ?_
 ·rw[tP,gR (yN _) (yN _) (by simp[h])]
 ·simp[shift,bB,ab]
theorem V0(C:bf)(hC:aJ C P)(hm:C.fn 188=some tP):aN C.aX P 163 (Fn.run tP):=by
 refine aG (GC C hC) λds rows r h=>?_
 obtain⟨d,e,x,y,rfl,rfl,hd,he,hp,rfl⟩:=cQ h
 cases qA hd
 cases qA he
 simp only[aan,aat]at hp
 obtain⟨rfl,hy⟩:=hp
 refine⟨rfl,ag rfl ?_⟩
 clear h hd he
 unfold wm wo
 have k1:=λrows k=>kMul64 rows k y hy
 simp only[↓ah,aj,simprocAttr,hm,k1]
 exact .val _ rfl
def qx:Fn:=tW dB tH (λb n=>decide (b.length=1)&&decide (0<=n)&&decide (n<=1048576)) λb n=>dF (List.replicate n.toNat (b.getD 0 0#8)) false
theorem rep_take(l:List (BitVec 8))(x:BitVec 8)(bp c n:Nat)(hl:l.length=n)(h:l.take bp=List.replicate bp x)(hb:bp<=n)(hc:c<=bp)(m:Nat)(hm:m=min c (n-bp)):(bh l bp ((l.take c).take m)).take (bp+m)=List.replicate (bp+m) x:=by
 have e1:(l.take c).take m=List.replicate m x:=by
  have h2:l.take c=List.replicate c x:=by
   have:=abB (List.take c) h
   rw[acV,aed,show min c bp=c by omega]at this
   exact this
  rw[h2,aed,show min m c=m by omega]
 rw[bh,e1,h,ab0 (by simp),ab9,aaq (by simp)]
theorem jL{α:Type}(l:List α)(off:Nat)(xs:List α)(h:off+xs.length<=l.length):(bh l off xs).length=l.length:=by
 simp[bh];omega
theorem JH(l:List (BitVec 8))(off:Nat)(xs:List (BitVec 8)):bh (bs l) off (bs xs)=bs (bh l off xs):=by
 simp[bh,bs]
theorem Dy{rows:Rows}{r off len:Nat}{ex:Bool}{l src:List (BitVec 8)}{k:D->Rows->Prop}(h:live rows r=some ⟨L8,bs l⟩)(hle:off+len<=l.length):
  o5 rows L8 (.sl L8 r [] off len ex) (bs src) k=k (.raw (it (min src.length len:Nat))) (rows.set r (some ⟨L8,bs (bh l off (src.take (min src.length len)))⟩)):=by
 unfold o5
 simp only[h,bn,aB,dO,JH,hle,aa2]
 rfl
theorem My(C:bf)(hC:aJ C P)(hm:C.fn 163=some tP):aN C.aX P 103 (Fn.run qx):=by
 refine bU (ID C hC) λds rows r h=>?_
 obtain⟨d,e,b,n,rfl,rfl,hd,he,hp,rfl⟩:=cQ h
 obtain⟨x,hx⟩:=cb hd
 cases bK he
 simp only[aan,aat]at hp
 obtain⟨⟨hb,h0⟩,hn⟩:=hp
 obtain⟨n,rfl⟩:=aaD h0
 refine⟨rfl,_,.cons hx (.cons (.refl _) .nil),ag rfl ?_⟩
 obtain⟨b0,rfl⟩:∃b0,b=[b0]:=by
  match b,hb with
  |[b0],_=>exact⟨b0,rfl⟩
 clear h hd he hx hb
 unfold xN xO
 have RO:bs [b0]=[.raw (u8 b0)]:=rfl
 have hg:[b0].getD 0 0#8=b0:=rfl
 simp only[RO,hg,aaB]
 by_cases hz:n=0
 ·subst hz
  simp only[↓ah,aj,simprocAttr]
  exact .own L8 0 0 0 true false _ rfl rfl (λh=>by cases h)
 ·have e0:((n:Int)=0)=False:=aax (by omega)
  have e1:((n:Int)<0)=False:=aax (by omega)
  have e2:BitVec.ofInt 64 (n:Int)=BitVec.ofNat 64 n:=by simp
  have hnn:(BitVec.ofNat 64 n).toNat=n:=by simp;omega
  have e3:BitVec.ofInt 64 1=1#64:=by decide
  have km:=λrows k=>kMul64 rows k (BitVec.ofNat 64 n) (by omega)
  have e4:(0#64<0#64)=False:=aax (by decide)
  have e5:(9223372036854775807#64<BitVec.ofNat 64 n)=False:=aax (by rw[acz,hnn];simp;omega)
  have e6:wz (n:Int)=(n:Int):=aZ (by omega)
  have main:∀c:Nat,c=min n 8192->True:=λ_ _=>trivial
  obtain⟨c,hc⟩:∃c,c=min n 8192:=⟨_,rfl⟩
  have hcz:((n:Int)=((n:Nat):Int)):=rfl
  have z1:((0:Int)<=(n:Int))=True:=aas (by omega)
  have z2:((n:Int)<=1099511627776)=True:=aas (by omega)
  have z3:∀l:List (BitVec 8),(l.map λb=>D.raw (.int .u8 (b.toNat:Int)))=bs l:=λ_=>rfl
  by_cases hbig:8192<n
  all_goals
   have e7:((8192:Int)<(n:Int))=(8192<n):=by rw[eq_iff_iff];omega
   simp only[hbig,ac3,aek]at e7
   have z4:Int.tdiv 8192 1=8192:=by decide
   simp only[↓ah,aj,simprocAttr,e0,e1,e2,e3,e4,e5,e6,e7,hm,km,hnn,z1,z2,z3,z4]
   try simp only[↓ah,aj,simprocAttr,e0,e1,e2,e3,e4,e5,e6,e7,hm,km,hnn,z1,z2,z3,z4]
   intro l hl
   refine Eq.mpr (Dy (l:=l) (src:=[b0]) rfl (by omega)) ?_
   have pE:min [b0].length (n-0)=1:=by simp;omega
   have hsp:(bh l 0 ([b0].take 1)).take 1=List.replicate 1 b0:=by simp[bh]
   have kf:(bh l 0 ([b0].take 1)).length=n:=by rw[jL _ _ _ (by simp;omega),hl]
   rw[pE]
   generalize bh l 0 ([b0].take 1)=l1 at*
   simp only[↓ah,aj,simprocAttr]
   refine oI (λk env rows=>∃bp:Nat,∃l2:List (BitVec 8),k=n-bp/\1<=bp/\bp<=n/\l2.length=n/\l2.take bp=List.replicate bp b0/\has env [(10,.raw (it (bp:Int))),(7,.raw (it (n:Int))),(8,.raw (it (c:Int))),(9,.sl L8 0 [] 0 n (qJ (some (n:Int)) n n n false))]/\rows=[some ⟨L8,bs l2⟩]) ?_ (n-1) ⟨1,l1,rfl,aaz _,by omega,kf,hsp,?_,rfl⟩
   ·rintro k env rows ⟨bp,l2,rfl,pS,hbn,xf,ht,hh,rfl⟩ R hR
    simp only[has]at hh
    obtain⟨h10,h7,h8,h9,-⟩:=hh
    by_cases hlt:bp<n
    ·have f0:((bp:Int)<(n:Int))=True:=aas (by omega)
     have f1:min (bp:Int) (c:Int)=((min bp c:Nat):Int):=by omega
     have f2:((0:Int)<=(bp:Int))=True:=aas (by omega)
     have f3:((bp:Int)<=(n:Int))=True:=aas (by omega)
     have f4:((0:Int)<=((min bp c:Nat):Int))=True:=aas (by omega)
     have f5:(((min bp c:Nat):Int)<=(n:Int))=True:=aas (by omega)
     simp only[↓ah,aj,simprocAttr,h10,h7,h8,h9,f0,f1,f2,f3,f4,f5,aav]
     rw[acB,dO]
     refine⟨by rw[aB,aau];omega,Eq.mpr (Dy rfl (by omega)) ?_⟩
     obtain⟨m,hm'⟩:∃m,m=min ((l2.take (min bp c)).length) (n-bp):=⟨_,rfl⟩
     have KA:m=min (min bp c) (n-bp):=by rw[hm',aau];omega
     have hr:=rep_take l2 b0 bp (min bp c) n xf ht hbn (by omega) m KA
     have hsl2:(bh l2 bp ((l2.take (min bp c)).take m)).length=n:=by rw[jL _ _ _ (by rw[aau,aau];omega),xf]
     rw[<-hm']
     generalize bh l2 bp ((l2.take (min bp c)).take m)=l3 at*
     have f6:wz ((bp:Int)+(m:Int))=((bp+m:Nat):Int):=by rw[aZ (by omega)];omega
     simp only[↓ah,aj,simprocAttr,h10,h7,h8,h9,f6]
     exact hR (n-(bp+m)) _ _ (by omega) ⟨bp+m,l3,rfl,by omega,by omega,hsl2,hr,by simp only[has,↓ah,aj,simprocAttr,h7,h8,h9],rfl⟩
    ·obtain rfl:bp=n:=by omega
     have f0:((bp:Int)<(bp:Int))=False:=aax (by omega)
     rw[aaq (by omega)]at ht
     simp only[↓ah,aj,simprocAttr,h10,h7,h8,h9,f0,aaw,ht]
     subst ht
     exact iT.Nl (l:=List.replicate bp b0) (.inr ⟨0,_,by rw[aB,aaS],rfl⟩)
   ·simp only[has,↓ah,aj,simprocAttr,hc,acB]
    first|(rw[show min n 8192=8192 by omega];rfl)|rw[show min n 8192=n by omega]
theorem Of{rows:Rows}{d:D}{b:BitVec 8}(h:aU rows d [b])(n:Nat)(hn:n<=1048576)(k:D->Rows->Prop):
  aI qx rows k [d,.raw (it (n:Int))]=k (.sl L8 (0+rows.length) [] 0 n false) (rows++[some ⟨L8,bs (List.replicate n b)⟩]):=by
 refine(Dj h (lc (n:Int)) (by simp;omega) rfl).trans ?_
 simp[dF,shift,ab,Sh.pure]
abbrev SF:Sh:=S19
abbrev FV:=Option (List (BitVec 8)×Bool)
def AA:FV->D
 |none=> .raw (.pointer none)
 |some (x,e)=> .cd (.agg SF [.cI L8 (bs x) e])
theorem bs_injF{a b:List (BitVec 8)}(h:bs a=bs b):a=b:=(adi λx y hxy=>by cases(D.raw.inj hxy:u8 x=u8 y)|>u8_inj.1;rfl).1 h
theorem yV(x y:FV)(h:AA x=AA y):x=y:=by
 rcases x with _|⟨x,e⟩<;>rcases y with _|⟨y,f⟩
 ·rfl
 ·cases h
 ·cases h
 ·unfold AA at h
  injection h with h
  injection h with _ h
  injection h with h _
  injection h with _ h h2
  rw[bs_injF h,h2]
def nf:FV->Nat
 |none=>0
 |some (x,_)=>x.length
def mJ:FV->Int->Int->Int
 |none,_,_=>3
 |some (x,_),a,n=>if a<0\/n<0\/(x.length:Int)<a\/(x.length:Int)-a<n then 9 else 0
def wN:FV->Int->Int
 |none,_=>3
 |some (x,_),i=>if i<0\/((x.length/256:Nat):Int)<=i then 9 else 0
noncomputable def vJ:Fn:=GY (bx AA) tH tH (λK _ _=>decide (nf K<=1048576)) λK a n=>(.raw (it (mJ K a n)),[])
theorem Mz(C:bf)(hC:aJ C P):aN C.aX P 62 (Fn.run vJ):=by
 refine aG (xH C hC) λds rows r h=>?_
 obtain⟨d,e,f,K,a,n,rfl,rfl,hd,he,hf,hp,rfl⟩:=fp h
 cases aE hd
 cases bK he
 cases bK hf
 simp only[aat]at hp
 refine⟨rfl,ag rfl ?_⟩
 clear h hd he hf
 unfold pe pf
 rcases K with _|⟨x,e⟩
 ·simp only[AA,↓ah,aj,simprocAttr,mJ]
  exact .val _ rfl
 ·simp only[nf]at hp
  simp only[AA,mJ]
  by_cases c1:a<0
  ·simp only[↓ah,aj,simprocAttr,c1,aeG,abX]
   exact .val _ rfl
  by_cases c2:n<0
  ·simp only[↓ah,aj,simprocAttr,c1,c2,aeG,aep,abX,aaw,aav]
   exact .val _ rfl
  by_cases c3:(x.length:Int)<a
  ·simp only[↓ah,aj,simprocAttr,aB,c1,c2,c3,aeG,aep,abX,aaw,aav]
   exact .val _ rfl
  have e1:wz ((x.length:Int)-a)=(x.length:Int)-a:=aZ (by omega)
  by_cases c4:(x.length:Int)-a<n
  ·simp only[↓ah,aj,simprocAttr,aB,c1,c2,c3,c4,e1,aeG,aep,abX,aaw,aav]
   exact .val _ rfl
  ·simp only[↓ah,aj,simprocAttr,aB,c1,c2,c3,c4,e1,or_self,abW,aaw,aav]
   exact .val _ rfl
noncomputable def Bq:Fn:=tW (bx AA) tH (λK _=>decide (nf K<=1048576)) λK i=>(.raw (it (wN K i)),[])
theorem V1(C:bf)(hC:aJ C P):aN C.aX P 168 (Fn.run Bq):=by
 refine aG (Ba C hC) λds rows r h=>?_
 obtain⟨d,e,K,i,rfl,rfl,hd,he,hp,rfl⟩:=cQ h
 cases aE hd
 cases bK he
 simp only[aat]at hp
 refine⟨rfl,ag rfl ?_⟩
 clear h hd he
 unfold rB rC
 rcases K with _|⟨x,e⟩
 ·simp only[AA,↓ah,aj,simprocAttr,wN]
  exact .val _ rfl
 ·simp only[nf]at hp
  simp only[AA,wN]
  have e1:(x.length:Int).tdiv 256=((x.length/256:Nat):Int):=rfl
  have e2:wz ((x.length/256:Nat):Int)=((x.length/256:Nat):Int):=aZ (by omega)
  by_cases c1:i<0
  ·simp only[↓ah,aj,simprocAttr,c1,aeG,abX]
   exact .val _ rfl
  by_cases c2:((x.length/256:Nat):Int)<=i
  ·simp only[↓ah,aj,simprocAttr,aB,e1,e2,c1,c2,aeG,aep,abX,aaw,aav]
   exact .val _ rfl
  ·simp only[↓ah,aj,simprocAttr,aB,e1,e2,c1,c2,or_self,abW,aaw,aav]
   exact .val _ rfl
def clr1(a b:List (BitVec 8))(i:Nat):Prop:=b.getD i 0#8&&&~~~a.getD i 0#8=0#8
def clears(a b:List (BitVec 8)):Prop:=∀i,i<b.length->clr1 a b i
noncomputable def tw:Fn:=tW dB dB (λa b=>decide (b.length<=a.length)&&decide (a.length<=1048576)) λa b=>(.raw (.bool (open Classical in decide (clears a b))),[])
theorem MA(C:bf)(hC:aJ C P):aN C.aX P 105 (Fn.run tw):=by
 refine bU (IE C hC) λds rows r h=>?_
 obtain⟨d,e,a,b,rfl,rfl,hd,he,hp,rfl⟩:=cQ h
 obtain⟨x,hx⟩:=cb hd
 obtain⟨y,hy⟩:=cb he
 simp only[aan,aat]at hp
 obtain⟨hp,sq⟩:=hp
 refine⟨rfl,_,.cons hx (.cons hy .nil),ag rfl ?_⟩
 clear h hd he hx hy
 unfold xP xQ
 simp only[↓ah,aj,simprocAttr,aB]
 refine bg b.length (λi env rows=>has env [(9,.raw (it (i:Int))),(8,.raw (it (b.length:Int))),(7,.cI L8 (bs b) y),(0,.cI L8 (bs a) x)]/\rows=[]/\∀j,j<i->clr1 a b j) ?_ ?_ ⟨?_,rfl,λj h=>by omega⟩
 ·rintro i hi env rows ⟨hh,rfl,hc⟩ R hR
  simp only[has]at hh
  obtain⟨h9,h8,h7,h0,-⟩:=hh
  have e0:((i:Int)<(b.length:Int))=True:=aas (by omega)
  have e2:=ca i (by omega)
  have g1:∀rows k,oH L8 (i:Int) rows k (.cI L8 (bs b) y)=k (.cd (.raw (u8 (b.getD i 0#8)))) rows:=λrows k=>idx_bs b y i hi rows k
  have g2:∀rows k,oH L8 (i:Int) rows k (.cI L8 (bs a) x)=k (.cd (.raw (u8 (a.getD i 0#8)))) rows:=λrows k=>idx_bs a x i (by omega) rows k
  by_cases hz:clr1 a b i
  ·have Kw:b.getD i 0#8&&&~~~a.getD i 0#8=0#8:=hz
   simp only[↓ah,aj,simprocAttr,h9,h8,h7,h0,e0,e2,g1,g2,Kw,aav]
   exact hR _ _ ⟨by simp only[has,↓ah,aj,simprocAttr,h8,h7,h0],rfl,λj hj=>by
    rcases aaZ j i with h|h
    ·exact hc j h
    ·obtain rfl:j=i:=by omega
     exact hz⟩
  ·have Kw:(b.getD i 0#8&&&~~~a.getD i 0#8=0#8)=False:=aax hz
   have hno:(open Classical in decide (clears a b))=false:=by
    classical
    rw[ab7]
    exact λh=>hz (h i hi)
   simp only[↓ah,aj,simprocAttr,h9,h8,h7,h0,e0,e2,g1,g2,Kw,hno,aav,aaw]
   exact .val _ rfl
 ·rintro env rows ⟨hh,rfl,hc⟩ R
  simp only[has]at hh
  obtain⟨h9,h8,h7,h0,-⟩:=hh
  have e0:((b.length:Int)<(b.length:Int))=False:=aax (by omega)
  have hy:(open Classical in decide (clears a b))=true:=by
   classical
   rw[decide_eq_true_iff]
   exact hc
  simp only[↓ah,aj,simprocAttr,h9,h8,h7,h0,e0,hy,aaw]
  exact .val _ rfl
 ·simp only[has,↓ah,aj,simprocAttr]
structure gE (rows:Rows) (r m:Nat) (x:List (BitVec 8)):Prop where
 ptr:∃ex,live rows r=some ⟨SF,[.agg SF [.sl L8 m [] 0 x.length ex]]⟩
 dat:live rows m=some ⟨L8,bs x⟩
theorem gE.view{rows:Rows}{r m:Nat}{x:List (BitVec 8)}(h:gE rows r m x):∃e,view rows 9 (.ptr SF r [0])=some (AA (some (x,e))):=by
 obtain⟨⟨ex,h1⟩,h2⟩:=h
 refine⟨ex,?_⟩
 have he:elems rows (.sl L8 m [] 0 x.length ex)=some (bs x):=by
  simp only[elems,h2];simp[fT]
 simp only[Am.view,h1,dC,abM,D.get,AA,Sh.pure,dU]
 rw[he]
 simp[aB,dU,he]
theorem gE.push{rows:Rows}{r m:Nat}{x:List (BitVec 8)}(h:gE rows r m x)(more:Rows):gE (rows++more) r m x:=by
 obtain⟨⟨ex,h1⟩,h2⟩:=h
 exact⟨⟨ex,a7 h1⟩,a7 h2⟩
theorem gE.set{rows:Rows}{r m:Nat}{x:List (BitVec 8)}(h:gE rows r m x){q:Nat}{y:Row}(h1:q≠r)(h2:q≠m):gE (rows.set q (some y)) r m x:=by
 obtain⟨⟨ex,g1⟩,g2⟩:=h
 exact⟨⟨ex,df g1 h1⟩,df g2 h2⟩
def QI(rows:Rows)(d:D)(K:FV):Prop:=(aR d=true/\view rows 9 d=some (AA K))\/(d=AA K/\aR d=false)
theorem gE.to{rows:Rows}{r m:Nat}{x:List (BitVec 8)}(h:gE rows r m x):∃e,QI rows (.ptr SF r [0]) (some (x,e)):=by
 obtain⟨e,h⟩:=h.view
 exact⟨e,.inl ⟨by simp[aR],h⟩⟩
theorem Dz{F:Fn}{rows:Rows}{d:D}{K:FV}(h:QI rows d K){vs:List D}(hv:dU (view rows 9) vs=some vs)(hn:aW vs=false){r:D×Rows}(hF:F (AA K::vs) []=some r)(hr:(cj r.1&&be r.2)=true)(k:D->Rows->Prop):
  aI F rows k (d::vs)=k (shift rows.length r.1) (rows++ab rows.length r.2):=by
 unfold aI
 rcases h with⟨h1,h2⟩|⟨rfl,h2⟩
 ·simp[aW,h1,dU,h2,hv,bn,hF,hr]
 ·simp[aW,h2,hn,bn,hF]
theorem V2{rows:Rows}{d:D}{K:FV}(h:QI rows d K)(hl:nf K<=1048576)(a n:Int)(k:D->Rows->Prop):aI vJ rows k [d,.raw (it a),.raw (it n)]=k (.raw (it (mJ K a n))) rows:=by
 refine(Dz h rfl rfl (r:=(.raw (it (mJ K a n)),[])) ?_ rfl k).trans ?_
 ·simp only[vJ,Bf,br yV,lc,abc,hl,aav,aaU]
 ·simp[shift,ab]
theorem kPageE{rows:Rows}{d:D}{K:FV}(h:QI rows d K)(hl:nf K<=1048576)(i:Int)(k:D->Rows->Prop):aI Bq rows k [d,.raw (it i)]=k (.raw (it (wN K i))) rows:=by
 refine(Dz h rfl rfl (r:=(.raw (it (wN K i)),[])) ?_ rfl k).trans ?_
 ·simp only[Bq,fn2_ev,br yV,lc,abc,hl,aav,aaU]
 ·simp[shift,ab]
theorem V3{rows:Rows}{d e:D}{a b:List (BitVec 8)}(h:aU rows d a)(h':aU rows e b)(hb:b.length<=a.length)(ha:a.length<=1048576)(k:D->Rows->Prop):aI tw rows k [d,e]=k (.raw (.bool (open Classical in decide (clears a b)))) rows:=by
 refine(En h h' (by simp[hb,ha]) rfl).trans ?_
 simp[shift,ab]
theorem Og{x:List (BitVec 8)}{e:Bool}{a n:Int}(h:mJ (some (x,e)) a n=0):0<=a/\0<=n/\a<=x.length/\n<=x.length-a:=by
 simp only[mJ]at h
 split at h
 ·cases h
 ·omega
theorem errP_0{x:List (BitVec 8)}{e:Bool}{i:Int}(h:wN (some (x,e)) i=0):0<=i/\256*i+256<=x.length:=by
 simp only[wN]at h
 split at h
 ·cases h
 ·omega
def sub(x:List (BitVec 8))(a n:Nat):List (BitVec 8):=(x.drop a).take n
theorem lS{x:List (BitVec 8)}{a n:Nat}(h:a+n<=x.length):(sub x a n).length=n:=by
 rw[sub,aau,aar];omega
def oB:FV->List (BitVec 8)
 |none=>[]
 |some (x,_)=>x
def JI(K:FV)(a n:Int):D×Rows:=
 if mJ K a n=0 then(.cA [.sl L8 0 [] 0 n.toNat false,.raw (it 0)],[some ⟨L8,bs (sub (oB K) a.toNat n.toNat)⟩])else(.cA [.raw (.slice none 0 0),.raw (it (mJ K a n))],[])
noncomputable def tx:Fn:=GY (bx AA) tH tH (λK _ _=>decide (nf K<=1048576)) JI
theorem lstIn(rows:Rows)(l:List (BitVec 8))(e:Bool):aU rows (.cI L8 (bs l) e) l:=ez.to (.inr ⟨e,rfl⟩)
theorem Oh(rows:Rows)(K:FV):QI rows (AA K) K:=by
 refine .inr ⟨rfl,?_⟩
 rcases K with _|⟨x,e⟩<;>simp[AA,aR,aW,Sh.pure]
theorem read_ok(C:bf)(hC:aJ C P)(hw:C.fn 62=some vJ)(hc:C.fn 73=some tM):aN C.aX P 23 (Fn.run tx):=by
 refine aG (AV C hC) λds rows r h=>?_
 obtain⟨d,e,f,K,a,n,rfl,rfl,hd,he,hf,hp,rfl⟩:=fp h
 cases aE hd
 cases bK he
 cases bK hf
 simp only[aat]at hp
 refine⟨rfl,ag rfl ?_⟩
 clear h hd he hf
 unfold qW qX
 have k1:=λrows k=>V2 (Oh rows K) hp a n k
 by_cases h0:mJ K a n=0
 ·rw[JI,aaI h0]
  rcases K with _|⟨x,e⟩
  ·cases h0
  simp only[nf]at hp
  obtain⟨b1,b2,b3,b4⟩:=Og h0
  rw[h0]at k1
  obtain⟨a,rfl⟩:=aaD b1
  obtain⟨n,rfl⟩:=aaD b2
  have e1:wz ((a:Int)+(n:Int))=((a+n:Nat):Int):=by rw[aZ (by omega)];omega
  have e2:((0:Int)<=(a:Int))=True:=aas (by omega)
  have e3:((a:Int)<=((a+n:Nat):Int))=True:=aas (by omega)
  have e4:(((a+n:Nat):Int)<=(x.length:Int))=True:=aas (by omega)
  have e5:a+n-a=n:=by omega
  have kf:(sub x a n).length=n:=lS (by omega)
  have kc:=λrows k e=>Ji rows k (.cI L8 (bs (sub x a n)) e) (sub x a n) (lstIn rows _ e) (by omega)
  rw[kf]at kc
  have Yr:((x.drop a).take n)=sub x a n:=rfl
  simp only[AA]at k1⊢
  simp only[↓ah,aj,simprocAttr,hw,k1,hc,kc,aB,eP,dO,Yr,e1,e2,e3,e4,e5,oB]
  exact .KB L8 0 0 n _ false _ _ rfl rfl rfl (λh=>by cases h)
 ·rw[JI,aaA h0]
  have h1:(mJ K a n=0)=False:=aax h0
  simp only[↓ah,aj,simprocAttr,hw,k1,h1]
  exact .val _ rfl
theorem kRead{rows:Rows}{d:D}{K:FV}(h:QI rows d K)(hl:nf K<=1048576)(a n:Int)(k:D->Rows->Prop):aI tx rows k [d,.raw (it a),.raw (it n)]=k (shift rows.length (JI K a n).1) (rows++ab rows.length (JI K a n).2):=by
 refine Dz h rfl rfl (r:=JI K a n) ?_ ?_ k
 ·simp only[tx,Bf,br yV,lc,abc,hl,aav,aaU]
 ·unfold JI;split<;>rfl
theorem JJ{rows:Rows}{r m:Nat}{x:List (BitVec 8)}(h:gE rows r m x)(hl:x.length<=1048576)(a n:Nat)(ha:a+n<=x.length)(k:D->Rows->Prop):
  aI tx rows k [.ptr SF r [0],.raw (it (a:Int)),.raw (it (n:Int))]=k (.cA [.sl L8 rows.length [] 0 n false,.raw (it 0)]) (rows++[some ⟨L8,bs (sub x a n)⟩]):=by
 obtain⟨e,h⟩:=h.to
 rw[kRead h hl]
 have h0:mJ (some (x,e)) (a:Int) (n:Int)=0:=by
  simp only[mJ];rw[aaA (by omega)]
 rw[JI,aaI h0]
 simp[shift,bB,ab,Sh.pure,oB]
def fn4{α β γ δ:Type}(rd:D->Option α)(rd':D->Option β)(GI:D->Option γ)(rd3:D->Option δ)(pre:α->β->γ->δ->Bool)(out:α->β->γ->δ->D×Rows):Fn
 |[d,e,f,g],[]=>match rd d,rd' e,GI f,rd3 g with
  |some x,some y,some z,some w=>bif pre x y z w then some (out x y z w)else none
  | _,_,_,_=>none
 | _,_=>none
theorem fn4_some{α β γ δ:Type}{rd:D->Option α}{rd':D->Option β}{GI:D->Option γ}{rd3:D->Option δ}{pre:α->β->γ->δ->Bool}{out:α->β->γ->δ->D×Rows}{ds:List D}{rows:Rows}{r:D×Rows}(h:fn4 rd rd' GI rd3 pre out ds rows=some r):
  ∃d e f g x y z w,ds=[d,e,f,g]/\rows=[]/\rd d=some x/\rd' e=some y/\GI f=some z/\rd3 g=some w/\pre x y z w=true/\r=out x y z w:=by
 unfold fn4 at h
 split at h
 ·rename_i d e f g
  split at h
  ·rename_i x y z w hx hy hz hw
   cases hp:pre x y z w with
   |false=>rw[hp]at h;cases h
   |true=>rw[hp]at h;cases h;exact⟨d,e,f,g,x,y,z,w,rfl,rfl,hx,hy,hz,hw,hp,rfl⟩
  ·cases h
 ·cases h
theorem fn4_eq{α β γ δ:Type}{rd:D->Option α}{rd':D->Option β}{GI:D->Option γ}{rd3:D->Option δ}{pre:α->β->γ->δ->Bool}{out:α->β->γ->δ->D×Rows}{d e f g:D}{x:α}{y:β}{z:γ}{w:δ}(h1:rd d=some x)(h2:rd' e=some y)(h3:GI f=some z)(h4:rd3 g=some w)(hp:pre x y z w=true):
  fn4 rd rd' GI rd3 pre out [d,e,f,g] []=some (out x y z w):=by
 simp[fn4,h1,h2,h3,h4,hp]
noncomputable def tQ(K:FV)(i a:Int)(p:List (BitVec 8)):Int:=open Classical in
 if wN K i≠0 then wN K i else if p=[]then 0 else if a<0\/256<a\/256-a<(p.length:Int)then 9 else if clears ((sub (oB K) (256*i.toNat) 256).drop a.toNat) p then 0 else 14
def wO(K:FV)(i a:Int)(p:List (BitVec 8)):List (BitVec 8):=if p=[]then List.replicate 256 255#8 else bh (sub (oB K) (256*i.toNat) 256) a.toNat p
noncomputable def K5(K:FV)(i a:Int)(p:List (BitVec 8)):D×Rows:=
 if tQ K i a p=0 then(.cA [.sl L8 0 [] 0 256 false,.raw (it 0)],[some ⟨L8,bs (wO K i a p)⟩])else(.cA [.raw (.slice none 0 0),.raw (it (tQ K i a p))],[])
noncomputable def EZ:Fn:=fn4 (bx AA) tH tH dB (λK _ _ p=>decide (nf K<=1048576)&&decide (p.length<=1048576)) K5
theorem after_ok(C:bf)(hC:aJ C P)(hp:C.fn 168=some Bq)(hc:C.fn 73=some tM)(jZ:C.fn 105=some tw)(hrp:C.fn 103=some qx):aN C.aX P 116 (Fn.run EZ):=by
 refine bU (zg C hC) λds rows r h=>?_
 obtain⟨d,e,f,g,K,i,a,p,rfl,rfl,hd,he,hf,hg,hpre,rfl⟩:=fn4_some h
 cases aE hd
 cases bK he
 cases bK hf
 obtain⟨x,hx⟩:=cb hg
 simp only[aan,aat]at hpre
 obtain⟨hK,tV⟩:=hpre
 refine⟨rfl,_,.cons (.refl _) (.cons (.refl _) (.cons (.refl _) (.cons hx .nil))),ag rfl ?_⟩
 clear h hd he hf hg hx
 unfold qc qd
 have k1:=λrows k=>kPageE (Oh rows K) hK i k
 by_cases h0:wN K i=0
 ·rw[h0]at k1
  rcases K with _|⟨y,e⟩
  ·cases h0
  obtain⟨b1,b2⟩:=errP_0 h0
  simp only[nf]at hK
  obtain⟨i,rfl⟩:=aaD b1
  by_cases V4:p=[]
  ·subst V4
   have hA:tQ (some (y,e)) (i:Int) a []=0:=by rw[tQ,aaA (by rw[h0];simp),aaI rfl]
   rw[K5,aaI hA,wO,aaI rfl]
   have kr:∀k,aI qx [some ⟨L8,[.raw (u8 255#8)]⟩] k [.sl L8 0 [] 0 1 true,.raw (it 256)]=k (.sl L8 1 [] 0 256 false) [some ⟨L8,[.raw (u8 255#8)]⟩,some ⟨L8,bs (List.replicate 256 255#8)⟩]:=λk=>
    Of (rows:=[some ⟨L8,[.raw (u8 255#8)]⟩]) (b:=255#8) (aU.own rfl _ rfl) 256 (by omega) k
   have hb0:bs ([]:List (BitVec 8))=[]:=rfl
   generalize List.replicate 256 255#8=z at*
   simp only[AA]at k1⊢
   simp only[↓ah,aj,simprocAttr,hp,k1,hb0,hrp,kr]
   exact .KB L8 1 0 256 false false _ _ rfl rfl rfl (λh=>by cases h)
  ·have hpz:((p.length:Int)=0)=False:=aax (by have:p.length≠0:=λh=>V4 (aaF h);omega)
   have BW:tQ (some (y,e)) (i:Int) a p=(open Classical in if a<0\/256<a\/256-a<(p.length:Int)then 9 else if clears ((sub y (256*i) 256).drop a.toNat) p then 0 else 14):=by
    rw[tQ,aaA (by rw[h0];simp),aaA V4];rfl
   by_cases c1:a<0
   ·rw[aaI (.inl c1)]at BW
    rw[K5,aaA (by rw[BW];decide),BW]
    simp only[AA]at k1⊢
    simp only[↓ah,aj,simprocAttr,hp,k1,aB,hpz,c1,aav,aaw]
    exact .val _ rfl
   by_cases c2:256<a
   ·rw[aaI (.inr (.inl c2))]at BW
    rw[K5,aaA (by rw[BW];decide),BW]
    simp only[AA]at k1⊢
    simp only[↓ah,aj,simprocAttr,hp,k1,aB,hpz,c1,c2,aav,aaw]
    exact .val _ rfl
   have w0:wz (256-a)=256-a:=aZ (by omega)
   by_cases c3:256-a<(p.length:Int)
   ·rw[aaI (.inr (.inr c3))]at BW
    rw[K5,aaA (by rw[BW];decide),BW]
    simp only[AA]at k1⊢
    simp only[↓ah,aj,simprocAttr,hp,k1,aB,hpz,c1,c2,c3,w0,aav,aaw]
    exact .val _ rfl
   rw[aaA (by omega)]at BW
   obtain⟨a,rfl⟩:=aaD (by omega:0<=a)
   have w1:wz (256*(i:Int))=((256*i:Nat):Int):=by rw[aZ (by omega)];omega
   have w2:wz ((i:Int)+1)=((i+1:Nat):Int):=by rw[aZ (by omega)];omega
   have w3:wz (256*((i+1:Nat):Int))=((256*i+256:Nat):Int):=by rw[aZ (by omega)];omega
   have f1:((0:Int)<=((256*i:Nat):Int))=True:=aas (by omega)
   have f2:(((256*i:Nat):Int)<=((256*i+256:Nat):Int))=True:=aas (by omega)
   have f3:(((256*i+256:Nat):Int)<=(y.length:Int))=True:=aas (by omega)
   have f4:256*i+256-256*i=256:=by omega
   have f5:((0:Int)<=(a:Int))=True:=aas (by omega)
   have f6:((a:Int)<=256)=True:=aas (by omega)
   have f7:((a:Int)<=((256:Nat):Int))=True:=aas (by omega)
   have Yr:((y.drop (256*i)).take 256)=sub y (256*i) 256:=rfl
   have kf:(sub y (256*i) 256).length=256:=lS (by omega)
   have hdat:wO (some (y,e)) (i:Int) (a:Int) p=bh (sub y (256*i) 256) a p:=by rw[wO,aaA V4];rfl
   have hspl:(bh (sub y (256*i) 256) a p).length=256:=by rw[jL _ _ _ (by omega),kf]
   simp only[AA,Int.toNat_natCast]at k1 BW⊢
   generalize sub y (256*i) 256=s at*
   have kc:=λrows k e=>Ji rows k (.cI L8 (bs s) e) s (lstIn rows _ e) (by omega)
   rw[kf]at kc
   have pU:((s.drop a).take (256-a))=s.drop a:=aaq (by rw[aar];omega)
   have kcl:∀e2 k,aI tw [some ⟨L8,bs s⟩] k [.sl L8 0 [] a (256-a) e2,.cI L8 (bs p) x]=k (.raw (.bool (open Classical in decide (clears (s.drop a) p)))) [some ⟨L8,bs s⟩]:=λe2 k=>by
    have hbi:=aU.sub (rows:=[some ⟨L8,bs s⟩]) (r:=0) (off:=a) (len:=256-a) (ex:=e2) rfl (by omega:a+(256-a)<=s.length)
    rw[pU]at hbi
    exact V3 hbi (lstIn _ p x) (by rw[aar];omega) (by rw[aar];omega) k
   by_cases c4:clears (s.drop a) p
   ·have hdc:(open Classical in decide (clears (s.drop a) p))=true:=by classical exact aaY c4
    rw[aaI c4]at BW
    rw[K5,aaI BW,hdat]
    rw[hdc]at kcl
    simp only[↓ah,aj,simprocAttr,hp,k1,aB,hpz,c1,c2,c3,w0,w1,w2,w3,f1,f2,f3,f4,f5,f6,f7,hc,kc,jZ,kcl,eP,dO,Yr,kf,aav,aaw]
    refine Eq.mpr (Dy (l:=s) rfl (by omega)) ?_
    rw[show min p.length (256-a)=p.length by omega,aaV]
    simp only[↓ah,aj,simprocAttr]
    exact .KB L8 0 0 256 false false _ _ rfl rfl rfl (λh=>by cases h)
   ·have hdc:(open Classical in decide (clears (s.drop a) p))=false:=by classical exact aaJ c4
    rw[aaA c4]at BW
    rw[K5,aaA (by rw[BW];decide),BW]
    rw[hdc]at kcl
    simp only[↓ah,aj,simprocAttr,hp,k1,aB,hpz,c1,c2,c3,w0,w1,w2,w3,f1,f2,f3,f4,f5,f6,f7,hc,kc,jZ,kcl,eP,dO,Yr,kf,aav,aaw]
    exact .val _ rfl
 ·have Dm:(wN K i=0)=False:=aax h0
  have hA:tQ K i a p=wN K i:=by rw[tQ,aaI h0]
  rw[K5,aaA (by rw[hA];exact h0),hA]
  simp only[↓ah,aj,simprocAttr,hp,k1,Dm,aaw]
  exact .val _ rfl
def GF:Nat->Option D:=λ_=>none
noncomputable def CF:bf:=⟨GF,nF [(168,Bq),(62,vJ),(105,tw),(73,tM),(103,qx),(163,tP),(188,tP)],λ_=>none,λ_=>none⟩
theorem ctxF:aJ CF P:=
 have c0:=Vi (G:=GF) (P:=P)
 have c1:=ak (QG _ c0) c0
 have c2:=ak (V0 _ c1 rfl) c1
 have c3:=ak (My _ c2 rfl) c2
 have c4:=ak (Qm _ c3) c3
 have c5:=ak (MA _ c4) c4
 have c6:=ak (Mz _ c5) c5
 ak (V1 _ c6) c6
theorem f_page:CF.fn 168=some Bq:=rfl
theorem JK:CF.fn 62=some vJ:=rfl
theorem QJ:CF.fn 105=some tw:=rfl
theorem f_repeat:CF.fn 103=some qx:=rfl
theorem vK{rows:Rows}{m:Nat}{row:Row}(h:live rows m=some row):rows.set m (some row)=rows:=by
 refine aco λi=>?_
 rw[adn]
 split
 ·rename_i e
  subst e
  have hl:=bb h
  unfold live at h
  rw[aaI hl]
  split at h
  ·rename_i r hr
   cases h
   exact hr.symm
  ·cases h
 ·rfl
theorem gE.ne{rows:Rows}{r m:Nat}{x:List (BitVec 8)}(h:gE rows r m x):r≠m:=by
 obtain⟨⟨ex,h1⟩,h2⟩:=h
 intro e
 subst e
 rw[h1]at h2
 injection h2 with h2
 injection h2 with h2 _
 cases h2
theorem gE.uX{rows:Rows}{r m:Nat}{x y:List (BitVec 8)}(h:gE rows r m x)(hy:y.length=x.length):gE (rows.set m (some ⟨L8,bs y⟩)) r m y:=by
 have hne:=h.ne
 obtain⟨⟨ex,h1⟩,h2⟩:=h
 exact⟨⟨ex,by rw[hy];exact df h1 hne.symm⟩,aD h2⟩
noncomputable def V5(x:List (BitVec 8))(a:Int)(p:List (BitVec 8)):Int:=open Classical in
 if mJ (some (x,false)) a p.length≠0 then mJ (some (x,false)) a p.length else if clears (x.drop a.toNat) p then 0 else 14
noncomputable def RV(x:List (BitVec 8))(a:Int)(p:List (BitVec 8)):List (BitVec 8):=open Classical in if V5 x a p=0 then bh x a.toNat p else x
theorem wrE_ok{x:List (BitVec 8)}{a:Int}{p:List (BitVec 8)}(h:V5 x a p=0):0<=a/\a.toNat+p.length<=x.length/\clears (x.drop a.toNat) p:=by
 unfold V5 at h
 split at h
 ·rename_i h2;exact absurd h h2
 ·rename_i h2
  have h3:=Og (Decidable.of_not_not h2)
  split at h
  ·rename_i h4
   exact⟨h3.1,by omega,h4⟩
  ·cases h
theorem DA(x:List (BitVec 8))(a:Int)(p:List (BitVec 8)):(RV x a p).length=x.length:=by
 unfold RV
 split
 ·rename_i h
  have:=wrE_ok h
  exact jL _ _ _ this.2.1
 ·rfl
theorem Ys{rows:Rows}{r m q:Nat}{x p:List (BitVec 8)}{ex:Bool}(h:gE rows r m x)(hq:live rows q=some ⟨L8,bs p⟩)(hx:x.length<=1048576)(hp:p.length<=1048576)(a:Int){K:D->Rows->Prop}
  (hk:K (.raw (it (V5 x a p))) (rows.set m (some ⟨L8,bs (RV x a p)⟩))):aQ CF 3 eB eA [.ptr SF r [0],.raw (it a),.sl L8 q [] 0 p.length ex] rows K:=by
 obtain⟨e,hin⟩:=h.to
 have kw:=λk=>V2 hin hx a p.length k
 have hee:mJ (some (x,e)) a p.length=mJ (some (x,false)) a p.length:=rfl
 obtain⟨⟨e2,h1⟩,h2⟩:=h
 simp only[nG]
 unfold eA eB
 rw[hee]at kw
 by_cases h0:mJ (some (x,false)) a p.length=0
 ·obtain⟨b1,b2,b3,b4⟩:=Og h0
  obtain⟨a,rfl⟩:=aaD b1
  rw[h0]at kw
  have f1:((0:Int)<=(a:Int))=True:=aas (by omega)
  have f2:((a:Int)<=(x.length:Int))=True:=aas (by omega)
  have pU:((x.drop a).take (x.length-a))=x.drop a:=aaq (by rw[aar];omega)
  have kc:∀e3 k,aI tw rows k [.sl L8 m [] a (x.length-a) e3,.sl L8 q [] 0 p.length ex]=k (.raw (.bool (open Classical in decide (clears (x.drop a) p)))) rows:=λe3 k=>by
   have hbi:=aU.sub (rows:=rows) (r:=m) (off:=a) (len:=x.length-a) (ex:=e3) h2 (by omega:a+(x.length-a)<=x.length)
   rw[pU]at hbi
   exact V3 hbi (aU.own hq _ rfl) (by rw[aar];omega) (by rw[aar];omega) k
  by_cases c:clears (x.drop a) p
  ·have hE:V5 x (a:Int) p=0:=by rw[V5,aaA (by rw[h0];simp),aaB,aaI c]
   have hX:RV x (a:Int) p=bh x a p:=by rw[RV,aaI hE];rfl
   rw[hE,hX]at hk
   have hdc:(open Classical in decide (clears (x.drop a) p))=true:=by classical exact aaY c
   rw[hdc]at kc
   simp only[↓ah,aj,simprocAttr,JK,QJ,kw,kc,h1,hq,aB,fT,f1,f2]
   refine Eq.mpr (Dy (l:=x) h2 (by omega)) ?_
   rw[show min p.length (x.length-a)=p.length by omega,aaV]
   simp only[↓ah,aj,simprocAttr]
   exact hk
  ·have hE:V5 x (a:Int) p=14:=by rw[V5,aaA (by rw[h0];simp),aaB,aaA c]
   have hX:RV x (a:Int) p=x:=by rw[RV,aaA (by rw[hE];decide)]
   rw[hE,hX,vK h2]at hk
   have hdc:(open Classical in decide (clears (x.drop a) p))=false:=by classical exact aaJ c
   rw[hdc]at kc
   simp only[↓ah,aj,simprocAttr,JK,QJ,kw,kc,h1,hq,aB,fT,f1,f2]
   exact hk
 ·have hE:V5 x a p=mJ (some (x,false)) a p.length:=by rw[V5,aaI h0]
  have hX:RV x a p=x:=by rw[RV,aaA (by rw[hE];exact h0)]
  rw[hE,hX,vK h2]at hk
  have Dm:(mJ (some (x,false)) a p.length=0)=False:=aax h0
  simp only[↓ah,aj,simprocAttr,JK,kw,Dm,aaw]
  exact hk
def erE(x:List (BitVec 8))(i:Int):Int:=wN (some (x,false)) i
def teV(b w k:BitVec 8):BitVec 8:=b&&&~~~k|||w&&&k
def OX(x:List (BitVec 8))(i:Nat)(w k:List (BitVec 8)):Nat->List (BitVec 8)
 |0=>x
 |j+1=>(OX x i w k j).set (256*i+j) (teV ((OX x i w k j).getD (256*i+j) 0#8) (w.getD j 0#8) (k.getD j 0#8))
theorem Hc(x:List (BitVec 8))(i:Nat)(w k:List (BitVec 8)):∀j,(OX x i w k j).length=x.length
 |0=>rfl
 |j+1=>by rw[OX,aa6];exact Hc x i w k j
def QK(w k:List (BitVec 8)):Nat:=min (min w.length k.length) 256
def Zx(x:List (BitVec 8))(i:Int)(w k:List (BitVec 8)):List (BitVec 8):=if erE x i=0 then OX x i.toNat w k (QK w k)else x
theorem V6(x:List (BitVec 8))(i:Int)(w k:List (BitVec 8)):(Zx x i w k).length=x.length:=by
 unfold Zx;split
 ·exact Hc _ _ _ _ _
 ·rfl
theorem tear_run{rows:Rows}{r m q1 q2:Nat}{x w k:List (BitVec 8)}{N9 Kp:Bool}(h:gE rows r m x)(hx:x.length<=1048576)(Vd:live rows q1=some ⟨L8,bs w⟩)(RR:live rows q2=some ⟨L8,bs k⟩)(n1:m≠q1)(n2:m≠q2)(hw:w.length<=1048576)(Nc:k.length<=1048576)(i:Int){K:D->Rows->Prop}
  (hk:K (.raw (it (erE x i))) (rows.set m (some ⟨L8,bs (Zx x i w k)⟩))):aQ CF 4 dE dD [.ptr SF r [0],.raw (it i),.sl L8 q1 [] 0 w.length N9,.sl L8 q2 [] 0 k.length Kp] rows K:=by
 obtain⟨e,hin⟩:=h.to
 have kw:=λk=>kPageE hin hx i k
 have hee:wN (some (x,e)) i=erE x i:=rfl
 have hrm:=h.ne
 obtain⟨⟨e2,h1⟩,h2⟩:=h
 simp only[nG]
 unfold dD dE
 rw[hee]at kw
 by_cases h0:erE x i=0
 ·obtain⟨b1,b2⟩:=errP_0 (e:=false) h0
  obtain⟨i,rfl⟩:=aaD b1
  have hX:Zx x (i:Int) w k=OX x i w k (QK w k):=by rw[Zx,aaI h0];rfl
  rw[hX,h0]at hk
  rw[h0]at kw
  have w1:wz (256*(i:Int))=((256*i:Nat):Int):=by rw[aZ (by omega)];omega
  have f0:min (min (w.length:Int) (k.length:Int)) 256=((QK w k:Nat):Int):=by unfold QK;omega
  have hM:QK w k<=w.length/\QK w k<=k.length/\QK w k<=256:=by unfold QK;omega
  simp only[↓ah,aj,simprocAttr,f_page,kw,f0]
  refine bg (QK w k) (λj env rs=>has env [(23,.raw (it (j:Int))),(22,.raw (it ((QK w k:Nat):Int))),(0,.ptr SF r [0]),(1,.raw (it (i:Int))),(2,.sl L8 q1 [] 0 w.length N9),(3,.sl L8 q2 [] 0 k.length Kp)]/\rs=rows.set m (some ⟨L8,bs (OX x i w k j)⟩)) ?_ ?_ ⟨?_,(vK h2).symm⟩
  ·rintro j hj env rs ⟨hh,rfl⟩ R hR
   simp only[has]at hh
   obtain⟨h23,h22,g0,g1,g2,g3,-⟩:=hh
   have e0:((j:Int)<((QK w k:Nat):Int))=True:=aas (by omega)
   have e1:=ca j (by omega)
   have b0:∀n:Nat,((0:Int)<=(n:Int))=True:=λn=>aas (by omega)
   have w2:wz (((256*i:Nat):Int)+(j:Int))=((256*i+j:Nat):Int):=by rw[aZ (by omega)];omega
   have l1:=df (y:=⟨L8,bs (OX x i w k j)⟩) h1 hrm.symm
   have l2:=aD (y:=⟨L8,bs (OX x i w k j)⟩) h2
   have l3:=df (y:=⟨L8,bs (OX x i w k j)⟩) Vd n1
   have l4:=df (y:=⟨L8,bs (OX x i w k j)⟩) RR n2
   have hl:=Hc x i w k j
   have c1:(((256*i+j:Nat):Int)<(x.length:Int))=True:=aas (by omega)
   have c2:((j:Int)<(w.length:Int))=True:=aas (by omega)
   have c3:((j:Int)<(k.length:Int))=True:=aas (by omega)
   have t1:(bs (OX x i w k j))[256*i+j]?=some (.raw (u8 ((OX x i w k j).getD (256*i+j) 0#8))):=j4 (by omega)
   have t2:(bs w)[j]?=some (.raw (u8 (w.getD j 0#8))):=j4 (by omega)
   have t3:(bs k)[j]?=some (.raw (u8 (k.getD j 0#8))):=j4 (by omega)
   have hv:(OX x i w k j).set (256*i+j) ((OX x i w k j).getD (256*i+j) 0#8&&&~~~k.getD j 0#8|||w.getD j 0#8&&&k.getD j 0#8)=OX x i w k (j+1):=rfl
   have Kx:∀a b:Option Row,(rows.set m a).set m b=rows.set m b:=λa b=>ac4 ..
   simp only[↓ah,aj,simprocAttr,h23,h22,g0,g1,g2,g3,e0,e1,b0,w1,w2,l1,l2,l3,l4,c1,c2,c3,t1,t2,t3,NQ,hv,Kx,aav]
   exact hR _ _ ⟨by simp only[has,↓ah,aj,simprocAttr,h22,g0,g1,g2,g3],rfl⟩
  ·rintro env rs ⟨hh,rfl⟩ R
   simp only[has]at hh
   obtain⟨h23,h22,g0,g1,g2,g3,-⟩:=hh
   have e0:(((QK w k:Nat):Int)<((QK w k:Nat):Int))=False:=aax (by omega)
   simp only[↓ah,aj,simprocAttr,h23,h22,g0,g1,g2,g3,e0,aaw]
   exact hk
  ·simp only[has,↓ah,aj,simprocAttr]
 ·have hX:Zx x i w k=x:=by rw[Zx,aaA h0]
  rw[hX,vK h2]at hk
  have Dm:(erE x i=0)=False:=aax h0
  simp only[↓ah,aj,simprocAttr,f_page,kw,Dm,aaw]
  exact hk
theorem fnew_run{rows:Rows}(n:Nat)(hn:n<=1024){K:D->Rows->Prop}
  (hk:K (.cA [.ptr SF (rows.length+2) [0],.raw (it 0)]) (rows++[some ⟨L8,[.raw (u8 255#8)]⟩,some ⟨L8,bs (List.replicate (256*n) 255#8)⟩,some ⟨SF,[.agg SF [.sl L8 (rows.length+1) [] 0 (256*n) false]]⟩])):aQ CF 1 m8 mZ [.raw (it (n:Int))] rows K:=by
 have e1:((n:Int)<0)=False:=aax (by omega)
 have e2:((1024:Int)<(n:Int))=False:=aax (by omega)
 have w1:wz (256*(n:Int))=((256*n:Nat):Int):=by rw[aZ (by omega)];omega
 obtain⟨z,hz⟩:∃z,z=List.replicate (256*n) 255#8:=⟨_,rfl⟩
 have kr:∀k,aI qx (rows++[some ⟨L8,[.raw (u8 255#8)]⟩]) k [.sl L8 rows.length [] 0 1 true,.raw (it ((256*n:Nat):Int))]=k (.sl L8 (rows.length+1) [] 0 (256*n) false) (rows++[some ⟨L8,[.raw (u8 255#8)]⟩,some ⟨L8,bs z⟩]):=λk=>by
  rw[hz]
  have:=Of (rows:=rows++[some ⟨L8,[.raw (u8 255#8)]⟩]) (d:= .sl L8 rows.length [] 0 1 true) (b:=255#8) (aU.own (l:=[255#8]) (by rw[bw];rfl) _ rfl) (256*n) (by omega) k
  simp only[aao,aaP,aaT,abE,aaC,acu,abp]at this
  exact this
 rw[<-hz]at hk
 simp only[nG]
 unfold mZ m8
 simp only[↓ah,aj,simprocAttr,aM,f_repeat,e1,e2,w1,kr,aaw]
 exact hk
theorem wr_ok{x p:List (BitVec 8)}{a:Nat}(h:a+p.length<=x.length)(hc:clears (x.drop a) p):V5 x (a:Int) p=0/\RV x (a:Int) p=bh x a p:=by
 have h0:mJ (some (x,false)) (a:Int) p.length=0:=by
  simp only[mJ];rw[aaA (by omega)]
 have hE:V5 x (a:Int) p=0:=by rw[V5,aaA (by rw[h0];simp),aaB,aaI hc]
 exact⟨hE,by rw[RV,aaI hE];rfl⟩
def Oi(a b:List (BitVec 8)):Bool:=(List.range b.length).all λi=>decide (b.getD i 0#8&&&~~~a.getD i 0#8=0#8)
theorem T5(a b:List (BitVec 8)):clears a b↔Oi a b=true:=by
 simp only[clears,clr1,Oi,aa7,adq,aat]
theorem gE.new{rows:Rows}{n:Nat}{z:List (BitVec 8)}(hz:z=List.replicate (256*n) 255#8):gE (rows++[some ⟨L8,[.raw (u8 255#8)]⟩,some ⟨L8,bs z⟩,some ⟨SF,[.agg SF [.sl L8 (rows.length+1) [] 0 (256*n) false]]⟩]) (rows.length+2) (rows.length+1) z:=by
 refine⟨⟨false,?_⟩,?_⟩
 ·rw[aK,hz,aaS];rfl
 ·rw[aK];rfl
structure V7 (rows aa:Rows) (r m:Nat) (x:List (BitVec 8)):Prop where
 fl:gE aa r m x
 frame:∀q row,live rows q=some row->q≠m->live aa q=some row
structure Made (rows aa:Rows) (r m:Nat) (x:List (BitVec 8)):Prop where
 fl:gE aa r m x
 frame:∀q row,live rows q=some row->live aa q=some row
 hr:rows.length<=r
 hm:rows.length<=m
theorem gE.lt{rows:Rows}{r m:Nat}{x:List (BitVec 8)}(h:gE rows r m x):r<rows.length/\m<rows.length:=by
 obtain⟨⟨ex,h1⟩,h2⟩:=h
 exact⟨bb h1,bb h2⟩
theorem gE.keep{rows aa:Rows}{r m r2 m2:Nat}{x y:List (BitVec 8)}(h:gE rows r m x)(U:V7 rows aa r2 m2 y)(h1:r≠m2)(h2:m≠m2):gE aa r m x:=by
 obtain⟨⟨ex,g1⟩,g2⟩:=h
 exact⟨⟨ex,U.frame _ _ g1 h1⟩,U.frame _ _ g2 h2⟩
theorem QL{rows:Rows}{r m:Nat}{x y:List (BitVec 8)}(h:gE rows r m x)(hy:y.length=x.length):V7 rows (rows.set m (some ⟨L8,bs y⟩)) r m y:=
 ⟨h.uX hy,λq row hq hn=>df hq hn.symm⟩
theorem writeA{rows:Rows}{r m q:Nat}{x p:List (BitVec 8)}{ex:Bool}(h:gE rows r m x)(hq:live rows q=some ⟨L8,bs p⟩)(hx:x.length<=1048576)(hp:p.length<=1048576)(a:Int){K:D->Rows->Prop}
  (hk:∀aa,V7 rows aa r m (RV x a p)->K (.raw (it (V5 x a p))) aa):aQ CF 3 eB eA [.ptr SF r [0],.raw (it a),.sl L8 q [] 0 p.length ex] rows K:=
 Ys h hq hx hp a (hk _ (QL h (DA x a p)))
theorem tearA{rows:Rows}{r m q1 q2:Nat}{x w k:List (BitVec 8)}{N9 Kp:Bool}(h:gE rows r m x)(hx:x.length<=1048576)(Vd:live rows q1=some ⟨L8,bs w⟩)(RR:live rows q2=some ⟨L8,bs k⟩)(n1:m≠q1)(n2:m≠q2)(hw:w.length<=1048576)(Nc:k.length<=1048576)(i:Int){K:D->Rows->Prop}
  (hk:∀aa,V7 rows aa r m (Zx x i w k)->K (.raw (it (erE x i))) aa):aQ CF 4 dE dD [.ptr SF r [0],.raw (it i),.sl L8 q1 [] 0 w.length N9,.sl L8 q2 [] 0 k.length Kp] rows K:=
 tear_run h hx Vd RR n1 n2 hw Nc i (hk _ (QL h (V6 x i w k)))
theorem rep255(n i:Nat)(h:i<n):(List.replicate n 255#8).getD i 0#8=255#8:=by simp[List.getD,h]
theorem set_get(x:List (BitVec 8))(k i:Nat)(b:BitVec 8)(hk:k<x.length):(x.set k b).getD i 0#8=if i=k then b else x.getD i 0#8:=by
 by_cases h:i=k
 ·subst h;simp[List.getD,hk]
 ·rw[aaA h]
  simp[List.getD,abP (λe=>h e.symm)]
theorem sub_get(x:List (BitVec 8))(a n i:Nat)(h:i<n):(sub x a n).getD i 0#8=x.getD (a+i) 0#8:=by
 simp[sub,List.getD,abt,h]
theorem T6(n:Nat)(p:List (BitVec 8))(h:p.length<=n):clears (List.replicate n 255#8) p:=by
 intro i hi
 unfold clr1
 rw[rep255 _ _ (by omega)]
 have:∀b:BitVec 8,b&&&~~~255#8=0#8:=by decide+kernel
 exact this _
theorem Hd(x:List (BitVec 8))(i:Nat)(w k:List (BitVec 8)):∀j t,256*i+j<=x.length->(OX x i w k j).getD t 0#8=if 256*i<=t/\t<256*i+j then teV (x.getD t 0#8) (w.getD (t-256*i) 0#8) (k.getD (t-256*i) 0#8)else x.getD t 0#8
 |0,t,_=>by rw[aaA (by omega)];rfl
 | j + 1, t, h => by
  have hl:=Hc x i w k j
  rw[OX,set_get _ _ _ _ (by omega),Hd x i w k j _ (by omega),Hd x i w k j t (by omega)]
  by_cases ht:t=256*i+j
  ·subst ht
   rw[aaI rfl,aaA (by omega),aaI (by omega),adL]
  ·rw[aaA ht]
   by_cases h2:256*i<=t/\t<256*i+j
   ·rw[aaI h2,aaI (by omega)]
   ·rw[aaA h2,aaA (by omega)]
theorem teV_all(b w:BitVec 8):teV b w 255#8=w:=by
 have h1:b&&&~~~255#8=0#8:=by revert b;decide+kernel
 have h2:w&&&255#8=w:=by revert w;decide+kernel
 rw[teV,h1,h2,BitVec.zero_or]
noncomputable def fAt(args:List D)(kq:D):Fn:=λds rows=>open Classical in if ds=args/\rows=[]then some (kq,[])else none
theorem rX{f:FuncId}{A:lI}{G:Nat->Option D}{args:List D}{kq:D}(hA:aN G P f A)(h:A args [] λd rows=>wF rows d kq []):aN G P f (Fn.run (fAt args kq)):=by
 refine aG hA λds rows r hr=>?_
 unfold fAt at hr
 split at hr
 ·rename_i hh
  cases hr
  obtain⟨rfl,rfl⟩:=hh
  exact⟨rfl,h⟩
 ·cases hr
theorem kAt(args:List D)(kq:D)(h1:aW args=false)(h2:shift=shift)(rows:Rows)(k:D->Rows->Prop)(h3:shift rows.length kq=kq):aI (fAt args kq) rows k args=k kq rows:=by
 refine(a9 h1 (r:=(kq,[])) (by simp[fAt])).trans ?_
 simp[ab,h3]
theorem E0{α:Type}{x:Option α}{a:α}{k:α->Prop}(h:x=some a)(hk:k a):bn x k:=by rw[h];exact hk
abbrev sRw:D:= .raw (.string ⟨#[114,119]⟩)
abbrev sW:D:= .raw (.string ⟨#[119]⟩)
noncomputable def V8:Fn:=fAt [sRw,.raw (u8 119#8)] (.raw (it 1))
theorem idxb_ok(C:bf)(hC:aJ C P):aN C.aX P 222 (Fn.run V8):=by
 refine rX (nO C hC) (ag rfl ?_)
 unfold iK iL
 have e:WW ((119#8).toNat:Int) ⟨#[114,119]⟩=1:=by decide
 simp only[↓ah,aj,simprocAttr]
 simp only[u8,e]
 exact .val _ rfl
noncomputable def V9:Fn:=fAt [sRw,sW] (.raw (it 1))
theorem idxs_ok(C:bf)(hC:aJ C P)(h1:C.fn 222=some V8):aN C.aX P 221 (Fn.run V9):=by
 refine rX (pN C hC) (ag rfl ?_)
 unfold jS jT
 have kI:=λrows k=>kAt [sRw,.raw (u8 119#8)] (.raw (it 1)) rfl rfl rows k rfl
 have e1:((ByteArray.mk #[119]).toList==(ByteArray.mk #[114,119]).toList)=false:=by simp[ByteArray.toList_eq]
 have e2:(ByteArray.mk #[119]).size=1:=rfl
 have e3:(ByteArray.mk #[119]).data.toList[0]?=some 119:=rfl
 have e4:(119:UInt8).toBitVec=119#8:=rfl
 simp only[↓ah,aj,simprocAttr,e1,e2,e3,e4,h1,V8,kI,Int.toNat_zero,ab1,ad6]
 exact .val _ rfl
noncomputable def Wa:Fn:=fAt [sRw,sW] (.raw (it 1))
theorem idx1_ok(C:bf)(hC:aJ C P)(h1:C.fn 221=some V9):aN C.aX P 219 (Fn.run Wa):=by
 refine rX (GH C hC) (ag rfl ?_)
 unfold wq wu
 have kI:=λrows k=>kAt [sRw,sW] (.raw (it 1)) rfl rfl rows k rfl
 simp only[↓ah,aj,simprocAttr,h1,V9,kI]
 exact .val _ rfl
noncomputable def Wb:Fn:=fAt [sRw,sW] (.raw (.bool true))
theorem hasw_ok(C:bf)(hC:aJ C P)(h1:C.fn 219=some Wa):aN C.aX P 215 (Fn.run Wb):=by
 refine rX (Be C hC) (ag rfl ?_)
 unfold rK rL
 have kI:=λrows k=>kAt [sRw,sW] (.raw (it 1)) rfl rfl rows k rfl
 simp only[↓ah,aj,simprocAttr,h1,Wa,kI]
 exact .val _ rfl
noncomputable def fMay:Fn:=fAt [.raw (it 0),.raw (it 0),.raw (it 1)] sRw
theorem may_ok(C C1:bf)(hC:aJ C P)(n0:C.fn 220=none)(r0:C.fy 220=some (aQ C1 0 nM nL)):aN C.aX P 216 (Fn.run fMay):=by
 refine rX (Qa C hC) (ag rfl ?_)
 unfold F2 F3
 have nm:pM (.mp 0)=some (.mp 0):=rfl
 simp only[↓ah,aj,simprocAttr,n0,r0,nG,nL,nM]
 refine gh 6 ?_
 simp only[↓ah,aj,simprocAttr,aM]
 refine gh 6 ?_
 simp only[↓ah,aj,simprocAttr,aM]
 refine gh 6 ?_
 simp only[↓ah,aj,simprocAttr,aM]
 refine gh 6 ?_
 simp only[↓ah,aj,simprocAttr,aM]
 refine gh 6 ?_
 simp only[↓ah,aj,simprocAttr,aM,nm]
 refine E0 (a:=(some (Value.agg #[.string ⟨#[114,119]⟩]):Option Value)) rfl ?_
 have ed:dV (.cons LS .nil) (.agg #[.string ⟨#[114,119]⟩])= .agg (.cons LS .nil) [sRw]:=rfl
 simp only[↓ah,aj,simprocAttr,aM,ed]
 exact .val _ rfl
abbrev SAc:Sh:= .cons LI (.cons LI (.cons cJ (.cons LI (.cons LB (.cons LB .nil)))))
def QM(at_:BitVec 32):D:= .agg SAc [.raw (it 0),.raw (it 0),.raw (u32 at_),.raw (it 1),.raw (.bool true),.raw (.bool false)]
theorem Oj(x y:BitVec 32)(h:QM x=QM y):x=y:=by
 unfold QM at h
 injection h with _ h
 injection h with _ h
 injection h with _ h
 injection h with h _
 injection h with h
 exact Go.Am.BU.1 h
noncomputable def He:Fn:=mV (bx QM) (λ_=>true) λ_=>(.raw (.bool true),[])
theorem Yt(C:bf)(hC:aJ C P):aN C.aX P 213 (Fn.run He):=by
 refine aG (wJ C hC) λds rows r h=>?_
 obtain⟨d,x,rfl,rfl,hd,hp,rfl⟩:=a8 h
 cases aE hd
 refine⟨rfl,ag rfl ?_⟩
 unfold ou ov QM
 simp only[↓ah,aj,simprocAttr,aM]
 exact .val _ rfl
noncomputable def Hf:Fn:=mV (bx QM) (λ_=>true) λ_=>(sW,[])
theorem Yu(C:bf)(hC:aJ C P):aN C.aX P 217 (Fn.run Hf):=by
 refine aG (wK C hC) λds rows r h=>?_
 obtain⟨d,x,rfl,rfl,hd,hp,rfl⟩:=a8 h
 cases aE hd
 refine⟨rfl,ag rfl ?_⟩
 unfold ow ox QM
 simp only[↓ah,aj,simprocAttr,aM]
 exact .val _ rfl
abbrev SSp2:Sh:= .cons cJ (.cons LI .nil)
def QN(a:BitVec 32)(n:Int):D:= .agg SSp2 [.raw (u32 a),.raw (it n)]
def JL:D:= .agg (.ar 6 SSp2) [QN 0#32 0,QN 536870912#32 4096,QN 536875008#32 4096,QN 268435456#32 10240,QN 1073741824#32 64,QN 1610612736#32 256]
def Ok(x:BitVec 32):Bool:=decide (536870912<=x.toNat)&&decide (x.toNat<536875008)
def Ol:Fn:=mV qs Ok λx=>(.cA [.raw (it 1),.raw (it ((x.toNat-536870912:Nat):Int))],[])
theorem where_ok(C:bf)(hC:aJ C P)(hg:C.aX 4=some JL):aN C.aX P 214 (Fn.run Ol):=by
 refine aG (KX C hC) λds rows r h=>?_
 obtain⟨d,x,rfl,rfl,hd,hp,rfl⟩:=a8 h
 cases dH hd
 simp only[Ok,aan,aat]at hp
 refine⟨rfl,ag rfl ?_⟩
 unfold Ap Aq
 have e1:(0#32<=x)=True:=aas (by rw[abS];exact acp _)
 have e2:(536870912#32<=x)=True:=aas (by rw[abS];exact hp.1)
 have e3:(x-536870912#32).toNat=x.toNat-536870912:=by rw[BitVec.toNat_sub_of_le (by rw[abS];exact hp.1)];rfl
 have e4:(((x.toNat-536870912:Nat):Int)<4096)=True:=aas (by omega)
 have e5:(((x.toNat:Nat):Int)<0)=False:=aax (by omega)
 have e6:x-0#32=x:=BitVec.sub_zero x
 simp only[↓ah,aj,simprocAttr,aM,hg,JL,QN]
 refine gh 3 ?_
 simp only[↓ah,aj,simprocAttr,aM,e1,e2,e3,e4,e5,e6]
 exact .val _ rfl
noncomputable def yh:Fn:=fAt [.raw (it 1)] (.cA [.raw (u32 536870912#32),.raw (it 4096)])
theorem base_ok(C:bf)(hC:aJ C P)(hg:C.aX 4=some JL):aN C.aX P 170 (Fn.run yh):=by
 refine rX (NK C hC) (ag rfl ?_)
 unfold CN CP
 simp only[↓ah,aj,simprocAttr,aM,hg,JL,QN]
 exact .val _ rfl
noncomputable def Hg:Fn:=mV (bx QM) Ok λx=>(.cA [.raw (it 1),.raw (it ((x.toNat-536870912:Nat):Int)),.raw (it 0)],[])
theorem Yv(C:bf)(hC:aJ C P)(h1:C.fn 213=some He)(h2:C.fn 214=some Ol)(h3:C.fn 216=some fMay)(h4:C.fn 217=some Hf)(h5:C.fn 215=some Wb):
  aN C.aX P 204 (Fn.run Hg):=by
 refine aG (KV C hC) λds rows r h=>?_
 obtain⟨d,x,rfl,rfl,hd,hp,rfl⟩:=a8 h
 cases aE hd
 refine⟨rfl,ag rfl ?_⟩
 clear h hd
 unfold Aj Ak
 have k1:∀rows k,aI He rows k [QM x]=k (.raw (.bool true)) rows:=λrows k=>(a9 rfl (eK (br Oj x) rfl)).trans (by simp[shift,ab])
 have k4:∀rows k,aI Hf rows k [QM x]=k sW rows:=λrows k=>(a9 rfl (eK (br Oj x) rfl)).trans (by simp[shift,ab])
 have k2:∀rows k,aI Ol rows k [.raw (u32 x)]=k (.cA [.raw (it 1),.raw (it ((x.toNat-536870912:Nat):Int))]) rows:=λrows k=>(a9 rfl (eK (eO x) hp)).trans (by simp[shift,bB,ab])
 have k3:=λrows k=>kAt [.raw (it 0),.raw (it 0),.raw (it 1)] sRw rfl rfl rows k rfl
 have k5:=λrows k=>kAt [sRw,sW] (.raw (.bool true)) rfl rfl rows k rfl
 have f0:(QM x).fits SAc=true:=rfl
 have g0:(QM x).get [0]=some (.raw (it 0)):=rfl
 have g1:(QM x).get [1]=some (.raw (it 0)):=rfl
 have g2:(QM x).get [2]=some (.raw (u32 x)):=rfl
 have g3:(QM x).get [3]=some (.raw (it 1)):=rfl
 have e1:x %1#32=0#32:=by simp
 have e2:BitVec.ofInt 32 1=1#32:=rfl
 simp only[↓ah,aj,simprocAttr,aM,f0,g0,g1,g2,g3,e1,e2,h1,h2,h3,h4,h5,k1,k2,k4,fMay,k3,Wb,k5]
 exact .val _ rfl
abbrev nj:Sh:= .cons LI (.cons (.ar 8192 L8) (.cons (.ar 64 L8) (.cons .ref (.cons .ref .nil))))
def wQ(st:Int)(gZ:List (BitVec 8))(pt:D)(f c:Nat):D:= .agg nj [.raw (it st),.agg (.ar 8192 L8) (bs gZ),pt,.ptr SF f [0],.ptr TQ c [0]]
structure WiC (C:bf):Prop where
 ck:C.fn 204=some Hg
 ba:C.fn 170=some yh
theorem QO(C:bf)(H:WiC C){rows:Rows}{s f c o n:Nat}{gZ:List (BitVec 8)}{pt:D}(hs:live rows s=some ⟨nj,[wQ 0 gZ pt f c]⟩)(h:o+n<=4096)(h0:0<n){K:D->Rows->Prop}
  (hk:K (.cA [.raw (it 1),.raw (it (o:Int)),.raw (it 0)]) rows):
  aQ C 5 fC fz [.ptr nj s [0],.raw (it 0),.raw (u32 (536870912#32+BitVec.ofInt 32 (o:Int))),.raw (it (n:Int)),.raw (.bool true)] rows K:=by
 refine ag rfl ?_
 unfold fz fC
 have hx:(536870912#32+BitVec.ofInt 32 (o:Int)).toNat=536870912+o:=by
  rw[aa4,ab4,aaK,aaK];omega
 generalize 536870912#32+BitVec.ofInt 32 (o:Int)=x at*
 have k1:∀rows k,aI Hg rows k [QM x]=k (.cA [.raw (it 1),.raw (it (o:Int)),.raw (it 0)]) rows:=λrows k=>(a9 rfl (eK (br Oj x) (by simp[Ok,hx];omega))).trans (by simp[shift,bB,ab,hx])
 have k2:=λrows k=>kAt [.raw (it 1)] (.cA [.raw (u32 536870912#32),.raw (it 4096)]) rfl rfl rows k rfl
 have g0:dC [wQ 0 gZ pt f c] [0,0]=some (.raw (it 0)):=rfl
 have e1:wz (4096-(o:Int))=4096-(o:Int):=aZ (by omega)
 have e2:((4096-(o:Int))<(n:Int))=False:=aax (by omega)
 simp only[QM]at k1
 simp only[wQ]at hs
 simp only[↓ah,aj,simprocAttr,hs,H.ck,H.ba,k1,yh,k2,e1,e2]
 exact hk
structure StC (C1 C:bf):Prop where
 wi:WiC C1
 n0:C.fn 190=none
 r0:C.fy 190=some (aQ C1 5 fC fz)
 n1:C.fn 192=none
 r1:∃C2,C.fy 192=some (aQ C2 2 iW iV)
theorem QP{rows:Rows}{s f c o len:Nat}{ex:Bool}{st:Int}{gZ p:List (BitVec 8)}{pt:D}(hs:live rows s=some ⟨nj,[wQ st gZ pt f c]⟩)(hr:gZ.length=8192)(h:o+len<=8192)(hp:p.length<=len){k:D->Rows->Prop}
  (hk:k (.raw (it (p.length:Int))) (rows.set s (some ⟨nj,[wQ st (bh gZ o p) pt f c]⟩))):o5 rows L8 (.sl L8 s [0,1] o len ex) (bs p) k:=by
 have e1:min (bs p).length len=p.length:=by rw[aB];omega
 have e2:(bs p).take p.length=bs p:=fT p
 have e3:bh (bs gZ) o (bs p)=bs (bh gZ o p):=JH gZ o p
 have hg:dC [wQ st gZ pt f c] [0,1]=some (.agg (.ar 8192 L8) (bs gZ)):=rfl
 refine⟨rfl,E0 hs ?_⟩
 rw[hg]
 refine⟨by rw[aB];omega,E0 (a:=[wQ st (bh gZ o p) pt f c]) ?_ ?_⟩
 ·rw[e1,e2,e3];rfl
 ·rw[e1];exact hk
theorem Yw(C C1:bf)(H:StC C1 C){rows:Rows}{s f c o:Nat}{gZ p:List (BitVec 8)}{d pt:D}(hs:live rows s=some ⟨nj,[wQ 0 gZ pt f c]⟩)(hr:gZ.length=8192)(h:o+p.length<=4096)(h0:0<p.length)(hd:sH rows L8 d=some (bs p))(tD:dQ d=some p.length){K:D->Rows->Prop}
  (hk:K (.raw (it 0)) (rows.set s (some ⟨nj,[wQ 0 (bh gZ o p) pt f c]⟩))):
  aQ C 4 fS fR [.ptr nj s [0],.raw (it 0),.raw (u32 (536870912#32+BitVec.ofInt 32 (o:Int))),d] rows K:=by
 refine ag rfl ?_
 unfold fR fS
 obtain⟨C2,r1⟩:=H.r1
 have e1:((p.length:Int)=0)=False:=aax (by omega)
 simp only[↓ah,aj,simprocAttr,tD,e1,H.n0,H.r0]
 refine QO C1 H.wi hs h h0 ?_
 simp only[↓ah,aj,simprocAttr,H.n1,r1,nG,iV,iW]
 refine⟨by omega,by omega,E0 hd ⟨λk hk=>?_,QP hs hr (by omega) (by omega) ?_⟩⟩
 ·rw[tD]at hk;cases hk;rw[aB]
 ·simp only[↓ah,aj,simprocAttr]
  exact hk
theorem kCall_vb{α:Type}{mk:α->D}(Nq:∀x y,mk x=mk y->x=y){pre:α->List (BitVec 8)->Bool}{QQ:α->List (BitVec 8)->D}{rows:Rows}{k:D->Rows->Prop}{x:α}{d:D}{p:List (BitVec 8)}(h:aU rows d p)(hp:pre x p=true)
  (hr:aR (mk x)=false)(hv:view rows 9 (mk x)=some (mk x))(hno:cj (QQ x p)=true)(hsh:shift rows.length (QQ x p)=QQ x p):aI (tW (bx mk) dB pre λx p=>(QQ x p,[])) rows k [mk x,d]=k (QQ x p) rows:=by
 obtain⟨⟨d',j9,hb⟩,hn⟩:=h
 have e1:∀d2,dB d2=some p->(tW (bx mk) dB pre λx p=>(QQ x p,[])) [mk x,d2] []=some (QQ x p,[]):=λd2 h2=>gR (br Nq x) h2 hp
 unfold aI
 have h1:aW [mk x,d]=aR d:=by simp[aW,hr]
 rw[h1]
 cases hh:aR d with
 |true=>
  simp only[ack,dU,hv,j9,bn,e1 _ hb.rd,hno,be,ach,aa2,hsh,ab,aaL]
  simp
 |false=>
  simp only[ack,bn,e1 _ (hn hh).rd,hsh,ab,aaL]
  simp
def pB(l:List (BitVec 8))(x:BitVec 8):List (BitVec 8):=l.map λb=>b^^^x
theorem QR(l:List (BitVec 8))(x:BitVec 8):(pB l x).length=l.length:=by simp[pB]
noncomputable def Wc:Fn:=tW (bx NT) rd8 (λb _=>decide (b.length=64)) λb x=>(.cI L8 (bs (pB b x)) true,[])
theorem mpad_ok(C:bf)(hC:aJ C P):aN C.aX P 218 (Fn.run Wc):=by
 refine aG (XP C hC) λds rows r h=>?_
 obtain⟨d,e,b,x,rfl,rfl,hd,he,hp,rfl⟩:=cQ h
 cases aE hd
 cases Ij he
 simp only[aat]at hp
 refine⟨rfl,ag rfl ?_⟩
 clear h hd he
 unfold L9 Ma
 simp only[NT,↓ah,aj,simprocAttr]
 refine bg 64 (λi env rows=>has env [(6,.raw (it (i:Int))),(1,.raw (u8 x)),(2,.ptr (.ar 64 L8) 0 [0])]/\rows=[some ⟨.ar 64 L8,[.agg (.ar 64 L8) (bs (pB (b.take i) x++b.drop i))]⟩]) ?_ ?_ ⟨?_,?_⟩
 ·rintro i hi env rows ⟨hh,rfl⟩ R hR
  simp only[has]at hh
  obtain⟨h6,h1,h2,-⟩:=hh
  have e0:((i:Int)<64)=True:=aas (by omega)
  have e1:((0:Int)<=(i:Int))=True:=aas (by omega)
  have e2:=ca i (by omega)
  have hl:(pB (b.take i) x).length=i:=by rw[QR,aau];omega
  have eg:(bs (pB (b.take i) x++b.drop i))[i]?=some (.raw (u8 (b.getD i 0#8))):=by
   rw[j4 (by rw[aao,hl,aar];omega)]
   congr 3
   simp[List.getD,aaO (adx hl),hl]
  have es:(pB (b.take i) x++b.drop i).set i (b.getD i 0#8^^^x)=pB (b.take (i+1)) x++b.drop (i+1):=by
   have e3:b.drop i=b.getD i 0#8::b.drop (i+1):=by
    rw[abD (by omega)];simp[List.getD,(by omega:i<b.length)]
   rw[ab6 _ _ (adx hl),hl,acq,e3,lg (z:=0#8) (by omega)]
   simp[pB]
  simp only[↓ah,aj,simprocAttr,h6,h1,h2,e0,e1,e2,eg,NQ,es,aav]
  exact hR _ _ ⟨by simp only[has,↓ah,aj,simprocAttr,h1,h2],rfl⟩
 ·rintro env rows ⟨hh,rfl⟩ R
  simp only[has]at hh
  obtain⟨h6,h1,h2,-⟩:=hh
  have hf:pB (b.take 64) x++b.drop 64=pB b x:=by rw[aaq (by omega),aci (by omega),aaL]
  rw[hf]
  simp only[↓ah,aj,simprocAttr,h6,h1,h2]
  have hw:view [some ⟨.ar 64 L8,[.agg (.ar 64 L8) (bs (pB b x))]⟩] 9 (.sl L8 0 [0] 0 64 true)=some (.cI L8 (bs (pB b x)) true):=by
   have hl:(bs (pB b x)).length=64:=by rw[aB,QR,hp]
   have he:Am.elems [some ⟨.ar 64 L8,[.agg (.ar 64 L8) (bs (pB b x))]⟩] (.sl L8 0 [0] 0 64 true)=some (bs (pB b x)):=by
    have:(bs (pB b x)).take 64=bs (pB b x):=aaq (adx hl)
    simp[elems,live,dC,D.get,this]
   simp only[Am.view,he,hl]
   simp[Sh.pure]
  exact .frz _ _ hw
 ·simp only[has,↓ah,aj,simprocAttr]
 ·rfl
theorem We(rows:Rows)(k:D->Rows->Prop)(b:List (BitVec 8))(x:BitVec 8)(h:b.length=64):aI Wc rows k [.agg (.ar 64 L8) (bs b),.raw (u8 x)]=k (.cI L8 (bs (pB b x)) true) rows:=by
 refine(a9 (by simp[aW,aR,Sh.pure]) (r:=(.cI L8 (bs (pB b x)) true,[])) ?_).trans ?_
 ·exact gR (br I5 b) (Np x) (by simp[h])
 ·simp[shift,ab,Sh.pure]
def GN(k:List (BitVec 8)):List (BitVec 8):=jC (if 64<k.length then cM k else k) 64
theorem keyS_len(k:List (BitVec 8)):(GN k).length=64:=by
 unfold GN
 split
 ·exact yP (by rw[cm];decide)
 ·exact yP (by omega)
structure K6 where
 i:St
 o:St
def oU(m:K6):D:= .agg S34 [uG m.i,uG m.o]
theorem QS(x y:K6)(h:oU x=oU y):x=y:=by
 obtain⟨a,b⟩:=x
 obtain⟨a',b'⟩:=y
 simp only[oU,D.agg.injEq,abC,aa2,acg]at h
 rw[G4 _ _ h.1,G4 _ _ h.2]
def K6.ok(m:K6):Bool:=m.i.ok&&m.o.ok
theorem Om{m:K6}(h:m.ok=true):m.i.ok=true/\m.o.ok=true:=by simpa[K6.ok]using h
def GO(k:List (BitVec 8)):K6:=⟨feed Bx (pB (GN k) 54#8),feed Bx (pB (GN k) 92#8)⟩
theorem newM_ok(k:List (BitVec 8)):(GO k).ok=true:=by simp[K6.ok,GO,fq _ _ oO]
def ng(m:K6)(p:List (BitVec 8)):K6:=⟨feed m.i p,m.o⟩
theorem uS{m:K6}(h:m.ok=true)(p:List (BitVec 8)):(ng m p).ok=true:=by
 have:=Om h
 simp[K6.ok,ng,fq _ _ this.1,this.2]
def sumM(m:K6):List (BitVec 8):=pw (feed m.o (pw m.i))
theorem DB(m:K6):aR (oU m)=false:=by simp[oU,uG,aR,aW,Sh.pure]
theorem mac_view(m:K6)(rows:Rows):view rows 9 (oU m)=some (oU m):=by simp[oU,view,Sh.pure]
theorem MB(m:K6)(n:Nat):shift n (oU m)=oU m:=by simp[oU,shift,Sh.pure]
theorem MC(m:K6):cj (oU m)=true:=by simp[oU,cj,Sh.pure]
theorem QT(m:K6):D.fits (oU m) S34=true:=by simp[oU,D.fits]
def Wf:Fn:=mV dB (λk=>Nat.ble k.length most) λk=>(oU (GO k),[])
theorem mnew_ok(C:bf)(hC:aJ C P)(h1:C.fn 95=some Di)(h2:C.fn 157=some Qj)(h3:C.fn 158=some td)(h4:C.fn 218=some Wc):aN C.aX P 206 (Fn.run Wf):=by
 refine bU (XN C hC) λds rows r h=>?_
 obtain⟨d,p,rfl,rfl,hd,hp,rfl⟩:=a8 h
 obtain⟨x,hx⟩:=cb hd
 simp only[abo]at hp
 unfold most at hp
 refine⟨rfl,_,.cons hx .nil,ag rfl ?_⟩
 clear h hd hx
 unfold L3 L4
 have Nc:=keyS_len p
 have z64:(List.replicate 64 (D.raw (u8 0#8)))=bs (List.replicate 64 0#8):=bs_rep 64 0#8
 by_cases hl:64<p.length
 ·have hlI:((64:Int)<(p.length:Int))=True:=aas (by omega)
  have hk:bh (List.replicate 64 0#8) 0 ((((cM p).drop 0).take 32).take (min (((cM p).drop 0).take 32).length 64))=GN p:=by
   have e1:((cM p).drop 0).take 32=cM p:=by rw[abi,aaq (by rw[cm];exact aaz _)]
   have:=vD (l:=[]) (x:=cM p) (n:=64) (by rw[cm];decide)
   simp only[aaT,abp]at this
   have e2:jC [] 64=List.replicate 64 0#8:=rfl
   rw[e2]at this
   rw[e1,aaq (by rw[cm];exact aaz _),this,GN,aaI hl]
  simp only[↓ah,aj,simprocAttr,aB,hlI,h1,aav]
  refine Eq.mpr (N0 _ _ _ 1 _ _ [p] rfl rfl (.cons (ez.to (.inr ⟨_,rfl⟩)) .nil) (by simp) (by simp;omega)) ?_
  have Mc:[p].flatten=p:=by simp
  rw[Mc]
  simp only[↓ah,aj,simprocAttr,el_sp,Qe,abi]
  have q1:((bs (cM p)).take 32).length=32:=by rw[dO,aB,aau,cm];rfl
  refine⟨q1,?_⟩
  have q2:(bs (cM p)).take 32=bs (((cM p).drop 0).take 32):=by rw[abi,dO]
  rw[q2]
  refine Eq.mpr (EI (l:=List.replicate 64 0#8) rfl (by simp)) ?_
  rw[hk]
  simp only[↓ah,aj,simprocAttr,h2,h3,h4,TG,We _ _ _ _ Nc]
  refine Eq.mpr (lW _ _ _ _ (pB (GN p) 54#8) (ez.to (.inr ⟨_,rfl⟩)) oO) ?_
  simp only[↓ah,aj,simprocAttr,h2,h3,h4,TG,We _ _ _ _ Nc]
  refine Eq.mpr (lW _ _ _ _ (pB (GN p) 92#8) (ez.to (.inr ⟨_,rfl⟩)) oO) ?_
  simp only[↓ah,aj,simprocAttr,nP]
  exact .val _ (DB (GO p))
 ·have hlI:((64:Int)<(p.length:Int))=False:=aax (by omega)
  have hk:bh (List.replicate 64 0#8) 0 (p.take (min p.length 64))=GN p:=by
   have:=vD (l:=[]) (x:=p) (n:=64) (by simp;omega)
   simp only[aaT,abp]at this
   have e2:jC [] 64=List.replicate 64 0#8:=rfl
   rw[e2]at this
   rw[aaq (by omega),this,GN,aaA hl]
  simp only[↓ah,aj,simprocAttr,aB,hlI,h1,aaw]
  refine Eq.mpr (EI (l:=List.replicate 64 0#8) rfl (by simp)) ?_
  rw[hk]
  simp only[↓ah,aj,simprocAttr,h2,h3,h4,TG,We _ _ _ _ Nc]
  refine Eq.mpr (lW _ _ _ _ (pB (GN p) 54#8) (ez.to (.inr ⟨_,rfl⟩)) oO) ?_
  simp only[↓ah,aj,simprocAttr,h2,h3,h4,TG,We _ _ _ _ Nc]
  refine Eq.mpr (lW _ _ _ _ (pB (GN p) 92#8) (ez.to (.inr ⟨_,rfl⟩)) oO) ?_
  simp only[↓ah,aj,simprocAttr,nP]
  exact .val _ (DB (GO p))
theorem kMNew(rows:Rows)(k:D->Rows->Prop)(d:D)(p:List (BitVec 8))(h:aU rows d p)(hp:p.length<=1099511627776):aI Wf rows k [d]=k (oU (GO p)) rows:=by
 refine(qB h (by simpa[most]using hp) (by simp[MC,be])).trans ?_
 simp[MB,ab]
noncomputable def On:Fn:=tW (bx oU) dB (λm _=>m.ok) λm p=>(oU (ng m p),[])
theorem mfeed_ok(C:bf)(hC:aJ C P)(h3:C.fn 158=some td):aN C.aX P 207 (Fn.run On):=by
 refine bU (IZ C hC) λds rows r h=>?_
 obtain⟨d,e,m,p,rfl,rfl,hd,he,hok,rfl⟩:=cQ h
 cases aE hd
 obtain⟨x,hx⟩:=cb he
 refine⟨rfl,_,.cons (.refl _) (.cons hx .nil),ag rfl ?_⟩
 clear h hd he hx
 have ho:=Om hok
 unfold x6 x7
 simp only[oU,↓ah,aj,simprocAttr,h3]
 refine Eq.mpr (lW _ _ _ _ p (ez.to (.inr ⟨_,rfl⟩)) ho.1) ?_
 simp only[↓ah,aj,simprocAttr,nP]
 exact .val _ (DB (ng m p))
theorem JM(rows:Rows)(k:D->Rows->Prop)(m:K6)(d:D)(p:List (BitVec 8))(h:aU rows d p)(hm:m.ok=true):aI On rows k [oU m,d]=k (oU (ng m p)) rows:=
 kCall_vb QS (QQ:=λm p=>oU (ng m p)) h hm (DB m) (mac_view m rows) (MC _) (MB _ _)
noncomputable def Wg:Fn:=mV (bx oU) (λm=>m.ok) λm=>(aO (sumM m),[])
theorem msum_ok(C:bf)(hC:aJ C P)(h3:C.fn 158=some td)(h4:C.fn 159=some vE):aN C.aX P 209 (Fn.run Wg):=by
 refine aG (KW C hC) λds rows r h=>?_
 obtain⟨d,m,rfl,rfl,hd,hok,rfl⟩:=a8 h
 cases aE hd
 refine⟨rfl,ag rfl ?_⟩
 clear h hd
 have ho:=Om hok
 have o2:=fq (pw m.i) _ ho.2
 have hl:=Ml _ ho.1
 unfold An Ao
 simp only[oU,↓ah,aj,simprocAttr,h3,h4,Bj _ _ _ ho.1]
 refine Eq.mpr (lW _ _ _ _ (((pw m.i).drop 0).take 32) (aU.arr rfl (by omega)) ho.2) ?_
 have e1:((pw m.i).drop 0).take 32=pw m.i:=by rw[abi,aaq (by omega)]
 rw[e1]
 simp only[↓ah,aj,simprocAttr,h4,Bj _ _ _ o2]
 exact .val _ rfl
theorem kMSum(rows:Rows)(k:D->Rows->Prop)(m:K6)(h:m.ok=true):aI Wg rows k [oU m]=k (.agg (.ar 32 L8) (bs (sumM m))) rows:=by
 refine(a9 (by simp[aW,DB]) (r:=(aO (sumM m),[])) ?_).trans ?_
 ·exact eK (br QS m) h
 ·simp[shift,ab,aO,Sh.pure]
theorem yW(m:K6)(p q:List (BitVec 8)):ng (ng m p) q=ng m (p++q):=by simp[ng,eu]
def hmac(k p:List (BitVec 8)):List (BitVec 8):=sumM (ng (GO k) p)
end jU
end Go.Am

namespace Go.Am
attribute [local congr] dq bW dt bX bY cB bI bZ b5 cC bu cD b6 dj
namespace jU
open Go.Am.F
def fx(n:Nat):List (BitVec 8):=[BitVec.ofNat 8 (n/16777216),BitVec.ofNat 8 (n/65536),BitVec.ofNat 8 (n/256),BitVec.ofNat 8 n]
theorem QU(n:Nat):(fx n).length=4:=rfl
theorem Oo(n:Int)(m:BitVec 64)(k:D->Prop):cF .shr (it n) (u64 m) k=k (.raw (it (n.fdiv (2^(min m.toNat 64))))):=by
 simp only[cF,it,u64,aaB,IntKind.bits]
 simp
theorem pC(n m:Nat):(n:Int).fdiv (m:Int)=((n/m:Nat):Int):=by
 rw[ace _ (by omega)];rfl
def QV:Fn:=mV tH (λn=>decide (0<=n)) λn=>dF (fx n.toNat) false
theorem mnum_ok(C:bf)(hC:aJ C P):aN C.aX P 208 (Fn.run QV):=by
 refine aG (XO C hC) λds rows r h=>?_
 obtain⟨d,n,rfl,rfl,hd,hp,rfl⟩:=a8 h
 cases bK hd
 simp only[aat]at hp
 obtain⟨n,rfl⟩:=aaD hp
 refine⟨rfl,ag rfl ?_⟩
 clear h hd
 have e1:(n:Int).fdiv (2^(min 24 64))=((n/16777216:Nat):Int):=pC n 16777216
 have e2:(n:Int).fdiv (2^(min 16 64))=((n/65536:Nat):Int):=pC n 65536
 have e3:(n:Int).fdiv (2^(min 8 64))=((n/256:Nat):Int):=pC n 256
 have e4:∀m:Nat,BitVec.ofInt 8 (m:Int)=BitVec.ofNat 8 m:=λm=>rfl
 unfold L5 L6
 simp only[↓ah,aj,simprocAttr,Oo,e1,e2,e3,e4]
 exact .own _ 0 0 _ true false _ rfl rfl (λh=>by cases h)
theorem Wh(rows:Rows)(k:D->Rows->Prop)(n:Nat):aI QV rows k [.raw (it (n:Int))]=k (.sl L8 (0+rows.length) [] 0 4 false) (rows++[some ⟨L8,bs (fx n)⟩]):=by
 refine(a9 rfl (r:=dF (fx n) false) ?_).trans ?_
 ·rw[QV,eK (lc _) (by simp)];rfl
 ·simp[dF,shift,ab,Sh.pure,QU]
def sb(b:ByteArray):List (BitVec 8):=b.data.toList.map λx=>BitVec.ofNat 8 x.toNat
theorem JN(b:ByteArray):ofBytes b=bs (sb b):=by
 simp only[ofBytes,bs,sb,List.map_map]
 refine acC λx _=>?_
 have hx:x.toNat<256:=x.toNat_lt
 simp only[Function.comp_def,u8,aaK]
 rw[aby (by omega)]
def rdStr:D->Option ByteArray
 | .raw (.string b)=>some b
 | _=>none
theorem T7{d:D}{b:ByteArray}(h:rdStr d=some b):d= .raw (.string b):=by
 unfold rdStr at h
 split at h
 ·cases h;rfl
 ·cases h
def Br:D->Option (List (List (BitVec 8)))
 | .raw (.slice none 0 0)=>some []
 | .cI s l _=>bif s== .ref then dU dB l else none
 | _=>none
theorem QW{d:D}{ls:List (List (BitVec 8))}(h:Br d=some ls):∃l e,Zr d (.cI .ref l e)/\dU dB l=some ls:=by
 unfold Br at h
 split at h
 ·cases h;exact⟨[],false,.nil _ _,rfl⟩
 ·rename_i s l e
  cases hb:(s==Sh.ref)with
  |false=>rw[hb]at h;cases h
  |true=>
   rw[hb]at h
   have:s= .ref:=by simpa using hb
   subst this
   exact⟨l,e,.refl _,h⟩
 ·cases h
def wx(ls:List (List (BitVec 8))):List (BitVec 8):=(ls.map λx=>fx x.length++x).flatten
theorem T8(ls:List (List (BitVec 8)))(x:List (BitVec 8)):wx (ls++[x])=wx ls++fx x.length++x:=by simp[wx]
def derT(lab:ByteArray)(ls:List (List (BitVec 8))):List (BitVec 8):=fx lab.size++sb lab++fx ls.length++wx ls
def Yx(k:List (BitVec 8))(lab:ByteArray)(ls:List (List (BitVec 8))):List (BitVec 8):=hmac k (derT lab ls)
def JP(k:List (BitVec 8))(lab:ByteArray)(ls:List (List (BitVec 8))):Bool:=Nat.ble k.length 1099511627000&&(Nat.ble lab.size 1099511&&(Nat.ble ls.length 1099511&&Nat.ble ls.flatten.length 1099511627))
def Yy:Fn:=GY dB rdStr Br JP λk lab ls=>(aO (Yx k lab ls),[])
theorem der_ok(C:bf)(hC:aJ C P)(h10:C.fn 206=some Wf)(h11:C.fn 207=some On)(h12:C.fn 209=some Wg)(h28:C.fn 208=some QV):aN C.aX P 198 (Fn.run Yy):=by
 refine bU (NN C hC) λds rows r h=>?_
 obtain⟨d,d1,d2,key,lab,ls,rfl,rfl,hd,he,hf,hp,rfl⟩:=fp h
 obtain⟨x,hx⟩:=cb hd
 cases T7 he
 obtain⟨l,e,hn,hl⟩:=QW hf
 simp only[JP,aan,abo]at hp
 obtain⟨OU,Mc,sq,hp3⟩:=hp
 obtain⟨hlen,lK⟩:=kU hl
 refine⟨rfl,_,.cons hx (.cons (.refl _) (.cons hn .nil)),ag rfl ?_⟩
 clear h hd he hx hn hf
 have RO:∀i (hi:i<ls.length),∃x,l[i]?=some x/\ez x ls[i]:=λi hi=>by
  have HY:i<l.length:=by omega
  have hli:l[i]?=some l[i]:=aap HY
  exact⟨_,hli,dR (lK i _ _ hli (aap hi))⟩
 have hfit:∀x y,ez x y->D.fits x .ref=true:=λx y hb=>by rcases hb with⟨h,_⟩|⟨e,h⟩<;>rw[h]<;>rfl
 have o1:=newM_ok key
 have o2:=uS o1 (fx lab.size)
 have o3:=uS o2 (sb lab)
 have o4:=uS o3 (fx l.length)
 unfold CY CZ
 simp only[↓ah,aj,simprocAttr,h10]
 refine Eq.mpr (kMNew _ _ _ key (ez.to (.inr ⟨_,rfl⟩)) (by omega)) ?_
 simp only[↓ah,aj,simprocAttr,h11,h28,Wh,JN]
 refine Eq.mpr (JM _ _ _ _ (fx lab.size) (aU.own rfl _ rfl) o1) ?_
 simp only[↓ah,aj,simprocAttr,h11,h28,Wh,JN]
 refine Eq.mpr (JM _ _ _ _ (sb lab) (ez.to (.inr ⟨_,rfl⟩)) o2) ?_
 simp only[↓ah,aj,simprocAttr,h11,h28,Wh]
 refine Eq.mpr (JM _ _ _ _ (fx l.length) (aU.own rfl _ rfl) o3) ?_
 simp only[↓ah,aj,simprocAttr,QT]
 have Fo:ng (ng (ng (GO key) (fx lab.size)) (sb lab)) (fx l.length)=ng (GO key) (fx lab.size++sb lab++fx l.length++wx (ls.take 0)):=by
  rw[yW,yW];simp[wx]
 rw[Fo]
 refine bg l.length (λi env rows=>has env [(23,.cI .ref l e),(24,.raw (it l.length)),(25,.raw (it (i:Int))),(6,.ptr (.ar 32 L8) 0 [0]),(7,.ptr S34 3 [0])]/\
  (∃z,live rows 0=some ⟨.ar 32 L8,[z]⟩)/\live rows 3=some ⟨S34,[oU (ng (GO key) (fx lab.size++sb lab++fx l.length++wx (ls.take i)))]⟩) ?_ ?_ ⟨?_,⟨_,rfl⟩,rfl⟩
 ·rintro i hi env rows ⟨hh,⟨z,r0⟩,r3⟩ R hR
  simp only[has]at hh
  obtain⟨q23,q24,q25,q6,q7,-⟩:=hh
  obtain⟨x,hx,hb⟩:=RO i (by omega)
  have e0:((i:Int)<(l.length:Int))=True:=aas (by omega)
  have e1:((0:Int)<=(i:Int))=True:=aas (by omega)
  have e2:=ca i (by omega)
  have hs:ng (ng (ng (GO key) (fx lab.size++sb lab++fx l.length++wx (ls.take i))) (fx ls[i].length)) ls[i]=ng (GO key) (fx lab.size++sb lab++fx l.length++wx (ls.take (i+1))):=by
   rw[yW,yW,aaR (by omega),T8]
   simp only[aaC]
  generalize fx lab.size++sb lab++fx l.length++wx (ls.take i)=T at*
  generalize fx lab.size++sb lab++fx l.length++wx (ls.take (i+1))=T' at*
  have hm:=uS o1 T
  have KA:=uS hm (fx ls[i].length)
  simp only[↓ah,aj,simprocAttr,aM,q23,q24,q25,q6,q7,e0,e1,hx,hfit _ _ hb,hb.dQ,r3,h11,h28,Wh,aav]
  refine Eq.mpr (JM _ _ _ _ (fx ls[i].length) (aU.own (pb (x:=⟨L8,bs (fx ls[i].length)⟩)) 4 rfl) hm) ?_
  simp only[↓ah,aj,simprocAttr,aM,q23,q24,q25,q6,q7,h11]
  refine Eq.mpr (JM _ _ _ _ ls[i] hb.to KA) ?_
  rw[hs]
  simp only[↓ah,aj,simprocAttr,aM,q23,q24,q25,q6,q7,e2,QT,ae r3]
  exact hR _ _ ⟨by simp only[has,↓ah,aj,simprocAttr,q23,q24,q6,q7],⟨z,(az (by decide)).trans (a7 r0)⟩,iS (a7 r3)⟩
 ·rintro env rows ⟨hh,⟨z,r0⟩,r3⟩ R
  simp only[has]at hh
  obtain⟨q23,q24,q25,q6,q7,-⟩:=hh
  have e0:((l.length:Int)<(l.length:Int))=False:=aax (by omega)
  have hT:fx lab.size++sb lab++fx l.length++wx (ls.take l.length)=derT lab ls:=by
   rw[derT,<-hlen,aaV]
  rw[hT]at r3
  have hm:=uS o1 (derT lab ls)
  have s0:∀x,live (rows.set 0 (some x)) 0=some x:=λx=>iS r0
  simp only[↓ah,aj,simprocAttr,q23,q24,q25,q6,q7,e0,r3,h12,kMSum _ _ _ hm,r0,s0,aaw]
  exact .val _ rfl
 ·simp only[has,↓ah,aj,simprocAttr]
def fNum:Fn:=mV dB (λa=>Nat.ble 4 a.length) λa=>(.raw (it (((cR a).toNat:Nat):Int)),[])
theorem num_ok(C:bf)(hC:aJ C P):aN C.aX P 211 (Fn.run fNum):=by
 refine aG (I0 C hC) λds rows r h=>?_
 obtain⟨d,a,rfl,rfl,hd,hp,rfl⟩:=a8 h
 have ha:=dR hd
 simp only[abo]at hp
 refine⟨rfl,ag rfl ?_⟩
 unfold x8 x9
 have e0:∀(k:D->Rows->Prop) rows,oH (.leaf (.int .u8)) 0 rows k d=k (.cd (.raw (u8 (a.getD 0 0#8)))) rows:=λk rows=>by have:=fX (k:=k) (rows:=rows) (n:=0) ha (by omega);simpa using this
 have e1:∀(k:D->Rows->Prop) rows,oH (.leaf (.int .u8)) 1 rows k d=k (.cd (.raw (u8 (a.getD 1 0#8)))) rows:=λk rows=>by have:=fX (k:=k) (rows:=rows) (n:=1) ha (by omega);simpa using this
 have e2:∀(k:D->Rows->Prop) rows,oH (.leaf (.int .u8)) 2 rows k d=k (.cd (.raw (u8 (a.getD 2 0#8)))) rows:=λk rows=>by have:=fX (k:=k) (rows:=rows) (n:=2) ha (by omega);simpa using this
 have e3:∀(k:D->Rows->Prop) rows,oH (.leaf (.int .u8)) 3 rows k d=k (.cd (.raw (u8 (a.getD 3 0#8)))) rows:=λk rows=>by have:=fX (k:=k) (rows:=rows) (n:=3) ha (by omega);simpa using this
 simp only[↓ah,aj,simprocAttr,e0,e1,e2,e3]
 exact .val _ rfl
def fPre:Fn:=tW dB dB (λa b=>Nat.ble a.length most&&Nat.ble b.length most) λa b=>(.raw (.bool (decide (b.length<=a.length)&&decide (a.take b.length=b))),[])
theorem pre_ok(C:bf)(hC:aJ C P)(h20:C.fn 94=some yf):aN C.aX P 210 (Fn.run fPre):=by
 refine bU (De C hC) λds rows r h=>?_
 obtain⟨d,e,a,b,rfl,rfl,hd,he,hp,rfl⟩:=cQ h
 obtain⟨x,hx⟩:=cb hd
 obtain⟨y,hy⟩:=cb he
 refine⟨rfl,_,.cons hx (.cons hy .nil),ag rfl ?_⟩
 simp only[aan,abo]at hp
 unfold most at hp
 clear h hx hy hd he
 unfold s9 tc
 by_cases hl:b.length<=a.length
 ·have sO:((b.length:Int)<=(a.length:Int))=True:=aas (by omega)
  have xf:((0:Int)<=(b.length:Int))=True:=aas (by omega)
  simp only[↓ah,aj,simprocAttr,aB,sO,xf,h20]
  simp only[acB,dO]
  refine Eq.mpr (Bl _ _ _ _ (a.take b.length) b (ez.to (.inr ⟨_,rfl⟩)) (ez.to (.inr ⟨_,rfl⟩)) (by rw[aau];omega) (by omega)) ?_
  simp only[↓ah,aj,simprocAttr]
  simp only[hl,aav,abA]
  exact .val _ rfl
 ·have sO:((b.length:Int)<=(a.length:Int))=False:=aax (by omega)
  simp only[↓ah,aj,simprocAttr,aB,sO]
  simp only[hl,aaw,abQ]
  exact .val _ rfl
theorem kPre(rows:Rows)(k:D->Rows->Prop)(d e:D)(p q:List (BitVec 8))(h:aU rows d p)(h':aU rows e q)(hp:p.length<=1099511627776)(hq:q.length<=1099511627776):aI fPre rows k [d,e]=k (.raw (.bool (decide (q.length<=p.length)&&decide (p.take q.length=q)))) rows:=by
 refine(En h h' (by simpa[most]using⟨hp,hq⟩) rfl).trans ?_
 simp[shift,ab]
theorem val_q(q:List (BitVec 8))(h:4<=q.length):(EF (q.take 4)).setWidth 32=cR q/\wz ((EF (q.take 4)).toNat:Int)=((cR q).toNat:Int):=by
 match q,h with
 |a::b::c::d::l,_=>
  have h1:(a::b::c::d::l).take 4=[a,b,c,d]:=rfl
  have h2:cR (a::b::c::d::l)=cR [a,b,c,d]:=rfl
  rw[h1,h2]
  refine⟨Vp a b c d,?_⟩
  have h3:=Qd a b c d
  have h4:=yb a b c d
  have h5:=a.isLt
  have h6:=b.isLt
  have h7:=c.isLt
  have h8:=d.isLt
  rw[aZ (by omega)]
  omega
structure AB where
 v:Int
 s:Int
 e:Int
 dg:List (BitVec 8)
abbrev SM:Sh:= .cons LI (.cons LI (.cons LI (.cons (.ar 32 L8) .nil)))
def cw(m:AB):D:= .agg SM [.raw (it m.v),.raw (it m.s),.raw (it m.e),.agg (.ar 32 L8) (bs m.dg)]
theorem DC(x y:AB)(h:cw x=cw y):x=y:=by
 obtain⟨v,s,e,d⟩:=x
 obtain⟨v',s',e',d'⟩:=y
 unfold cw at h
 injection h with _ h
 injection h with h1 h
 injection h with h2 h
 injection h with h3 h
 injection h with h4 _
 injection h4 with _ h4
 injection h1 with h1
 injection h2 with h2
 injection h3 with h3
 cases Ik.1 h1
 cases Ik.1 h2
 cases Ik.1 h3
 cases rO h4
 rfl
def bT(m:AB):Bool:=decide (0<=m.v)&&decide (m.v<=255)&&decide (4<=m.s)&&decide (m.s<=2048)&&decide (m.s.tmod 4=0)&&decide (0<=m.e)&&decide (m.e<m.s)&&decide (m.e.tmod 4=0)
noncomputable def vL:Fn:=mV (bx cw) (λ_=>true) λm=>(.raw (.bool (bT m)),[])
theorem right_ok (C : bf) (hC : aJ C P) : aN C.aX P 84 (Fn.run vL) := by
 refine aG (sB C hC) λds rows r h=>?_
 obtain⟨d,m,rfl,rfl,hd,hp,rfl⟩:=a8 h
 cases aE hd
 refine⟨rfl,ag rfl ?_⟩
 clear h hd
 obtain⟨v,s,e,dg⟩:=m
 unfold lU lV
 by_cases c1:0<=v
 case pos =>
  by_cases c2:v<=255
  case pos =>
   by_cases c3:4<=s
   case pos =>
    by_cases c4:s<=2048
    case pos =>
     by_cases c5:s.tmod 4=0
     case pos=>
      by_cases c6:0<=e
      case pos=>
       by_cases c7:e<s
       case pos=>
        by_cases c8:e.tmod 4=0
        case pos=>
         simp only[↓ah,aj,simprocAttr,bT,cw,c1,c2,c3,c4,c5,c6,c7,c8,aav,aaw]
         exact .val _ rfl
        case neg=>
         simp only[↓ah,aj,simprocAttr,bT,cw,c1,c2,c3,c4,c5,c6,c7,c8,aav,aaw]
         exact .val _ rfl
       case neg=>
        simp only[↓ah,aj,simprocAttr,bT,cw,c1,c2,c3,c4,c5,c6,c7,aav,aaw]
        exact .val _ rfl
      case neg=>
       simp only[↓ah,aj,simprocAttr,bT,cw,c1,c2,c3,c4,c5,c6,aav,aaw]
       exact .val _ rfl
     case neg=>
      simp only[↓ah,aj,simprocAttr,bT,cw,c1,c2,c3,c4,c5,aav,aaw]
      exact .val _ rfl
    case neg=>
     simp only[↓ah,aj,simprocAttr,bT,cw,c1,c2,c3,c4,aav,aaw]
     exact .val _ rfl
   case neg=>
    simp only[↓ah,aj,simprocAttr,bT,cw,c1,c2,c3,aav,aaw]
    exact .val _ rfl
  case neg=>
   by_cases c3:4<=s
   case pos=>
    by_cases c4:s<=2048
    case pos=>
     by_cases c5:s.tmod 4=0
     case pos=>
      simp only[↓ah,aj,simprocAttr,bT,cw,c1,c2,c3,c4,c5,aav,aaw]
      exact .val _ rfl
     case neg=>
      simp only[↓ah,aj,simprocAttr,bT,cw,c1,c2,c3,c4,c5,aav,aaw]
      exact .val _ rfl
    case neg=>
     simp only[↓ah,aj,simprocAttr,bT,cw,c1,c2,c3,c4,aav,aaw]
     exact .val _ rfl
   case neg=>
    simp only[↓ah,aj,simprocAttr,bT,cw,c1,c2,c3,aav,aaw]
    exact .val _ rfl
 case neg=>
  by_cases c3:4<=s
  case pos=>
   by_cases c4:s<=2048
   case pos=>
    by_cases c5:s.tmod 4=0
    case pos=>
     simp only[↓ah,aj,simprocAttr,bT,cw,c1,c3,c4,c5,aav,aaw]
     exact .val _ rfl
    case neg=>
     simp only[↓ah,aj,simprocAttr,bT,cw,c1,c3,c4,c5,aav,aaw]
     exact .val _ rfl
   case neg=>
    simp only[↓ah,aj,simprocAttr,bT,cw,c1,c3,c4,aav,aaw]
    exact .val _ rfl
  case neg=>
   simp only[↓ah,aj,simprocAttr,bT,cw,c1,c3,aav,aaw]
   exact .val _ rfl
theorem Yz (C : bf) (hC : aJ C P) : aN C.aX P 136 (Fn.run vL) := by
 refine aG (KR C hC) λds rows r h=>?_
 obtain⟨d,m,rfl,rfl,hd,hp,rfl⟩:=a8 h
 cases aE hd
 refine⟨rfl,ag rfl ?_⟩
 clear h hd
 obtain⟨v,s,e,dg⟩:=m
 unfold Ab Ac
 by_cases c1:0<=v
 case pos =>
  by_cases c2:v<=255
  case pos =>
   by_cases c3:4<=s
   case pos =>
    by_cases c4:s<=2048
    case pos =>
     by_cases c5:s.tmod 4=0
     case pos=>
      by_cases c6:0<=e
      case pos=>
       by_cases c8:e.tmod 4=0
       case pos=>
        by_cases c7:e<s
        case pos=>
         simp only[↓ah,aj,simprocAttr,bT,cw,c1,c2,c3,c4,c5,c6,c8,c7,aav,aaw]
         exact .val _ rfl
        case neg=>
         simp only[↓ah,aj,simprocAttr,bT,cw,c1,c2,c3,c4,c5,c6,c8,c7,aav,aaw]
         exact .val _ rfl
       case neg=>
        simp only[↓ah,aj,simprocAttr,bT,cw,c1,c2,c3,c4,c5,c6,c8,aav,aaw]
        exact .val _ rfl
      case neg=>
       simp only[↓ah,aj,simprocAttr,bT,cw,c1,c2,c3,c4,c5,c6,aav,aaw]
       exact .val _ rfl
     case neg=>
      simp only[↓ah,aj,simprocAttr,bT,cw,c1,c2,c3,c4,c5,aav,aaw]
      exact .val _ rfl
    case neg=>
     simp only[↓ah,aj,simprocAttr,bT,cw,c1,c2,c3,c4,aav,aaw]
     exact .val _ rfl
   case neg=>
    simp only[↓ah,aj,simprocAttr,bT,cw,c1,c2,c3,aav,aaw]
    exact .val _ rfl
  case neg=>
   simp only[↓ah,aj,simprocAttr,bT,cw,c1,c2,aav,aaw]
   exact .val _ rfl
 case neg=>
  simp only[↓ah,aj,simprocAttr,bT,cw,c1,aav,aaw]
  exact .val _ rfl
theorem DD(m:AB):aR (cw m)=false:=by simp[cw,aR,aW,Sh.pure]
theorem dK(m:AB):(cw m).fits SM=true:=by simp[cw,D.fits]
theorem JQ(n:Nat)(m:AB):shift n (cw m)=cw m:=by simp[cw,shift,Sh.pure]
theorem Oq(rows:Rows)(k:D->Rows->Prop)(m:AB):aI vL rows k [cw m]=k (.raw (.bool (bT m))) rows:=by
 refine(a9 (by simp[aW,DD]) (r:=(.raw (.bool (bT m)),[])) ?_).trans ?_
 ·rw[vL,eK (br DC m) rfl]
 ·simp[shift,ab]
def pD:List (BitVec 8):=[67#8,85#8,82#8,84#8]
def bC(m:AB):List (BitVec 8):=pD++fx m.v.toNat++fx m.s.toNat++fx m.e.toNat++m.dg
noncomputable def tR:Fn:=mV (bx cw) (λm=>decide (m.dg.length=32)) λm=>bif bT m then(.cA [.sl L8 0 [] 0 48 false,.raw (it 0)],[some ⟨L8,bs (bC m)⟩])else(.cA [.raw (.slice none 0 0),.raw (it 1)],[])
def T9(m:AB):Nat->List (BitVec 8)
 |0=>pD
 |1=>pD++fx m.v.toNat
 |2=>pD++fx m.v.toNat++fx m.s.toNat
 | _=>pD++fx m.v.toNat++fx m.s.toNat++fx m.e.toNat
theorem yX{m:AB}(h:bT m=true):∃v s e:Nat,m.v=v/\m.s=s/\m.e=e/\v<=255/\s<=2048/\4<=s/\e<s/\s %4=0/\e %4=0:=by
 simp only[bT,aan,aat]at h
 obtain⟨⟨⟨⟨⟨⟨⟨h1,h2⟩,h3⟩,h4⟩,h5⟩,h6⟩,h7⟩,h8⟩:=h
 obtain⟨v,hv⟩:=aaD h1
 obtain⟨s,hs⟩:=aaD (by omega:0<=m.s)
 obtain⟨e,he⟩:=aaD h6
 rw[hs]at h5
 rw[he]at h8
 have h5':(s:Int).tmod 4=((s %4:Nat):Int):=rfl
 have h8':(e:Int).tmod 4=((e %4:Nat):Int):=rfl
 rw[h5']at h5
 rw[h8']at h8
 exact⟨v,s,e,hv,hs,he,by omega,by omega,by omega,by omega,by omega,by omega⟩
theorem body_ok(C:bf)(hC:aJ C P)(hr:C.fn 84=some vL):aN C.aX P 31 (Fn.run tR):=by
 refine aG (tJ C hC) λds rows r h=>?_
 obtain⟨d,m,rfl,rfl,hd,hp,rfl⟩:=a8 h
 cases aE hd
 simp only[aat]at hp
 refine⟨rfl,ag rfl ?_⟩
 clear h hd
 unfold mg mh
 cases hk:bT m
 ·simp only[↓ah,aj,simprocAttr,dK,hr,Oq,hk,aaM]
  exact .val _ rfl
 ·obtain⟨v,s,e,hv,hs,he,b1,b2,b3,b4,-,-⟩:=yX hk
  have e1:∀n:Nat,(n:Int).fdiv (2^(min 24 64))=((n/16777216:Nat):Int):=λn=>pC n 16777216
  have e2:∀n:Nat,(n:Int).fdiv (2^(min 16 64))=((n/65536:Nat):Int):=λn=>pC n 65536
  have e3:∀n:Nat,(n:Int).fdiv (2^(min 8 64))=((n/256:Nat):Int):=λn=>pC n 256
  have e4:∀m:Nat,BitVec.ofInt 8 (m:Int)=BitVec.ofNat 8 m:=λm=>rfl
  have hg:cw m= .agg SM [.raw (it (v:Int)),.raw (it (s:Int)),.raw (it (e:Int)),.agg (.ar 32 L8) (bs m.dg)]:=by rw[cw,hv,hs,he]
  have Ua:=dK m
  have hkm:=λrows k=>Oq rows k m
  rw[hk]at hkm
  rw[hg]at Ua hkm⊢
  simp only[↓ah,aj,simprocAttr,Ua,hr,hkm,aaU]
  refine bg 3 (λi env rows=>∃x,has env [(1,.ptr SM 0 [0]),(4,x),(18,.sl LI 2 [] 0 3 true),(19,.raw (it 3)),(20,.raw (it (i:Int)))]/\
   iT L8 x rows (bs (T9 m i))/\live rows 0=some ⟨SM,[.agg SM [.raw (it (v:Int)),.raw (it (s:Int)),.raw (it (e:Int)),.agg (.ar 32 L8) (bs m.dg)]]⟩/\live rows 2=some ⟨LI,[.raw (it (v:Int)),.raw (it (s:Int)),.raw (it (e:Int))]⟩) ?_ ?_ ⟨.sl L8 1 [] 0 4 true,?_,.inr ⟨1,true,rfl,rfl⟩,rfl,rfl⟩
  ·rintro i hi env rows ⟨x,hh,how,r0,r2⟩ R hR
   simp only[has]at hh
   have HY:i=0\/i=1\/i=2:=by omega
   have n0:=jI how r0 (by decide)
   have n2:=jI how r2 (by decide)
   rcases HY with rfl|rfl|rfl
   all_goals
    simp only[↓ah,aj,simprocAttr,aM,hh,r0,r2,Oo,e1,e2,e3,e4]
    refine iq how.push (by rw[aB];simp[T9,fx,pD,most]) (by rw[aB];simp[T9,fx,pD,most]) ?_
    intro x' r' how' Lm _ _
    simp only[↓ah,aj,simprocAttr,hh]
    refine hR _ _ ⟨x',?_,?_,Lm 0 _ (ae r0 _) (λex=>n0 ex _),Lm 2 _ (ae r2 _) (λex=>n2 ex _)⟩
    ·simp only[has,↓ah,aj,simprocAttr,hh]
    ·have tV:∀n l,bs l++[.raw (u8 (BitVec.ofNat 8 (n/16777216))),.raw (u8 (BitVec.ofNat 8 (n/65536))),.raw (u8 (BitVec.ofNat 8 (n/256))),.raw (u8 (BitVec.ofNat 8 n))]=bs (l++fx n):=λn l=>by rw[<-j3];rfl
     rw[tV]at how'
     simpa only[T9,hv,hs,he,aaB]using how'
  ·rintro env rows ⟨x,hh,how,r0,r2⟩ R
   simp only[has]at hh
   have e16:(bs m.dg).length=32:=by rw[aB,hp]
   have hE:Am.elems rows (.sl L8 0 [0,3] 0 32 true)=some (bs m.dg):=by
    simp only[Am.elems,r0]
    show some (List.take 32 ((bs m.dg).drop 0))=_
    rw[abi,aaq (by omega)]
   simp only[↓ah,aj,simprocAttr,aM,hh,r0,r2,hE,e16]
   have b16:(bs (T9 m 3)).length=16:=by rw[aB];simp[T9,fx,pD]
   refine iq how (by rw[e16,b16];decide) (by rw[e16,b16];decide) ?_
   intro x' r' how' _ _ _
   simp only[↓ah,aj,simprocAttr,hh,how'.pM]
   have hb:bs (T9 m 3)++bs m.dg=bs (bC m):=by rw[j3];rfl
   have hn:(bs (bC m)).length=48:=by rw[<-hb,aao,b16,e16]
   rw[hb]at how'
   rcases how' with⟨h1,-⟩|⟨r2,Kp,rfl,xf⟩
   ·rw[h1]at hn;simp at hn
   ·rw[hn]
    exact .KB L8 r2 0 48 Kp false ⟨L8,_⟩ [.raw (it 0)] xf rfl rfl (λh=>by cases h)
  ·simp only[has,↓ah,aj,simprocAttr]
theorem jX(m:AB)(h:m.dg.length=32):(bC m).length=48:=by simp[bC,pD,fx,h]
theorem JR(rows:Rows)(k:D->Rows->Prop)(m:AB)(h:m.dg.length=32)(hk:bT m=true):aI tR rows k [cw m]=k (.cA [.sl L8 (0+rows.length) [] 0 48 false,.raw (it 0)]) (rows++[some ⟨L8,bs (bC m)⟩]):=by
 refine(a9 (by simp[aW,DD]) (r:=(.cA [.sl L8 0 [] 0 48 false,.raw (it 0)],[some ⟨L8,bs (bC m)⟩])) ?_).trans ?_
 ·rw[tR,eK (br DC m) (by simp[h]),hk];rfl
 ·simp[shift,bB,ab,Sh.pure]
theorem kBodyN(rows:Rows)(k:D->Rows->Prop)(m:AB)(h:m.dg.length=32)(hk:bT m=false):aI tR rows k [cw m]=k (.cA [.raw (.slice none 0 0),.raw (it 1)]) rows:=by
 refine(a9 (by simp[aW,DD]) (r:=(.cA [.raw (.slice none 0 0),.raw (it 1)],[])) ?_).trans ?_
 ·rw[tR,eK (br DC m) (by simp[h]),hk];rfl
 ·simp[shift,bB,ab]
def dP:AB:=⟨0,0,0,qg⟩
def lY(p:List (BitVec 8)):AB:=⟨(cR (p.drop 4)).toNat,(cR (p.drop 8)).toNat,(cR (p.drop 12)).toNat,p.drop 16⟩
def cg(p:List (BitVec 8)):AB×Int:=
 bif decide (p.length=48)&&decide (p.take 4=pD)then
  (bif bT (lY p)then(lY p,0)else(dP,1))
 else(dP,2)
noncomputable def rY:Fn:=mV dB (λa=>Nat.ble a.length most) λp=>(.cA [cw (cg p).1,.raw (it (cg p).2)],[])
theorem Ub(rows:Rows)(k:D->Rows->Prop)(x:List (BitVec 8))(e:Bool)(h:4<=x.length):aI fNum rows k [.cI L8 (bs x) e]=k (.raw (it (((cR x).toNat:Nat):Int))) rows:=by
 refine(a9 rfl (eK (qV x e) (by simpa using h))).trans ?_
 simp[shift,ab]
theorem manD_mk(a b c:Int)(l:List (BitVec 8)):D.agg SM [.raw (it a),.raw (it b),.raw (it c),.agg (.ar 32 L8) (bs l)]=cw ⟨a,b,c,l⟩:=rfl
theorem pP:D.agg SM [.raw (it 0),.raw (it 0),.raw (it 0),.agg (.ar 32 L8) (List.replicate 32 (.raw (u8 0#8)))]=cw dP:=by rw[cw,dP,qg,bs_rep]
theorem parse_ok(C:bf)(hC:aJ C P)(h15:C.fn 84=some vL)(h17:C.fn 210=some fPre)(h18:C.fn 211=some fNum):aN C.aX P 201 (Fn.run rY):=by
 refine bU (EE C hC) λds rows r h=>?_
 obtain⟨d,p,rfl,rfl,hd,hp,rfl⟩:=a8 h
 obtain⟨x,hx⟩:=cb hd
 refine⟨rfl,_,.cons hx .nil,ag rfl ?_⟩
 simp only[abo]at hp
 unfold most at hp
 clear h hx hd
 unfold uC uE
 have hz:=pP
 have hfz:=dK dP
 have hT:[D.raw (u8 67#8),D.raw (u8 85#8),D.raw (u8 82#8),D.raw (u8 84#8)]=bs pD:=rfl
 by_cases hl:p.length=48
 ·have hq:cg p=if p.take 4=pD then(if bT (lY p)then(lY p,0)else(dP,1))else(dP,2):=by
   simp only[cg,hl,aav,abA]
   by_cases h1:p.take 4=pD<;>cases h2:bT (lY p)<;>simp[h1]
  have h4:(4:Nat)<=pD.length:=by decide
  simp only[↓ah,aj,simprocAttr,aB,hl,h17,hT,hz,hfz]
  refine⟨h4,Eq.mpr (kPre _ _ _ _ p pD (ez.to (.inr ⟨x,rfl⟩)) (iT.to (.inr ⟨1,true,rfl,rfl⟩)) (by omega) (by decide)) ?_⟩
  have t4:pD.length=4:=rfl
  have xf:((4:Nat)<=p.length)=True:=aas (by omega)
  have d4:4<=(p.drop 4).length:=by rw[aar];omega
  have d8:4<=(p.drop 8).length:=by rw[aar];omega
  have d12:4<=(p.drop 12).length:=by rw[aar];omega
  have tk4:(bs (p.drop 4)).take 44=bs (p.drop 4):=aaq (by rw[aB,aar];omega)
  have tk8:(bs (p.drop 8)).take 40=bs (p.drop 8):=aaq (by rw[aB,aar];omega)
  have tk12:(bs (p.drop 12)).take 36=bs (p.drop 12):=aaq (by rw[aB,aar];omega)
  have tk16:(bs (p.drop 16)).take 32=bs (p.drop 16):=aaq (by rw[aB,aar];omega)
  simp only[t4,xf,aav,abA]
  by_cases ht:p.take 4=pD
  ·have hmo:∀l,D.agg SM [.raw (it ((cR (p.drop 4)).toNat:Int)),.raw (it ((cR (p.drop 8)).toNat:Int)),.raw (it ((cR (p.drop 12)).toNat:Int)),.agg (.ar 32 L8) (bs l)]=cw ⟨(cR (p.drop 4)).toNat,(cR (p.drop 8)).toNat,(cR (p.drop 12)).toNat,l⟩:=λl=>rfl
   have hmf:cw ⟨(cR (p.drop 4)).toNat,(cR (p.drop 8)).toNat,(cR (p.drop 12)).toNat,p.drop 16⟩=cw (lY p):=rfl
   have Ua:=dK (lY p)
   simp only[hq,ht,abX,aav]
   simp only[↓ah,aj,simprocAttr,aB,hl,h18,eP,tk4,tk8,tk12,tk16,Ub _ _ _ _ d4,Ub _ _ _ _ d8,Ub _ _ _ _ d12,aar,hmo,hmf,Ua,h15,Oq]
   cases hk:bT (lY p)
   ·simp only[↓ah,aj,simprocAttr,hz,hfz]
    exact .val _ rfl
   ·simp only[↓ah,aj,simprocAttr,Ua]
    exact .val _ rfl
  ·simp only[hq,ht,abW,aaw]
   simp only[↓ah,aj,simprocAttr,hz,hfz]
   exact .val _ rfl
 ·have sO:((p.length:Int)=48)=False:=aax (by omega)
  have hq:cg p=(dP,2):=by simp[cg,hl]
  rw[hq]
  simp only[↓ah,aj,simprocAttr,aB,sO,hz,hfz]
  exact .val _ rfl
theorem QX(C:bf)(hC:aJ C P)(h15:C.fn 136=some vL)(Vv:C.fn 75=some vB):aN C.aX P 74 (Fn.run rY):=by
 refine bU (KL C hC) λds rows r h=>?_
 obtain⟨d,p,rfl,rfl,hd,hp,rfl⟩:=a8 h
 obtain⟨x,hx⟩:=cb hd
 refine⟨rfl,_,.cons hx .nil,ag rfl ?_⟩
 simp only[abo]at hp
 unfold most at hp
 clear h hx hd
 unfold zP zQ
 have hz:=pP
 have hfz:=dK dP
 by_cases hl:p.length=48
 ·have hq:cg p=if p.take 4=pD then(if bT (lY p)then(lY p,0)else(dP,1))else(dP,2):=by
   simp only[cg,hl,aav,abA]
   by_cases h1:p.take 4=pD<;>cases h2:bT (lY p)<;>simp[h1]
  have d4:((p.drop 4).take 4).length<=64:=by rw[aau];omega
  have d8:((p.drop 8).take 4).length<=64:=by rw[aau];omega
  have d12:((p.drop 12).take 4).length<=64:=by rw[aau];omega
  have tk16:(bs (p.drop 16)).take 32=bs (p.drop 16):=aaq (by rw[aB,aar];omega)
  have hsh:∀l e,fa L8 (.cI L8 (bs l) e)=true:=λl e=>ez.fa (.inr ⟨e,rfl⟩)
  have hst:(⟨(ub (p.take 4)).toArray⟩:ByteArray).toList=ub (p.take 4):=by rw[ByteArray.toList_eq]
  have Nb:(⟨#[67,85,82,84]⟩:ByteArray).toList=ub pD:=by rw[ByteArray.toList_eq];rfl
  simp only[↓ah,aj,simprocAttr,aB,hl,dO,eP,hsh,GZ,hst,Nb,TA,Vv,hz,hfz]
  by_cases ht:p.take 4=pD
  ·obtain⟨-,v1⟩:=val_q (p.drop 4) (by rw[aar];omega)
   obtain⟨-,v2⟩:=val_q (p.drop 8) (by rw[aar];omega)
   obtain⟨-,v3⟩:=val_q (p.drop 12) (by rw[aar];omega)
   have hmo:∀l,D.agg SM [.raw (it ((cR (p.drop 4)).toNat:Int)),.raw (it ((cR (p.drop 8)).toNat:Int)),.raw (it ((cR (p.drop 12)).toNat:Int)),.agg (.ar 32 L8) (bs l)]=cw ⟨(cR (p.drop 4)).toNat,(cR (p.drop 8)).toNat,(cR (p.drop 12)).toNat,l⟩:=λl=>rfl
   have hmf:cw ⟨(cR (p.drop 4)).toNat,(cR (p.drop 8)).toNat,(cR (p.drop 12)).toNat,p.drop 16⟩=cw (lY p):=rfl
   have Ua:=dK (lY p)
   simp only[hq,ht,abX,aav]
   simp only[↓ah,aj,simprocAttr,aB,hl,Vv,eP,dO,tk16,kVal _ _ _ _ d4,kVal _ _ _ _ d8,kVal _ _ _ _ d12,aar,v1,v2,v3,hmo,hmf,Ua,h15,Oq]
   cases hk:bT (lY p)
   ·simp only[↓ah,aj,simprocAttr,hz,hfz]
    exact .val _ rfl
   ·simp only[↓ah,aj,simprocAttr,Ua]
    exact .val _ rfl
  ·simp only[hq,ht,abW,aaw]
   simp only[↓ah,aj,simprocAttr,hz,hfz]
   exact .val _ rfl
 ·have sO:((p.length:Int)=48)=False:=aax (by omega)
  have hq:cg p=(dP,2):=by simp[cg,hl]
  rw[hq]
  simp only[↓ah,aj,simprocAttr,aB,sO,hz,hfz]
  exact .val _ rfl
theorem kParse(rows:Rows)(k:D->Rows->Prop)(d:D)(p:List (BitVec 8))(h:aU rows d p)(hp:p.length<=1099511627776):aI rY rows k [d]=k (.cA [cw (cg p).1,.raw (it (cg p).2)]) rows:=by
 refine(qB h (by simpa[most]using hp) ?_).trans ?_
 ·simp[cw,cj,jG,be,Sh.pure]
 ·simp[shift,bB,JQ,ab]
def ofS(v e:Int)(p:List (BitVec 8)):AB:=⟨v,p.length,e,cM p⟩
noncomputable def fOf:Fn:=GY tH tH dB (λ_ _ p=>Nat.ble p.length 1099511627000) λv e p=>(cw (ofS v e p),[])
theorem of_ok(C:bf)(hC:aJ C P)(hs:C.fn 95=some Di):aN C.aX P 52 (Fn.run fOf):=by
 refine bU (KG C hC) λds rows r h=>?_
 obtain⟨d,e,f,v,en,p,rfl,rfl,hd,he,hf,hp,rfl⟩:=fp h
 cases bK hd
 cases bK he
 obtain⟨x,hx⟩:=cb hf
 refine⟨rfl,_,.cons (.refl _) (.cons (.refl _) (.cons hx .nil)),ag rfl ?_⟩
 simp only[abo]at hp
 clear h hd he hf hx
 unfold zG zH
 have ks:=λk=>N0 [some ⟨SM,[cw dP]⟩,some ⟨.ref,[.cI L8 (bs p) x]⟩] k 1 1 true [.cI L8 (bs p) x] [p] rfl rfl (.cons (ez.to (.inr ⟨x,rfl⟩)) .nil) (by simp) (by simp;omega)
 simp only[abl,abn,aaL]at ks
 have hz:=pP
 have hfz:=dK dP
 have hmo:=manD_mk
 have Ua:=dK (ofS v en p)
 have hmf:cw ⟨v,p.length,en,cM p⟩=cw (ofS v en p):=rfl
 simp only[-List.reduceReplicate,pP]
 simp only[↓ah,aj,simprocAttr,aB,hz,hfz,hs,ks,hmo,hmf,Ua]
 exact .val _ (DD _)
theorem kOf(rows:Rows)(k:D->Rows->Prop)(v e:Int)(d:D)(p:List (BitVec 8))(h:aU rows d p)(hp:p.length<=1099511627000):aI fOf rows k [.raw (it v),.raw (it e),d]=k (cw (ofS v e p)) rows:=by
 refine(fH (.int v) (.int e) (.bs h) (by simpa using hp) ?_ k).trans ?_
 ·simp[cw,cj,jG,be,Sh.pure]
 ·simp[JQ,ab]
theorem JT(n:Nat)(h:n<4294967296)(l:List (BitVec 8)):(cR (fx n++l)).toNat=n:=by
 have e:cR (fx n++l)=cR [BitVec.ofNat 8 (n/16777216),BitVec.ofNat 8 (n/65536),BitVec.ofNat 8 (n/256),BitVec.ofNat 8 n]:=rfl
 rw[e,yb]
 simp only[aaK]
 omega
theorem Uc(m:AB)(hl:m.dg.length=32)(hk:bT m=true):cg (bC m)=(m,0):=by
 obtain⟨v,s,e,hv,hs,he,b1,b2,b3,b4,-,-⟩:=yX hk
 have d4:(bC m).drop 4=fx m.v.toNat++(fx m.s.toNat++(fx m.e.toNat++m.dg)):=by
  simp only[bC,aaC];rfl
 have d8:(bC m).drop 8=fx m.s.toNat++(fx m.e.toNat++m.dg):=by
  simp only[bC,aaC];rfl
 have d12:(bC m).drop 12=fx m.e.toNat++m.dg:=by
  simp only[bC,aaC];rfl
 have d16:(bC m).drop 16=m.dg:=by
  simp only[bC,aaC];rfl
 have t4:(bC m).take 4=pD:=by
  simp only[bC,aaC];rfl
 have hm:lY (bC m)=m:=by
  obtain⟨v',s',e',dg⟩:=m
  simp only at hv hs he
  subst hv hs he
  simp only[lY,d4,d8,d12,d16,aaB]
  rw[JT v (by omega),JT s (by omega),JT e (by omega)]
 simp only[cg,jX m hl,t4,hm,hk,aav,ach,aaU]
theorem parse_dg(p:List (BitVec 8)):(cg p).1.dg.length=32:=by
 unfold cg
 cases h1:decide (p.length=48)<;>cases h2:decide (p.take 4=pD)<;>simp only[ach,adD,acK,abQ,aaM,aaU]<;>try rfl
 cases bT (lY p)<;>simp only[aaM,aaU]
 ·rfl
 ·have:=ac1 h1
  simp only[lY,aar];omega
end jU
end Go.Am

namespace Go.Am
attribute [local congr] dq bW dt bX bY cB bI bZ b5 cC bu cD b6 dj
namespace jU
open Go.Am.F
theorem b_shlI(a:Nat)(h:a<256)(k:D->Prop):cF .shl (it (a:Int)) (u64 8#64) k=k (.raw (it ((a*256:Nat):Int))):=by
 have e:wz ((a:Int)*2^8)=((a*256:Nat):Int):=by rw[aZ (by omega)];omega
 show(0<=(8:Int)/\k (.raw (.int .i64 (IntKind.i64.wrap ((a:Int)*2^(min 8 64))))))=_
 rw[show IntKind.i64.wrap ((a:Int)*2^(min 8 64))=wz ((a:Int)*2^8)from rfl,e]
 simp[it]
theorem b_orI(a b:Nat)(ha:a<256)(hb:b<256)(k:D->Prop):cF .or (it ((a*256:Nat):Int)) (it (b:Int)) k=k (.raw (it ((a*256+b:Nat):Int))):=by
 have e1:(BitVec.ofInt 64 ((a*256:Nat):Int)|||BitVec.ofInt 64 (b:Int)).toNat=a*256+b:=by
  have x1:BitVec.ofInt 64 ((a*256:Nat):Int)=BitVec.ofNat 64 (a*256):=rfl
  have x2:BitVec.ofInt 64 (b:Int)=BitVec.ofNat 64 b:=rfl
  rw[x1,x2,adE,aaK,aaK,aby (by omega),aby (by omega)]
  have:=NR a b 8 (by omega)
  rw[acw]at this
  exact this
 show(IntKind.i64=IntKind.i64/\k (.raw (.int .i64 (IntKind.i64.wrap (((BitVec.ofInt 64 ((a*256:Nat):Int)|||BitVec.ofInt 64 (b:Int)).toNat:Nat):Int)))))=_
 rw[e1,show IntKind.i64.wrap ((a*256+b:Nat):Int)=wz ((a*256+b:Nat):Int)from rfl,aZ (by omega)]
 simp[it]
def n2I(n:Nat):List (BitVec 8):=[BitVec.ofNat 8 (n/256),BitVec.ofNat 8 n]
def kj(m:AB)(sig p:List (BitVec 8)):List (BitVec 8):=bC m++(n2I sig.length++(sig++p))
def qi(m:AB)(sig p:List (BitVec 8)):Bool:=bT m&&(decide ((p.length:Int)=m.s)&&decide (sig.length<=65535))
noncomputable def Ot:Fn:=GY (bx cw) dB dB (λm sig p=>decide (m.dg.length=32)&&(Nat.ble sig.length 1099511627&&Nat.ble p.length 1099511627)) λm sig p=>
 bif qi m sig p then(.cA [.sl L8 0 [] 0 (kj m sig p).length false,.raw (it 0)],[some ⟨L8,bs (kj m sig p)⟩])else(.cA [.raw (.slice none 0 0),.raw (it 1)],[])
theorem kBJoin(rows:Rows)(k:D->Rows->Prop)(r n:Nat)(ex:Bool)(l:List D)(ls:List (List (BitVec 8)))(hl:live rows r=some ⟨.ref,l⟩)(hn:l.length=n)
  (hv:bd (λx y=>aU rows x y) l ls)(hp:ls.length<=1099511627776)(sq:ls.flatten.length<=1099511627776):aI EL rows k [.sl .ref r [] 0 n ex,.raw (.slice none 0 0)]=k (.sl L8 (0+rows.length) [] 0 ls.flatten.length false) (rows++[some ⟨L8,bs ls.flatten⟩]):=by
 refine(gf (.parts hl hn hv) (.raw (a:=()) rfl) (by simp only[aan,abo];exact⟨hp,sq⟩) (by simp[dF,cj,be,Sh.pure]) k).trans ?_
 simp[dF,shift,ab,Sh.pure]
theorem image_ok(C:bf)(hC:aJ C P)(h7:C.fn 31=some tR)(hj:C.fn 114=some EL):aN C.aX P 55 (Fn.run Ot):=by
 refine bU (Es C hC) λds rows r h=>?_
 obtain⟨d,e,f,m,sig,p,rfl,rfl,hd,he,hf,hp,rfl⟩:=fp h
 cases aE hd
 obtain⟨x,hx⟩:=cb he
 obtain⟨y,hy⟩:=cb hf
 refine⟨rfl,_,.cons (.refl _) (.cons hx (.cons hy .nil)),ag rfl ?_⟩
 simp only[aan,aat,abo]at hp
 obtain⟨hm,hs,tV⟩:=hp
 clear h hd he hf hx hy
 unfold uy uz
 have Ua:=dK m
 have gs:(cw m).get [1]=some (.raw (it m.s)):=rfl
 cases hk:bT m
 ·have kb:=λrows k=>kBodyN rows k m hm hk
  have hi:qi m sig p=false:=by simp[qi,hk]
  simp only[↓ah,aj,simprocAttr,Ua,h7,kb,hi,aaM]
  exact .val _ rfl
 ·have kb:=λrows k=>JR rows k m hm hk
  by_cases c1:(p.length:Int)=m.s
  ·by_cases c2:sig.length<=65535
   ·have hi:qi m sig p=true:=by simp[qi,hk,c1,c2]
    have c2':(65535<(sig.length:Int))=False:=aax (by omega)
    have e8:((sig.length:Int).fdiv (2^(min 8 64)))=((sig.length/256:Nat):Int):=pC sig.length 256
    have e4:∀m:Nat,BitVec.ofInt 8 (m:Int)=BitVec.ofNat 8 m:=λm=>rfl
    have b48:=jX m hm
    simp only[↓ah,aj,simprocAttr,Ua,h7,kb,hi,aaU,aB,gs,c1,c2',Oo,e8,e4,hj]
    refine Eq.mpr (kBJoin _ _ _ 4 _ _ [bC m,n2I sig.length,sig,p] rfl rfl (.cons (aU.own rfl 48 b48.symm) (.cons (aU.own (l:=n2I sig.length) rfl 2 rfl) (.cons (ez.to (.inr ⟨x,rfl⟩)) (.cons (ez.to (.inr ⟨y,rfl⟩)) .nil)))) (by simp) (by simp[b48,n2I];omega)) ?_
    have my:[bC m,n2I sig.length,sig,p].flatten=kj m sig p:=by simp[kj]
    rw[my]
    simp only[↓ah,aj,simprocAttr]
    exact .KB L8 _ 0 _ false false _ [.raw (it 0)] rfl rfl rfl (λh=>by cases h)
   ·have hi:qi m sig p=false:=by simp[qi,c2]
    have c2':(65535<(sig.length:Int))=True:=aas (by omega)
    simp only[↓ah,aj,simprocAttr,Ua,h7,kb,hi,aaM,aB,gs,c1,c2']
    exact .val _ rfl
  ·have hi:qi m sig p=false:=by simp[qi,c1]
   simp only[↓ah,aj,simprocAttr,Ua,h7,kb,hi,aaM,aB,gs,c1]
   exact .val _ rfl
theorem kImage(rows:Rows)(k:D->Rows->Prop)(m:AB)(d e:D)(sig p:List (BitVec 8))(hm:m.dg.length=32)(h:aU rows d sig)(h':aU rows e p)(hs:sig.length<=1099511627)(hp:p.length<=1099511627)(hi:qi m sig p=true):
  aI Ot rows k [cw m,d,e]=k (.cA [.sl L8 (0+rows.length) [] 0 (kj m sig p).length false,.raw (it 0)]) (rows++[some ⟨L8,bs (kj m sig p)⟩]):=by
 refine(fH (.agg rfl (br DC m)) (.bs h) (.bs h') (by simp[hm,hs,hp]) ?_ k).trans ?_
 ·rw[hi];simp[cj,jG,be,Sh.pure]
 ·rw[hi];simp[shift,bB,ab,Sh.pure]
def dz(q:List (BitVec 8)):Nat:=(q.getD 48 0#8).toNat*256+(q.getD 49 0#8).toNat
def cE(q:List (BitVec 8)):AB×List (BitVec 8)×List (BitVec 8)×Int:=
 bif decide (q.length<50)then(dP,[],[],2)else
 bif decide ((cg (q.take 48)).2≠0)then(dP,[],[],(cg (q.take 48)).2)else
 bif decide ((q.length:Int)<50+dz q+(cg (q.take 48)).1.s)then(dP,[],[],2)else
 ((cg (q.take 48)).1,(q.drop 50).take (dz q),(q.drop (50+dz q)).take (cg (q.take 48)).1.s.toNat,0)
theorem Wi(p:List (BitVec 8))(h:(cg p).2=0):∃s:Nat,(cg p).1.s=(s:Int)/\s<=2048:=by
 unfold cg at h⊢
 cases h1:decide (p.length=48)<;>cases h2:decide (p.take 4=pD)<;>rw[h1,h2]at h<;>simp only[ach,adD,acK,abQ,aaM,aaU]at h⊢<;>try (exact absurd h (by decide))
 cases h3:bT (lY p)<;>rw[h3]at h<;>simp only[aaM,aaU]at h⊢
 ·exact absurd h (by decide)
 ·obtain⟨v,s,e,hv,hs,he,b1,b2,b3,b4,-,-⟩:=yX h3
  exact⟨s,hs,b2⟩
theorem Wj{rows:Rows}{r n:Nat}{ex:Bool}{l:List (BitVec 8)}(h:live rows r=some ⟨L8,bs l⟩)(hn:n=l.length):iT L8 (.sl L8 r [] 0 n ex) rows (bs l):=by
 subst hn
 exact .inr ⟨r,ex,by rw[aB],h⟩
def Read1(rows aa:Rows)(q:List (BitVec 8))(d:D):Prop:=∃L d1 d2,aa=rows++L/\d= .cA [cw (cE q).1,d1,d2,.raw (it (cE q).2.2.2)]/\iT L8 d1 aa (bs (cE q).2.1)/\iT L8 d2 aa (bs (cE q).2.2.1)
theorem read_run(C:bf){rows:Rows}{r n:Nat}{ex:Bool}{q:List (BitVec 8)}(hl:live rows r=some ⟨L8,bs q⟩)(hn:n=q.length)(hq:q.length<=1099511627){K:D->Rows->Prop}
  (h13:C.fn 201=some rY)(h30:C.fn 73=some tM)
  (h:∀d aa,Read1 rows aa q d->K d aa):aQ C 1 ii ig [.sl L8 r [] 0 n ex] rows K:=by
 subst hn
 refine ag rfl ?_
 unfold ig ii
 simp only[-List.reduceReplicate,pP]
 have hfz:=dK dP
 have hf:=dK
 by_cases c1:q.length<50
 ·have K4:((q.length:Int)<50)=True:=aas (by omega)
  have hr:cE q=(dP,[],[],2):=by unfold cE;rw[aaY c1];rfl
  have fin:∀L,K (.cA [cw dP,.raw (.slice none 0 0),.raw (.slice none 0 0),.raw (it 2)]) (rows++L):=λL=>h _ _ ⟨L,_,_,rfl,by rw[hr],by rw[hr];exact .inl ⟨rfl,rfl⟩,by rw[hr];exact .inl ⟨rfl,rfl⟩⟩
  simp only[↓ah,aj,simprocAttr,aM,K4,hf]
  exact fin _
 ·have K4:((q.length:Int)<50)=False:=aax (by omega)
  have c48:(48:Int)<=(q.length:Int):=by omega
  have b48:∀L e,aU (rows++L) (.sl L8 r [] 0 48 e) (q.take 48):=λL e=>by
   have:=aU.sub (off:=0) (len:=48) (ex:=e) (ae hl L) (by omega)
   rwa [abi]at this
  have kp:=λL e k=>kParse (rows++L) k (.sl L8 r [] 0 48 e) (q.take 48) (b48 L e) (by rw[aau];omega)
  simp only[↓ah,aj,simprocAttr,aM,K4,c48,hf,h13,kp]
  by_cases c2:(cg (q.take 48)).2=0
  ·obtain⟨s,hs,sy⟩:=Wi _ c2
   have gs:(cw (cg (q.take 48)).1).get [1]=some (.raw (it (s:Int))):=by rw[<-hs];rfl
   have g48:=j4 (l:=q) (i:=48) (by omega)
   have g49:=j4 (l:=q) (i:=49) (by omega)
   have i48:((48:Int)<(q.length:Int))=True:=aas (by omega)
   have i49:((49:Int)<(q.length:Int))=True:=aas (by omega)
   have t48:(q.getD 48 0#8).toNat<256:=(q.getD 48 0#8).isLt
   have t49:(q.getD 49 0#8).toNat<256:=(q.getD 49 0#8).isLt
   have sh8:=λk=>b_shlI _ t48 k
   have or8:=λk=>b_orI _ _ t48 t49 k
   have sgn:(q.getD 48 0#8).toNat*256+(q.getD 49 0#8).toNat=dz q:=rfl
   have sgb:dz q<65536:=by unfold dz;omega
   have w1:wz ((dz q:Int)+(s:Int))=((dz q+s:Nat):Int):=by rw[aZ (by omega)];omega
   have hlA:=λL=>ae hl L
   have c50:(50:Int)<=(q.length:Int):=by omega
   simp only[↓ah,aj,simprocAttr,aM,c2,hf,hlA,g48,g49,i48,i49,sh8,or8,sgn,gs,w1,c50]
   by_cases c3:(q.length:Int)<50+(dz q:Int)+(s:Int)
   ·have hr:cE q=(dP,[],[],2):=by
     unfold cE
     rw[aaJ c1,c2,hs,aaY c3]
     rfl
    have fin:∀L,K (.cA [cw dP,.raw (.slice none 0 0),.raw (.slice none 0 0),.raw (it 2)]) (rows++L):=λL=>h _ _ ⟨L,_,_,rfl,by rw[hr],by rw[hr];exact .inl ⟨rfl,rfl⟩,by rw[hr];exact .inl ⟨rfl,rfl⟩⟩
    have Ou:(((q.length-50:Nat):Int)<((dz q+s:Nat):Int))=True:=aas (by omega)
    simp only[↓ah,aj,simprocAttr,aM,Ou,hf]
    exact fin _
   ·have hr:cE q=((cg (q.take 48)).1,(q.drop 50).take (dz q),(q.drop (50+dz q)).take s,0):=by
     unfold cE
     rw[aaJ c1,c2,hs,aaJ c3]
     rfl
    have fin:∀L d1 d2,iT L8 d1 (rows++L) (bs ((q.drop 50).take (dz q)))->iT L8 d2 (rows++L) (bs ((q.drop (50+dz q)).take s))->K (.cA [cw (cg (q.take 48)).1,d1,d2,.raw (it 0)]) (rows++L):=λL d1 d2 k1 k2=>h _ _ ⟨L,_,_,rfl,by rw[hr],by rw[hr];exact k1,by rw[hr];exact k2⟩
    have Ou:(((q.length-50:Nat):Int)<((dz q+s:Nat):Int))=False:=aax (by omega)
    have d0:(0:Int)<=(dz q:Int):=by omega
    have d1:(dz q:Int)<=((q.length-50:Nat):Int):=by omega
    have d2:(dz q:Int)<=((dz q+s:Nat):Int):=by omega
    have d3:((dz q+s:Nat):Int)<=((q.length-50:Nat):Int):=by omega
    have d4:dz q+s-dz q=s:=by omega
    have l1:((q.drop 50).take (dz q)).length=dz q:=by rw[aau,aar];omega
    have l2:((q.drop (50+dz q)).take s).length=s:=by rw[aau,aar];omega
    have kc1:=λL e k=>Ji (rows++L) k (.sl L8 r [] 50 (dz q) e) ((q.drop 50).take (dz q)) (aU.sub (ae hl L) (by omega)) (by omega)
    have kc2:=λL e k=>Ji (rows++L) k (.sl L8 r [] (50+dz q) s e) ((q.drop (50+dz q)).take s) (aU.sub (ae hl L) (by omega)) (by omega)
    rw[l1]at kc1
    rw[l2]at kc2
    simp only[↓ah,aj,simprocAttr,aM,Ou,hf,d0,d1,acB,h30,kc1]
    simp only[↓ah,aj,simprocAttr,aM,hf,gs,w1,d0,d1,d2,d3,d4,h30,kc2]
    refine fin _ _ _ ?_ ?_
    ·exact Wj (by rw[aK];rfl) l1.symm
    ·exact Wj (by rw[aK];rfl) l2.symm
  ·have hr:cE q=(dP,[],[],(cg (q.take 48)).2):=by
    unfold cE
    rw[aaJ c1,aaY c2]
    rfl
   have fin:∀L,K (.cA [cw dP,.raw (.slice none 0 0),.raw (.slice none 0 0),.raw (it (cg (q.take 48)).2)]) (rows++L):=λL=>h _ _ ⟨L,_,_,rfl,by rw[hr],by rw[hr];exact .inl ⟨rfl,rfl⟩,by rw[hr];exact .inl ⟨rfl,rfl⟩⟩
   simp only[↓ah,aj,simprocAttr,aM,c2,hf]
   exact fin _
theorem kValI(rows:Rows)(k:D->Rows->Prop)(d:D)(x:List (BitVec 8))(h:aU rows d x)(hx:x.length<=64):aI vB rows k [d]=k (.raw (u64 (EF x))) rows:=by
 refine(cO (.bs h) (by simp[most];omega) rfl k).trans ?_
 simp[shift,ab,EF]
theorem val2(q:List (BitVec 8))(h:50<=q.length):wz (((EF ((q.drop 48).take 2)).toNat:Nat):Int)=(dz q:Int):=by
 have e:(q.drop 48).take 2=[q.getD 48 0#8,q.getD 49 0#8]:=by
  apply acH
  ·simp only[aau,aar,aaP,aaT];omega
  ·intro i h1 h2
   simp only[aaP,aaT]at h2
   have:i=0\/i=1:=by omega
   rcases this with rfl|rfl
   ·rw[List.getElem_take,aeo];simp[aaH];rw[aap (by omega)];rfl
   ·rw[List.getElem_take,aeo];simp[aaH];rw[aap (by omega)];rfl
 rw[e]
 have t48:(q.getD 48 0#8).toNat<256:=(q.getD 48 0#8).isLt
 have t49:(q.getD 49 0#8).toNat<256:=(q.getD 49 0#8).isLt
 have v:(EF [q.getD 48 0#8,q.getD 49 0#8]).toNat=dz q:=by
  have:EF [q.getD 48 0#8,q.getD 49 0#8]=256#64*(256#64*0#64+(q.getD 48 0#8).setWidth 64)+(q.getD 49 0#8).setWidth 64:=rfl
  rw[this]
  simp only[ab4,adu,aaK,aa9]
  unfold dz
  omega
 rw[v,aZ (by unfold dz;omega)]
theorem YA(C:bf){rows:Rows}{r n:Nat}{ex:Bool}{q:List (BitVec 8)}(hl:live rows r=some ⟨L8,bs q⟩)(hn:n=q.length)(hq:q.length<=1099511627){K:D->Rows->Prop}
  (h14:C.fn 74=some rY)(h26:C.fn 75=some vB)(h6:C.fn 17=some GJ)
  (h:∀d aa,Read1 rows aa q d->K d aa):aQ C 1 lP lO [.sl L8 r [] 0 n ex] rows K:=by
 subst hn
 refine ag rfl ?_
 unfold lO lP
 simp only[-List.reduceReplicate,pP]
 have hfz:=dK dP
 have hf:=dK
 by_cases c1:q.length<50
 ·have K4:((q.length:Int)<50)=True:=aas (by omega)
  have hr:cE q=(dP,[],[],2):=by unfold cE;rw[aaY c1];rfl
  have fin:∀L,K (.cA [cw dP,.raw (.slice none 0 0),.raw (.slice none 0 0),.raw (it 2)]) (rows++L):=λL=>h _ _ ⟨L,_,_,rfl,by rw[hr],by rw[hr];exact .inl ⟨rfl,rfl⟩,by rw[hr];exact .inl ⟨rfl,rfl⟩⟩
  simp only[↓ah,aj,simprocAttr,aM,K4,hf]
  exact fin _
 ·have K4:((q.length:Int)<50)=False:=aax (by omega)
  have c48:(48:Int)<=(q.length:Int):=by omega
  have b48:∀L e,aU (rows++L) (.sl L8 r [] 0 48 e) (q.take 48):=λL e=>by
   have:=aU.sub (off:=0) (len:=48) (ex:=e) (ae hl L) (by omega)
   rwa [abi]at this
  have kp:=λL e k=>kParse (rows++L) k (.sl L8 r [] 0 48 e) (q.take 48) (b48 L e) (by rw[aau];omega)
  simp only[↓ah,aj,simprocAttr,aM,K4,c48,hf,h14,kp]
  by_cases c2:(cg (q.take 48)).2=0
  ·obtain⟨s,hs,sy⟩:=Wi _ c2
   have gs:(cw (cg (q.take 48)).1).get [1]=some (.raw (it (s:Int))):=by rw[<-hs];rfl
   have g48:=j4 (l:=q) (i:=48) (by omega)
   have g49:=j4 (l:=q) (i:=49) (by omega)
   have i48:((48:Int)<(q.length:Int))=True:=aas (by omega)
   have i49:((49:Int)<(q.length:Int))=True:=aas (by omega)
   have t48:(q.getD 48 0#8).toNat<256:=(q.getD 48 0#8).isLt
   have t49:(q.getD 49 0#8).toNat<256:=(q.getD 49 0#8).isLt
   have sgb:dz q<65536:=by unfold dz;omega
   have v2:=val2 q (by omega)
   have w0:wz (50+(dz q:Int))=((50+dz q:Nat):Int):=by rw[aZ (by omega)];omega
   have w1:wz (((50+dz q:Nat):Int)+(s:Int))=((50+(dz q+s):Nat):Int):=by rw[aZ (by omega)];omega
   have c50:(50:Int)<=(q.length:Int):=by omega
   have kv:=λL e k=>kValI (rows++L) k (.sl L8 r [] 48 2 e) ((q.drop 48).take 2) (aU.sub (ae hl L) (by omega)) (by rw[aau];omega)
   simp only[↓ah,aj,simprocAttr,aM,c2,hf,c50,h26,kv,v2,gs,w0,w1]
   by_cases c3:(q.length:Int)<50+(dz q:Int)+(s:Int)
   ·have hr:cE q=(dP,[],[],2):=by
     unfold cE
     rw[aaJ c1,c2,hs,aaY c3]
     rfl
    have fin:∀L,K (.cA [cw dP,.raw (.slice none 0 0),.raw (.slice none 0 0),.raw (it 2)]) (rows++L):=λL=>h _ _ ⟨L,_,_,rfl,by rw[hr],by rw[hr];exact .inl ⟨rfl,rfl⟩,by rw[hr];exact .inl ⟨rfl,rfl⟩⟩
    have Ou:((q.length:Int)<((50+(dz q+s):Nat):Int))=True:=aas (by omega)
    simp only[↓ah,aj,simprocAttr,aM,Ou,hf]
    exact fin _
   ·have hr:cE q=((cg (q.take 48)).1,(q.drop 50).take (dz q),(q.drop (50+dz q)).take s,0):=by
     unfold cE
     rw[aaJ c1,c2,hs,aaJ c3]
     rfl
    have fin:∀L d1 d2,iT L8 d1 (rows++L) (bs ((q.drop 50).take (dz q)))->iT L8 d2 (rows++L) (bs ((q.drop (50+dz q)).take s))->K (.cA [cw (cg (q.take 48)).1,d1,d2,.raw (it 0)]) (rows++L):=λL d1 d2 k1 k2=>h _ _ ⟨L,_,_,rfl,by rw[hr],by rw[hr];exact k1,by rw[hr];exact k2⟩
    have Ou:((q.length:Int)<((50+(dz q+s):Nat):Int))=False:=aax (by omega)
    have d0:(0:Int)<=((50+dz q:Nat):Int):=by omega
    have d1:((50+dz q:Nat):Int)<=(q.length:Int):=by omega
    have l1:((q.drop 50).take (dz q)).length=dz q:=by rw[aau,aar];omega
    have l2:((q.drop (50+dz q)).take s).length=s:=by rw[aau,aar];omega
    have kc1:=λL e k=>kCutI (rows++L) k (.sl L8 r [] 50 (q.length-50) e) (q.drop 50) (dz q) (by
     have:=aU.sub (off:=50) (len:=q.length-50) (ex:=e) (ae hl L) (by omega)
     rwa [aaq (by rw[aar];omega)]at this) (by rw[aar];omega) (by rw[aau,aar];omega)
    have kc2:=λL e k=>kCutI (rows++L) k (.sl L8 r [] (50+dz q) (q.length-(50+dz q)) e) (q.drop (50+dz q)) s (by
     have:=aU.sub (off:=50+dz q) (len:=q.length-(50+dz q)) (ex:=e) (ae hl L) (by omega)
     rwa [aaq (by rw[aar];omega)]at this) (by rw[aar];omega) (by rw[aau,aar];omega)
    simp only[aaB,l1]at kc1
    simp only[aaB,l2]at kc2
    simp only[↓ah,aj,simprocAttr,aM,Ou,hf,c50,h6,kc1,w0,d0,d1,gs]
    simp only[↓ah,aj,simprocAttr,aM,hf,gs,d0,d1,h6,kc2]
    refine fin _ _ _ ?_ ?_
    ·exact Wj (by rw[aK];rfl) l1.symm
    ·exact Wj (by rw[aK];rfl) l2.symm
  ·have hr:cE q=(dP,[],[],(cg (q.take 48)).2):=by
    unfold cE
    rw[aaJ c1,aaY c2]
    rfl
   have fin:∀L,K (.cA [cw dP,.raw (.slice none 0 0),.raw (.slice none 0 0),.raw (it (cg (q.take 48)).2)]) (rows++L):=λL=>h _ _ ⟨L,_,_,rfl,by rw[hr],by rw[hr];exact .inl ⟨rfl,rfl⟩,by rw[hr];exact .inl ⟨rfl,rfl⟩⟩
   simp only[↓ah,aj,simprocAttr,aM,c2,hf]
   exact fin _
theorem eqA_self(l:List (BitVec 8)):eqA (.ar 32 L8) (.agg (.ar 32 L8) (bs l)) (.agg (.ar 32 L8) (bs l))=some true:=by
 simp[eqA,eqL_bs]
theorem read_img(m:AB)(sig p:List (BitVec 8))(hm:m.dg.length=32)(hi:qi m sig p=true):cE (kj m sig p)=(m,sig,p,0):=by
 have hi':=hi
 unfold qi at hi'
 simp only[aan,aat]at hi'
 obtain⟨hk,hs,hg⟩:=hi'
 have b48:=jX m hm
 have t48:(kj m sig p).take 48=bC m:=by unfold kj;rw[<-b48,aa0]
 have d48:(kj m sig p).drop 48=n2I sig.length++(sig++p):=by unfold kj;rw[<-b48,abe]
 have d50:(kj m sig p).drop 50=sig++p:=by
  rw[show(50:Nat)=48+2 from rfl,<-abv,d48];rfl
 have g48:(kj m sig p).getD 48 0#8=BitVec.ofNat 8 (sig.length/256):=by
  rw[aaH,show(48:Nat)=48+0 from rfl,<-abk,d48];rfl
 have g49:(kj m sig p).getD 49 0#8=BitVec.ofNat 8 sig.length:=by
  rw[aaH,show(49:Nat)=48+1 from rfl,<-abk,d48];rfl
 have hN:dz (kj m sig p)=sig.length:=by
  unfold dz
  rw[g48,g49]
  simp only[aaK]
  omega
 have hL:(kj m sig p).length=50+sig.length+p.length:=by
  unfold kj n2I
  simp only[aao,aaP,aaT,b48]
  omega
 have d2:(kj m sig p).drop (50+sig.length)=p:=by rw[<-abv,d50,abe]
 unfold cE
 rw[t48,Uc m hm hk,hN,hL,d50,d2]
 rw[aaJ (by omega)]
 simp only[aaM,ne_eq,ac3,aaw]
 rw[aaJ (by omega)]
 simp only[aaM]
 rw[<-hs,aaB,aa0,aaV]
theorem QY(q:List (BitVec 8)):(cE q).2.1.length<=q.length/\(cE q).2.2.1.length<=q.length:=by
 unfold cE
 cases decide (q.length<50)
 ·cases decide ((cg (q.take 48)).2≠0)
  ·cases decide ((q.length:Int)<50+dz q+(cg (q.take 48)).1.s)
   ·simp only[aaM,aau,aar];omega
   ·simp
  ·simp
 ·simp
end jU
end Go.Am

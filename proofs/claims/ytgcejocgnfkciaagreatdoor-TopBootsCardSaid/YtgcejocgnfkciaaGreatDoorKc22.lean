import Derived.Test.YtgcejocgnfkciaaGreatDoorKc21
namespace Go.Am
set_option linter.unusedSimpArgs false
set_option linter.unusedVariables false
attribute [local congr] cd bt cg bu bw bO bg bx bz bP a7 bQ bA b9
namespace iC
open Go.Am.F
set_option maxRecDepth 10000
def qS:Fn:=wS Ot Ot (fun x y=>decide (x=1#64)&&decide (y.toNat<4294967296)) fun _ y=>(.cA [.raw (u64 0#64),.raw (u64 y)],[])
theorem MP(C:be)(hC:aI C P):aO C.aZ P 188 (Fn.run qS):=by
 refine aH (Ab C hC) fun ds rows r h=>?_
 obtain⟨d,e,x,y,rfl,rfl,hd,he,hp,rfl⟩:=dq h
 cases rD hd
 cases rD he
 simp only[Bool.and_eq_true,decide_eq_true_eq]at hp
 obtain⟨rfl,hy⟩:=hp
 refine⟨rfl,ag rfl ?_⟩
 clear h hd he
 unfold qw qx
 have h1:y&&&4294967295#64=y:=by
  apply BitVec.eq_of_toNat_eq
  rw[BitVec.toNat_and]
  have:(4294967295#64).toNat=2^32-1:=by decide
  rw[this,Nat.and_two_pow_sub_one_eq_mod];omega
 have h2:y>>>32=0#64:=by
  apply BitVec.eq_of_toNat_eq
  rw[BitVec.toNat_ushiftRight,Nat.shiftRight_eq_div_pow];simp;omega
 have h3:1#64&&&4294967295#64=1#64:=by decide
 have h4:1#64>>>32=0#64:=by decide
 have h5:0#64&&&4294967295#64=0#64:=by decide
 have h6:0#64>>>32=0#64:=by decide
 simp only[↓aj,ak,simprocAttr,aa,h1,h2,h3,h4,h5,h6,BitVec.one_mul,BitVec.zero_mul,BitVec.mul_zero,BitVec.add_zero]
 exact .val _ rfl
theorem Yc(rows:Rows)(k:D→Rows→Prop)(y:BitVec 64)(h:y.toNat<4294967296):aJ qS rows k [.raw (u64 1#64),.raw (u64 y)]=k (.cA [.raw (u64 0#64),.raw (u64 y)]) rows:=by
 refine(bi rfl (r:=(.cA [.raw (u64 0#64),.raw (u64 y)],[])) ?_).trans ?_
 ·rw[qS,jP (D0 _) (D0 _) (by simp[h])]
 ·simp[shift,bh,ae]
theorem Q6(C:be)(hC:aI C P)(hm:C.fn 188=some qS):aO C.aZ P 163 (Fn.run qS):=by
 refine aH (DB C hC) fun ds rows r h=>?_
 obtain⟨d,e,x,y,rfl,rfl,hd,he,hp,rfl⟩:=dq h
 cases rD hd
 cases rD he
 simp only[Bool.and_eq_true,decide_eq_true_eq]at hp
 obtain⟨rfl,hy⟩:=hp
 refine⟨rfl,ag rfl ?_⟩
 clear h hd he
 unfold uc ud
 have k1:=fun rows k=>Yc rows k y hy
 simp only[↓aj,ak,simprocAttr,aa,hm,k1]
 exact .val _ rfl
def oB:Fn:=wS dN rC (fun b n=>decide (b.length=1)&&decide (0≤n)&&decide (n≤1048576)) fun b n=>ez (List.replicate n.toNat (b.getD 0 0#8)) false
theorem Yd(l:List (BitVec 8))(x:BitVec 8)(bp c n:Nat)(hl:l.length=n)(h:l.take bp=List.replicate bp x)(hb:bp≤n)(hc:c≤bp)(m:Nat)(hm:m=min c (n-bp)):(a9 l bp ((l.take c).take m)).take (bp+m)=List.replicate (bp+m) x:=by
 have e1:(l.take c).take m=List.replicate m x:=by
  have h2:l.take c=List.replicate c x:=by
   have:=congrArg (List.take c) h
   rw[List.take_take,List.take_replicate,show min c bp=c by omega]at this
   exact this
  rw[h2,List.take_replicate,show min m c=m by omega]
 rw[a9,e1,h,List.take_append_of_le_length (by simp),List.replicate_append_replicate,List.take_of_length_le (by simp)]
theorem iH{α:Type}(l:List α)(off:Nat)(xs:List α)(h:off+xs.length≤l.length):(a9 l off xs).length=l.length:=by
 simp[a9];omega
theorem Gm(l:List (BitVec 8))(off:Nat)(xs:List (BitVec 8)):a9 (bs l) off (bs xs)=bs (a9 l off xs):=by
 simp[a9,bs]
theorem AE{rows:Rows}{r off len:Nat}{ex:Bool}{l src:List (BitVec 8)}{k:D→Rows→Prop}(h:live rows r=some ⟨L8,bs l⟩)(hle:off+len≤l.length):
  nc rows L8 (.sl L8 r [] off len ex) (bs src) k=k (.raw (it (min src.length len:Nat))) (rows.set r (some ⟨L8,bs (a9 l off (src.take (min src.length len)))⟩)):=by
 unfold nc
 simp only[h,bd,aC,ey,Gm,hle,true_and]
 rfl
theorem IE(C:be)(hC:aI C P)(hm:C.fn 163=some qS):aO C.aZ P 103 (Fn.run oB):=by
 refine cr (Fw C hC) fun ds rows r h=>?_
 obtain⟨d,e,b,n,rfl,rfl,hd,he,hp,rfl⟩:=dq h
 obtain⟨x,hx⟩:=cy hd
 cases bX he
 simp only[Bool.and_eq_true,decide_eq_true_eq]at hp
 obtain⟨⟨hb,h0⟩,hn⟩:=hp
 obtain⟨n,rfl⟩:=Int.eq_ofNat_of_zero_le h0
 refine⟨rfl,_,.cons hx (.cons (.refl _) .nil),ag rfl ?_⟩
 obtain⟨b0,rfl⟩:∃b0,b=[b0]:=by
  match b,hb with
  |[b0],_=>exact⟨b0,rfl⟩
 clear h hd he hx hb
 unfold vv vz
 have Nw:bs [b0]=[.raw (u8 b0)]:=rfl
 have hg:[b0].getD 0 0#8=b0:=rfl
 simp only[Nw,hg,Int.toNat_natCast]
 by_cases hz:n=0
 ·subst hz
  simp only[↓aj,ak,simprocAttr,aa]
  exact .own L8 0 0 0 true false _ rfl rfl (fun h=>by cases h)
 ·have e0:((n:Int)=0)=False:=eq_false (by omega)
  have e1:((n:Int)<0)=False:=eq_false (by omega)
  have e2:BitVec.ofInt 64 (n:Int)=BitVec.ofNat 64 n:=by simp
  have hnn:(BitVec.ofNat 64 n).toNat=n:=by simp;omega
  have e3:BitVec.ofInt 64 1=1#64:=by decide
  have km:=fun rows k=>Yc rows k (BitVec.ofNat 64 n) (by omega)
  have e4:(0#64<0#64)=False:=eq_false (by decide)
  have e5:(9223372036854775807#64<BitVec.ofNat 64 n)=False:=eq_false (by rw[BitVec.lt_def,hnn];simp;omega)
  have e6:wz (n:Int)=(n:Int):=bf (by omega)
  have main:∀c:Nat,c=min n 8192→True:=fun _ _=>trivial
  obtain⟨c,hc⟩:∃c,c=min n 8192:=⟨_,rfl⟩
  have hcz:((n:Int)=((n:Nat):Int)):=rfl
  have z1:((0:Int)≤(n:Int))=True:=eq_true (by omega)
  have z2:((n:Int)≤1099511627776)=True:=eq_true (by omega)
  have z3:∀l:List (BitVec 8),(l.map fun b=>D.raw (.int .u8 (b.toNat:Int)))=bs l:=fun _=>rfl
  by_cases hbig:8192<n
  all_goals
   have e7:((8192:Int)<(n:Int))=(8192<n):=by rw[eq_iff_iff];omega
   simp only[hbig,not_true_eq_false,not_false_eq_true]at e7
   have z4:Int.tdiv 8192 1=8192:=by decide
   simp only[↓aj,ak,simprocAttr,aa,e0,e1,e2,e3,e4,e5,e6,e7,hm,km,hnn,z1,z2,z3,z4]
   try simp only[↓aj,ak,simprocAttr,aa,e0,e1,e2,e3,e4,e5,e6,e7,hm,km,hnn,z1,z2,z3,z4]
   intro l hl
   refine Eq.mpr (AE (l:=l) (src:=[b0]) rfl (by omega)) ?_
   have qj:min [b0].length (n-0)=1:=by simp;omega
   have hsp:(a9 l 0 ([b0].take 1)).take 1=List.replicate 1 b0:=by simp[a9]
   have jO:(a9 l 0 ([b0].take 1)).length=n:=by rw[iH _ _ _ (by simp;omega),hl]
   rw[qj]
   generalize a9 l 0 ([b0].take 1)=l1 at*
   simp only[↓aj,ak,simprocAttr,aa]
   refine rB (fun k env rows=>∃bp:Nat,∃l2:List (BitVec 8),k=n-bp∧1≤bp∧bp≤n∧l2.length=n∧l2.take bp=List.replicate bp b0∧has env [(10,.raw (it (bp:Int))),(7,.raw (it (n:Int))),(8,.raw (it (c:Int))),(9,.sl L8 0 [] 0 n (oM (some (n:Int)) n n n false))]∧rows=[some ⟨L8,bs l2⟩]) ?_ (n-1) ⟨1,l1,rfl,Nat.le_refl _,by omega,jO,hsp,?_,rfl⟩
   ·rintro k env rows ⟨bp,l2,rfl,pR,hbn,G1,ht,hh,rfl⟩ R hR
    simp only[has]at hh
    obtain⟨h10,h7,h8,h9,-⟩:=hh
    by_cases hlt:bp<n
    ·have f0:((bp:Int)<(n:Int))=True:=eq_true (by omega)
     have f1:min (bp:Int) (c:Int)=((min bp c:Nat):Int):=by omega
     have f2:((0:Int)≤(bp:Int))=True:=eq_true (by omega)
     have f3:((bp:Int)≤(n:Int))=True:=eq_true (by omega)
     have f4:((0:Int)≤((min bp c:Nat):Int))=True:=eq_true (by omega)
     have f5:(((min bp c:Nat):Int)≤(n:Int))=True:=eq_true (by omega)
     simp only[↓aj,ak,simprocAttr,aa,h10,h7,h8,h9,f0,f1,f2,f3,f4,f5,decide_true]
     rw[Nat.sub_zero,ey]
     refine⟨by rw[aC,List.length_take];omega,Eq.mpr (AE rfl (by omega)) ?_⟩
     obtain⟨m,ZZ⟩:∃m,m=min ((l2.take (min bp c)).length) (n-bp):=⟨_,rfl⟩
     have LF:m=min (min bp c) (n-bp):=by rw[ZZ,List.length_take];omega
     have hr:=Yd l2 b0 bp (min bp c) n G1 ht hbn (by omega) m LF
     have hsl2:(a9 l2 bp ((l2.take (min bp c)).take m)).length=n:=by rw[iH _ _ _ (by rw[List.length_take,List.length_take];omega),G1]
     rw[←ZZ]
     generalize a9 l2 bp ((l2.take (min bp c)).take m)=l3 at*
     have f6:wz ((bp:Int)+(m:Int))=((bp+m:Nat):Int):=by rw[bf (by omega)];omega
     simp only[↓aj,ak,simprocAttr,aa,h10,h7,h8,h9,f6]
     exact hR (n-(bp+m)) _ _ (by omega) ⟨bp+m,l3,rfl,by omega,by omega,hsl2,hr,by simp only[has,↓aj,ak,simprocAttr,aa,h7,h8,h9],rfl⟩
    ·obtain rfl:bp=n:=by omega
     have f0:((bp:Int)<(bp:Int))=False:=eq_false (by omega)
     rw[List.take_of_length_le (by omega)]at ht
     simp only[↓aj,ak,simprocAttr,aa,h10,h7,h8,h9,f0,decide_false,ht]
     subst ht
     exact iK.Jl (l:=List.replicate bp b0) (.inr ⟨0,_,by rw[aC,List.length_replicate],rfl⟩)
   ·simp only[has,↓aj,ak,simprocAttr,aa,hc,Nat.sub_zero]
    first|(rw[show min n 8192=8192 by omega];rfl)|rw[show min n 8192=n by omega]
theorem Kf{rows:Rows}{d:D}{b:BitVec 8}(h:bc rows d [b])(n:Nat)(hn:n≤1048576)(k:D→Rows→Prop):
  aJ oB rows k [d,.raw (it (n:Int))]=k (.sl L8 (0+rows.length) [] 0 n false) (rows++[some ⟨L8,bs (List.replicate n b)⟩]):=by
 refine(JX h (nS (n:Int)) (by simp;omega) rfl).trans ?_
 simp[ez,shift,ae,Sh.pure]
abbrev SF:Sh:=S19
abbrev FV:=Option (List (BitVec 8)×Bool)
def yJ:FV→D
 |none=> .raw (.pointer none)
 |some (x,e)=> .b5 (.agg SF [.cF L8 (bs x) e])
theorem bs_injF{a b:List (BitVec 8)}(h:bs a=bs b):a=b:=(List.map_inj_right fun x y hxy=>by cases(D.raw.inj hxy:u8 x=u8 y)|>W0.1;rfl).1 h
theorem wI(x y:FV)(h:yJ x=yJ y):x=y:=by
 rcases x with _|⟨x,e⟩<;>rcases y with _|⟨y,f⟩
 ·rfl
 ·cases h
 ·cases h
 ·unfold yJ at h
  injection h with h
  injection h with _ h
  injection h with h _
  injection h with _ h h2
  rw[bs_injF h,h2]
def mc:FV→Nat
 |none=>0
 |some (x,_)=>x.length
def ky:FV→Int→Int→Int
 |none,_,_=>3
 |some (x,_),a,n=>if a<0∨n<0∨(x.length:Int)<a∨(x.length:Int)-a<n then 9 else 0
def uC:FV→Int→Int
 |none,_=>3
 |some (x,_),i=>if i<0∨((x.length/256:Nat):Int)≤i then 9 else 0
noncomputable def tz:Fn:=G2 (b8 yJ) rC rC (fun K _ _=>decide (mc K≤1048576)) fun K a n=>(.raw (it (ky K a n)),[])
theorem IF(C:be)(hC:aI C P):aO C.aZ P 62 (Fn.run tz):=by
 refine aH (vo C hC) fun ds rows r h=>?_
 obtain⟨d,e,f,K,a,n,rfl,rfl,hd,he,hf,hp,rfl⟩:=fq h
 cases aF hd
 cases bX he
 cases bX hf
 simp only[decide_eq_true_eq]at hp
 refine⟨rfl,ag rfl ?_⟩
 clear h hd he hf
 unfold nA nB
 rcases K with _|⟨x,e⟩
 ·simp only[yJ,↓aj,ak,simprocAttr,aa,ky]
  exact .val _ rfl
 ·simp only[mc]at hp
  simp only[yJ,ky]
  by_cases c1:a<0
  ·simp only[↓aj,ak,simprocAttr,aa,c1,true_or,if_true]
   exact .val _ rfl
  by_cases c2:n<0
  ·simp only[↓aj,ak,simprocAttr,aa,c1,c2,true_or,or_true,if_true,decide_false,decide_true]
   exact .val _ rfl
  by_cases c3:(x.length:Int)<a
  ·simp only[↓aj,ak,simprocAttr,aa,aC,c1,c2,c3,true_or,or_true,if_true,decide_false,decide_true]
   exact .val _ rfl
  have e1:wz ((x.length:Int)-a)=(x.length:Int)-a:=bf (by omega)
  by_cases c4:(x.length:Int)-a<n
  ·simp only[↓aj,ak,simprocAttr,aa,aC,c1,c2,c3,c4,e1,true_or,or_true,if_true,decide_false,decide_true]
   exact .val _ rfl
  ·simp only[↓aj,ak,simprocAttr,aa,aC,c1,c2,c3,c4,e1,or_self,if_false,decide_false,decide_true]
   exact .val _ rfl
noncomputable def yK:Fn:=wS (b8 yJ) rC (fun K _=>decide (mc K≤1048576)) fun K i=>(.raw (it (uC K i)),[])
theorem Q7(C:be)(hC:aI C P):aO C.aZ P 168 (Fn.run yK):=by
 refine aH (yy C hC) fun ds rows r h=>?_
 obtain⟨d,e,K,i,rfl,rfl,hd,he,hp,rfl⟩:=dq h
 cases aF hd
 cases bX he
 simp only[decide_eq_true_eq]at hp
 refine⟨rfl,ag rfl ?_⟩
 clear h hd he
 unfold pe pf
 rcases K with _|⟨x,e⟩
 ·simp only[yJ,↓aj,ak,simprocAttr,aa,uC]
  exact .val _ rfl
 ·simp only[mc]at hp
  simp only[yJ,uC]
  have e1:(x.length:Int).tdiv 256=((x.length/256:Nat):Int):=rfl
  have e2:wz ((x.length/256:Nat):Int)=((x.length/256:Nat):Int):=bf (by omega)
  by_cases c1:i<0
  ·simp only[↓aj,ak,simprocAttr,aa,c1,true_or,if_true]
   exact .val _ rfl
  by_cases c2:((x.length/256:Nat):Int)≤i
  ·simp only[↓aj,ak,simprocAttr,aa,aC,e1,e2,c1,c2,true_or,or_true,if_true,decide_false,decide_true]
   exact .val _ rfl
  ·simp only[↓aj,ak,simprocAttr,aa,aC,e1,e2,c1,c2,or_self,if_false,decide_false,decide_true]
   exact .val _ rfl
def Ye(a b:List (BitVec 8))(i:Nat):Prop:=b.getD i 0#8&&&~~~a.getD i 0#8=0#8
def clears(a b:List (BitVec 8)):Prop:=∀i,i<b.length→Ye a b i
noncomputable def qG:Fn:=wS dN dN (fun a b=>decide (b.length≤a.length)&&decide (a.length≤1048576)) fun a b=>(.raw (.bool (open Classical in decide (clears a b))),[])
theorem IG(C:be)(hC:aI C P):aO C.aZ P 105 (Fn.run qG):=by
 refine cr (Fx C hC) fun ds rows r h=>?_
 obtain⟨d,e,a,b,rfl,rfl,hd,he,hp,rfl⟩:=dq h
 obtain⟨x,hx⟩:=cy hd
 obtain⟨y,hy⟩:=cy he
 simp only[Bool.and_eq_true,decide_eq_true_eq]at hp
 obtain⟨hp,sG⟩:=hp
 refine⟨rfl,_,.cons hx (.cons hy .nil),ag rfl ?_⟩
 clear h hd he hx hy
 unfold vA vB
 simp only[↓aj,ak,simprocAttr,aa,aC]
 refine bB b.length (fun i env rows=>has env [(9,.raw (it (i:Int))),(8,.raw (it (b.length:Int))),(7,.cF L8 (bs b) y),(0,.cF L8 (bs a) x)]∧rows=[]∧∀j,j<i→Ye a b j) ?_ ?_ ⟨?_,rfl,fun j h=>by omega⟩
 ·rintro i hi env rows ⟨hh,rfl,hc⟩ R hR
  simp only[has]at hh
  obtain⟨h9,h8,h7,h0,-⟩:=hh
  have e0:((i:Int)<(b.length:Int))=True:=eq_true (by omega)
  have e2:=cE i (by omega)
  have g1:∀rows k,nQ L8 (i:Int) rows k (.cF L8 (bs b) y)=k (.b5 (.raw (u8 (b.getD i 0#8)))) rows:=fun rows k=>Xc b y i hi rows k
  have g2:∀rows k,nQ L8 (i:Int) rows k (.cF L8 (bs a) x)=k (.b5 (.raw (u8 (a.getD i 0#8)))) rows:=fun rows k=>Xc a x i (by omega) rows k
  by_cases hz:Ye a b i
  ·have I5:b.getD i 0#8&&&~~~a.getD i 0#8=0#8:=hz
   simp only[↓aj,ak,simprocAttr,aa,h9,h8,h7,h0,e0,e2,g1,g2,I5,decide_true]
   exact hR _ _ ⟨by simp only[has,↓aj,ak,simprocAttr,aa,h8,h7,h0],rfl,fun j hj=>by
    rcases Nat.lt_or_ge j i with h|h
    ·exact hc j h
    ·obtain rfl:j=i:=by omega
     exact hz⟩
  ·have I5:(b.getD i 0#8&&&~~~a.getD i 0#8=0#8)=False:=eq_false hz
   have hno:(open Classical in decide (clears a b))=false:=by
    classical
    rw[decide_eq_false_iff_not]
    exact fun h=>hz (h i hi)
   simp only[↓aj,ak,simprocAttr,aa,h9,h8,h7,h0,e0,e2,g1,g2,I5,hno,decide_true,decide_false]
   exact .val _ rfl
 ·rintro env rows ⟨hh,rfl,hc⟩ R
  simp only[has]at hh
  obtain⟨h9,h8,h7,h0,-⟩:=hh
  have e0:((b.length:Int)<(b.length:Int))=False:=eq_false (by omega)
  have hy:(open Classical in decide (clears a b))=true:=by
   classical
   rw[decide_eq_true_iff]
   exact hc
  simp only[↓aj,ak,simprocAttr,aa,h9,h8,h7,h0,e0,hy,decide_false]
  exact .val _ rfl
 ·simp only[has,↓aj,ak,simprocAttr,aa]
structure fG (rows:Rows) (r m:Nat) (x:List (BitVec 8)):Prop where
 ptr:∃ex,live rows r=some ⟨SF,[.agg SF [.sl L8 m [] 0 x.length ex]]⟩
 dat:live rows m=some ⟨L8,bs x⟩
theorem fG.view{rows:Rows}{r m:Nat}{x:List (BitVec 8)}(h:fG rows r m x):∃e,view rows 9 (.ptr SF r [0])=some (yJ (some (x,e))):=by
 obtain⟨⟨ex,h1⟩,h2⟩:=h
 refine⟨ex,?_⟩
 have he:elems rows (.sl L8 m [] 0 x.length ex)=some (bs x):=by
  simp only[elems,h2];simp[lp]
 simp only[Am.view,h1,cP,List.getElem?_cons_zero,D.get,yJ,Sh.pure,cW]
 rw[he]
 simp[aC,cW,he]
theorem fG.push{rows:Rows}{r m:Nat}{x:List (BitVec 8)}(h:fG rows r m x)(more:Rows):fG (rows++more) r m x:=by
 obtain⟨⟨ex,h1⟩,h2⟩:=h
 exact⟨⟨ex,bJ h1⟩,bJ h2⟩
theorem fG.set{rows:Rows}{r m:Nat}{x:List (BitVec 8)}(h:fG rows r m x){q:Nat}{y:Row}(h1:q≠r)(h2:q≠m):fG (rows.set q (some y)) r m x:=by
 obtain⟨⟨ex,g1⟩,g2⟩:=h
 exact⟨⟨ex,cK g1 h1⟩,cK g2 h2⟩
def MQ(rows:Rows)(d:D)(K:FV):Prop:=(aQ d=true∧view rows 9 d=some (yJ K))∨(d=yJ K∧aQ d=false)
theorem fG.to{rows:Rows}{r m:Nat}{x:List (BitVec 8)}(h:fG rows r m x):∃e,MQ rows (.ptr SF r [0]) (some (x,e)):=by
 obtain⟨e,h⟩:=h.view
 exact⟨e,.inl ⟨by simp[aQ],h⟩⟩
theorem AF{F:Fn}{rows:Rows}{d:D}{K:FV}(h:MQ rows d K){vs:List D}(hv:cW (view rows 9) vs=some vs)(hn:aN vs=false){r:D×Rows}(hF:F (yJ K::vs) []=some r)(hr:(bZ r.1&&aS r.2)=true)(k:D→Rows→Prop):
  aJ F rows k (d::vs)=k (shift rows.length r.1) (rows++ae rows.length r.2):=by
 unfold aJ
 rcases h with⟨h1,h2⟩|⟨rfl,h2⟩
 ·simp[aN,h1,cW,h2,hv,bd,hF,hr]
 ·simp[aN,h2,hn,bd,hF]
theorem Q8{rows:Rows}{d:D}{K:FV}(h:MQ rows d K)(hl:mc K≤1048576)(a n:Int)(k:D→Rows→Prop):aJ tz rows k [d,.raw (it a),.raw (it n)]=k (.raw (it (ky K a n))) rows:=by
 refine(AF h rfl rfl (r:=(.raw (it (ky K a n)),[])) ?_ rfl k).trans ?_
 ·simp only[tz,yD,bV wI,nS,Option.bind_some,hl,decide_true,cond_true]
 ·simp[shift,ae]
theorem Yf{rows:Rows}{d:D}{K:FV}(h:MQ rows d K)(hl:mc K≤1048576)(i:Int)(k:D→Rows→Prop):aJ yK rows k [d,.raw (it i)]=k (.raw (it (uC K i))) rows:=by
 refine(AF h rfl rfl (r:=(.raw (it (uC K i)),[])) ?_ rfl k).trans ?_
 ·simp only[yK,Xb,bV wI,nS,Option.bind_some,hl,decide_true,cond_true]
 ·simp[shift,ae]
theorem Q9{rows:Rows}{d e:D}{a b:List (BitVec 8)}(h:bc rows d a)(h':bc rows e b)(hb:b.length≤a.length)(ha:a.length≤1048576)(k:D→Rows→Prop):aJ qG rows k [d,e]=k (.raw (.bool (open Classical in decide (clears a b)))) rows:=by
 refine(Bl h h' (by simp[hb,ha]) rfl).trans ?_
 simp[shift,ae]
theorem Kg{x:List (BitVec 8)}{e:Bool}{a n:Int}(h:ky (some (x,e)) a n=0):0≤a∧0≤n∧a≤x.length∧n≤x.length-a:=by
 simp only[ky]at h
 split at h
 ·cases h
 ·omega
theorem Yg{x:List (BitVec 8)}{e:Bool}{i:Int}(h:uC (some (x,e)) i=0):0≤i∧256*i+256≤x.length:=by
 simp only[uC]at h
 split at h
 ·cases h
 ·omega
def sub(x:List (BitVec 8))(a n:Nat):List (BitVec 8):=(x.drop a).take n
theorem j9{x:List (BitVec 8)}{a n:Nat}(h:a+n≤x.length):(sub x a n).length=n:=by
 rw[sub,List.length_take,List.length_drop];omega
def nG:FV→List (BitVec 8)
 |none=>[]
 |some (x,_)=>x
def Gn(K:FV)(a n:Int):D×Rows:=
 if ky K a n=0 then(.cA [.sl L8 0 [] 0 n.toNat false,.raw (it 0)],[some ⟨L8,bs (sub (nG K) a.toNat n.toNat)⟩])else(.cA [.raw (.slice none 0 0),.raw (it (ky K a n))],[])
noncomputable def vT:Fn:=G2 (b8 yJ) rC rC (fun K _ _=>decide (mc K≤1048576)) Gn
theorem Yh(rows:Rows)(l:List (BitVec 8))(e:Bool):bc rows (.cF L8 (bs l) e) l:=ec.to (.inr ⟨e,rfl⟩)
theorem Kh(rows:Rows)(K:FV):MQ rows (yJ K) K:=by
 refine .inr ⟨rfl,?_⟩
 rcases K with _|⟨x,e⟩<;>simp[yJ,aQ,aN,Sh.pure]
theorem read_ok(C:be)(hC:aI C P)(hw:C.fn 62=some tz)(hc:C.fn 73=some tx):aO C.aZ P 23 (Fn.run vT):=by
 refine aH (yh C hC) fun ds rows r h=>?_
 obtain⟨d,e,f,K,a,n,rfl,rfl,hd,he,hf,hp,rfl⟩:=fq h
 cases aF hd
 cases bX he
 cases bX hf
 simp only[decide_eq_true_eq]at hp
 refine⟨rfl,ag rfl ?_⟩
 clear h hd he hf
 unfold oY oZ
 have k1:=fun rows k=>Q8 (Kh rows K) hp a n k
 by_cases h0:ky K a n=0
 ·rw[Gn,if_pos h0]
  rcases K with _|⟨x,e⟩
  ·cases h0
  simp only[mc]at hp
  obtain⟨b1,b2,b3,b4⟩:=Kg h0
  rw[h0]at k1
  obtain⟨a,rfl⟩:=Int.eq_ofNat_of_zero_le b1
  obtain⟨n,rfl⟩:=Int.eq_ofNat_of_zero_le b2
  have e1:wz ((a:Int)+(n:Int))=((a+n:Nat):Int):=by rw[bf (by omega)];omega
  have e2:((0:Int)≤(a:Int))=True:=eq_true (by omega)
  have e3:((a:Int)≤((a+n:Nat):Int))=True:=eq_true (by omega)
  have e4:(((a+n:Nat):Int)≤(x.length:Int))=True:=eq_true (by omega)
  have e5:a+n-a=n:=by omega
  have jO:(sub x a n).length=n:=j9 (by omega)
  have kc:=fun rows k e=>JY rows k (.cF L8 (bs (sub x a n)) e) (sub x a n) (Yh rows _ e) (by omega)
  rw[jO]at kc
  have hsb:((x.drop a).take n)=sub x a n:=rfl
  simp only[yJ]at k1⊢
  simp only[↓aj,ak,simprocAttr,aa,hw,k1,hc,kc,aC,fw,ey,hsb,e1,e2,e3,e4,e5,nG]
  exact .G9 L8 0 0 n _ false _ _ rfl rfl rfl (fun h=>by cases h)
 ·rw[Gn,if_neg h0]
  have h1:(ky K a n=0)=False:=eq_false h0
  simp only[↓aj,ak,simprocAttr,aa,hw,k1,h1]
  exact .val _ rfl
theorem Yi{rows:Rows}{d:D}{K:FV}(h:MQ rows d K)(hl:mc K≤1048576)(a n:Int)(k:D→Rows→Prop):aJ vT rows k [d,.raw (it a),.raw (it n)]=k (shift rows.length (Gn K a n).1) (rows++ae rows.length (Gn K a n).2):=by
 refine AF h rfl rfl (r:=Gn K a n) ?_ ?_ k
 ·simp only[vT,yD,bV wI,nS,Option.bind_some,hl,decide_true,cond_true]
 ·unfold Gn;split<;>rfl
theorem MR{rows:Rows}{r m:Nat}{x:List (BitVec 8)}(h:fG rows r m x)(hl:x.length≤1048576)(a n:Nat)(ha:a+n≤x.length)(k:D→Rows→Prop):
  aJ vT rows k [.ptr SF r [0],.raw (it (a:Int)),.raw (it (n:Int))]=k (.cA [.sl L8 rows.length [] 0 n false,.raw (it 0)]) (rows++[some ⟨L8,bs (sub x a n)⟩]):=by
 obtain⟨e,h⟩:=h.to
 rw[Yi h hl]
 have h0:ky (some (x,e)) (a:Int) (n:Int)=0:=by
  simp only[ky];rw[if_neg (by omega)]
 rw[Gn,if_pos h0]
 simp[shift,bh,ae,Sh.pure,nG]
def fn4{α β γ δ:Type}(rd:D→Option α)(rd':D→Option β)(DF:D→Option γ)(Z8:D→Option δ)(pre:α→β→γ→δ→Bool)(out:α→β→γ→δ→D×Rows):Fn
 |[d,e,f,g],[]=>match rd d,rd' e,DF f,Z8 g with
  |some x,some y,some z,some w=>bif pre x y z w then some (out x y z w)else none
  | _,_,_,_=>none
 | _,_=>none
theorem Yj{α β γ δ:Type}{rd:D→Option α}{rd':D→Option β}{DF:D→Option γ}{Z8:D→Option δ}{pre:α→β→γ→δ→Bool}{out:α→β→γ→δ→D×Rows}{ds:List D}{rows:Rows}{r:D×Rows}(h:fn4 rd rd' DF Z8 pre out ds rows=some r):
  ∃d e f g x y z w,ds=[d,e,f,g]∧rows=[]∧rd d=some x∧rd' e=some y∧DF f=some z∧Z8 g=some w∧pre x y z w=true∧r=out x y z w:=by
 unfold fn4 at h
 split at h
 ·rename_i d e f g
  split at h
  ·rename_i x y z w hx hy hz hw
   cases hp:pre x y z w with
   |false=>rw[hp]at h;cases h
   |true=>rw[hp]at h;cases h;exact⟨d,e,f,g,x,y,z,w,rfl,rfl,hx,hy,hz,hw,hp,rfl⟩
  ·cases h
 ·cases h
theorem Yk{α β γ δ:Type}{rd:D→Option α}{rd':D→Option β}{DF:D→Option γ}{Z8:D→Option δ}{pre:α→β→γ→δ→Bool}{out:α→β→γ→δ→D×Rows}{d e f g:D}{x:α}{y:β}{z:γ}{w:δ}(h1:rd d=some x)(h2:rd' e=some y)(h3:DF f=some z)(h4:Z8 g=some w)(hp:pre x y z w=true):
  fn4 rd rd' DF Z8 pre out [d,e,f,g] []=some (out x y z w):=by
 simp[fn4,h1,h2,h3,h4,hp]
noncomputable def qT(K:FV)(i a:Int)(p:List (BitVec 8)):Int:=open Classical in
 if uC K i≠0 then uC K i else if p=[]then 0 else if a<0∨256<a∨256-a<(p.length:Int)then 9 else if clears ((sub (nG K) (256*i.toNat) 256).drop a.toNat) p then 0 else 14
def sx(K:FV)(i a:Int)(p:List (BitVec 8)):List (BitVec 8):=if p=[]then List.replicate 256 255#8 else a9 (sub (nG K) (256*i.toNat) 256) a.toNat p
noncomputable def Hr(K:FV)(i a:Int)(p:List (BitVec 8)):D×Rows:=
 if qT K i a p=0 then(.cA [.sl L8 0 [] 0 256 false,.raw (it 0)],[some ⟨L8,bs (sx K i a p)⟩])else(.cA [.raw (.slice none 0 0),.raw (it (qT K i a p))],[])
noncomputable def BS:Fn:=fn4 (b8 yJ) rC rC dN (fun K _ _ p=>decide (mc K≤1048576)&&decide (p.length≤1048576)) Hr
theorem Yl(C:be)(hC:aI C P)(hp:C.fn 168=some yK)(hc:C.fn 73=some tx)(ja:C.fn 105=some qG)(hrp:C.fn 103=some oB):aO C.aZ P 116 (Fn.run BS):=by
 refine cr (wX C hC) fun ds rows r h=>?_
 obtain⟨d,e,f,g,K,i,a,p,rfl,rfl,hd,he,hf,hg,hpre,rfl⟩:=Yj h
 cases aF hd
 cases bX he
 cases bX hf
 obtain⟨x,hx⟩:=cy hg
 simp only[Bool.and_eq_true,decide_eq_true_eq]at hpre
 obtain⟨hK,sO⟩:=hpre
 refine⟨rfl,_,.cons (.refl _) (.cons (.refl _) (.cons (.refl _) (.cons hx .nil))),ag rfl ?_⟩
 clear h hd he hf hg hx
 unfold og oh
 have k1:=fun rows k=>Yf (Kh rows K) hK i k
 by_cases h0:uC K i=0
 ·rw[h0]at k1
  rcases K with _|⟨y,e⟩
  ·cases h0
  obtain⟨b1,b2⟩:=Yg h0
  simp only[mc]at hK
  obtain⟨i,rfl⟩:=Int.eq_ofNat_of_zero_le b1
  by_cases hpn:p=[]
  ·subst hpn
   have hA:qT (some (y,e)) (i:Int) a []=0:=by rw[qT,if_neg (by rw[h0];simp),if_pos rfl]
   rw[Hr,if_pos hA,sx,if_pos rfl]
   have kr:∀k,aJ oB [some ⟨L8,[.raw (u8 255#8)]⟩] k [.sl L8 0 [] 0 1 true,.raw (it 256)]=k (.sl L8 1 [] 0 256 false) [some ⟨L8,[.raw (u8 255#8)]⟩,some ⟨L8,bs (List.replicate 256 255#8)⟩]:=fun k=>
    Kf (rows:=[some ⟨L8,[.raw (u8 255#8)]⟩]) (b:=255#8) (bc.own rfl _ rfl) 256 (by omega) k
   have hb0:bs ([]:List (BitVec 8))=[]:=rfl
   generalize List.replicate 256 255#8=z at*
   simp only[yJ]at k1⊢
   simp only[↓aj,ak,simprocAttr,aa,hp,k1,hb0,hrp,kr]
   exact .G9 L8 1 0 256 false false _ _ rfl rfl rfl (fun h=>by cases h)
  ·have hpz:((p.length:Int)=0)=False:=eq_false (by have:p.length≠0:=fun h=>hpn (List.eq_nil_of_length_eq_zero h);omega)
   have Bn:qT (some (y,e)) (i:Int) a p=(open Classical in if a<0∨256<a∨256-a<(p.length:Int)then 9 else if clears ((sub y (256*i) 256).drop a.toNat) p then 0 else 14):=by
    rw[qT,if_neg (by rw[h0];simp),if_neg hpn];rfl
   by_cases c1:a<0
   ·rw[if_pos (.inl c1)]at Bn
    rw[Hr,if_neg (by rw[Bn];decide),Bn]
    simp only[yJ]at k1⊢
    simp only[↓aj,ak,simprocAttr,aa,hp,k1,aC,hpz,c1,decide_true,decide_false]
    exact .val _ rfl
   by_cases c2:256<a
   ·rw[if_pos (.inr (.inl c2))]at Bn
    rw[Hr,if_neg (by rw[Bn];decide),Bn]
    simp only[yJ]at k1⊢
    simp only[↓aj,ak,simprocAttr,aa,hp,k1,aC,hpz,c1,c2,decide_true,decide_false]
    exact .val _ rfl
   have w0:wz (256-a)=256-a:=bf (by omega)
   by_cases c3:256-a<(p.length:Int)
   ·rw[if_pos (.inr (.inr c3))]at Bn
    rw[Hr,if_neg (by rw[Bn];decide),Bn]
    simp only[yJ]at k1⊢
    simp only[↓aj,ak,simprocAttr,aa,hp,k1,aC,hpz,c1,c2,c3,w0,decide_true,decide_false]
    exact .val _ rfl
   rw[if_neg (by omega)]at Bn
   obtain⟨a,rfl⟩:=Int.eq_ofNat_of_zero_le (by omega:0≤a)
   have w1:wz (256*(i:Int))=((256*i:Nat):Int):=by rw[bf (by omega)];omega
   have w2:wz ((i:Int)+1)=((i+1:Nat):Int):=by rw[bf (by omega)];omega
   have w3:wz (256*((i+1:Nat):Int))=((256*i+256:Nat):Int):=by rw[bf (by omega)];omega
   have f1:((0:Int)≤((256*i:Nat):Int))=True:=eq_true (by omega)
   have f2:(((256*i:Nat):Int)≤((256*i+256:Nat):Int))=True:=eq_true (by omega)
   have f3:(((256*i+256:Nat):Int)≤(y.length:Int))=True:=eq_true (by omega)
   have f4:256*i+256-256*i=256:=by omega
   have f5:((0:Int)≤(a:Int))=True:=eq_true (by omega)
   have f6:((a:Int)≤256)=True:=eq_true (by omega)
   have f7:((a:Int)≤((256:Nat):Int))=True:=eq_true (by omega)
   have hsb:((y.drop (256*i)).take 256)=sub y (256*i) 256:=rfl
   have jO:(sub y (256*i) 256).length=256:=j9 (by omega)
   have hdat:sx (some (y,e)) (i:Int) (a:Int) p=a9 (sub y (256*i) 256) a p:=by rw[sx,if_neg hpn];rfl
   have hspl:(a9 (sub y (256*i) 256) a p).length=256:=by rw[iH _ _ _ (by omega),jO]
   simp only[yJ,Int.toNat_natCast]at k1 Bn⊢
   generalize sub y (256*i) 256=s at*
   have kc:=fun rows k e=>JY rows k (.cF L8 (bs s) e) s (Yh rows _ e) (by omega)
   rw[jO]at kc
   have qY:((s.drop a).take (256-a))=s.drop a:=List.take_of_length_le (by rw[List.length_drop];omega)
   have kcl:∀e2 k,aJ qG [some ⟨L8,bs s⟩] k [.sl L8 0 [] a (256-a) e2,.cF L8 (bs p) x]=k (.raw (.bool (open Classical in decide (clears (s.drop a) p)))) [some ⟨L8,bs s⟩]:=fun e2 k=>by
    have hbi:=bc.sub (rows:=[some ⟨L8,bs s⟩]) (r:=0) (off:=a) (len:=256-a) (ex:=e2) rfl (by omega:a+(256-a)≤s.length)
    rw[qY]at hbi
    exact Q9 hbi (Yh _ p x) (by rw[List.length_drop];omega) (by rw[List.length_drop];omega) k
   by_cases c4:clears (s.drop a) p
   ·have hdc:(open Classical in decide (clears (s.drop a) p))=true:=by classical exact decide_eq_true c4
    rw[if_pos c4]at Bn
    rw[Hr,if_pos Bn,hdat]
    rw[hdc]at kcl
    simp only[↓aj,ak,simprocAttr,aa,hp,k1,aC,hpz,c1,c2,c3,w0,w1,w2,w3,f1,f2,f3,f4,f5,f6,f7,hc,kc,ja,kcl,fw,ey,hsb,jO,decide_true,decide_false]
    refine Eq.mpr (AE (l:=s) rfl (by omega)) ?_
    rw[show min p.length (256-a)=p.length by omega,List.take_length]
    simp only[↓aj,ak,simprocAttr,aa]
    exact .G9 L8 0 0 256 false false _ _ rfl rfl rfl (fun h=>by cases h)
   ·have hdc:(open Classical in decide (clears (s.drop a) p))=false:=by classical exact decide_eq_false c4
    rw[if_neg c4]at Bn
    rw[Hr,if_neg (by rw[Bn];decide),Bn]
    rw[hdc]at kcl
    simp only[↓aj,ak,simprocAttr,aa,hp,k1,aC,hpz,c1,c2,c3,w0,w1,w2,w3,f1,f2,f3,f4,f5,f6,f7,hc,kc,ja,kcl,fw,ey,hsb,jO,decide_true,decide_false]
    exact .val _ rfl
 ·have Aq:(uC K i=0)=False:=eq_false h0
  have hA:qT K i a p=uC K i:=by rw[qT,if_pos h0]
  rw[Hr,if_neg (by rw[hA];exact h0),hA]
  simp only[↓aj,ak,simprocAttr,aa,hp,k1,Aq,decide_false]
  exact .val _ rfl
def GF:Nat→Option D:=fun _=>none
noncomputable def CF:be:=⟨GF,lP [(168,yK),(62,tz),(105,qG),(73,tx),(103,oB),(163,qS),(188,qS)],fun _=>none,fun _=>none⟩
theorem ctxF:aI CF P:=
 have c0:=Qw (G:=GF) (P:=P)
 have c1:=az (MP _ c0) c0
 have c2:=az (Q6 _ c1 rfl) c1
 have c3:=az (IE _ c2 rfl) c2
 have c4:=az (Mt _ c3) c3
 have c5:=az (IG _ c4) c4
 have c6:=az (IF _ c5) c5
 az (Q7 _ c6) c6
theorem Ym:CF.fn 168=some yK:=rfl
theorem Gp:CF.fn 62=some tz:=rfl
theorem MS:CF.fn 105=some qG:=rfl
theorem Yn:CF.fn 103=some oB:=rfl
theorem tA{rows:Rows}{m:Nat}{row:Row}(h:live rows m=some row):rows.set m (some row)=rows:=by
 refine List.ext_getElem? fun i=>?_
 rw[List.getElem?_set]
 split
 ·rename_i e
  subst e
  have hl:=bn h
  unfold live at h
  rw[if_pos hl]
  split at h
  ·rename_i r hr
   cases h
   exact hr.symm
  ·cases h
 ·rfl
theorem fG.ne{rows:Rows}{r m:Nat}{x:List (BitVec 8)}(h:fG rows r m x):r≠m:=by
 obtain⟨⟨ex,h1⟩,h2⟩:=h
 intro e
 subst e
 rw[h1]at h2
 injection h2 with h2
 injection h2 with h2 _
 cases h2
theorem fG.sE{rows:Rows}{r m:Nat}{x y:List (BitVec 8)}(h:fG rows r m x)(hy:y.length=x.length):fG (rows.set m (some ⟨L8,bs y⟩)) r m y:=by
 have hne:=h.ne
 obtain⟨⟨ex,h1⟩,h2⟩:=h
 exact⟨⟨ex,by rw[hy];exact cK h1 hne.symm⟩,aG h2⟩
noncomputable def Ra(x:List (BitVec 8))(a:Int)(p:List (BitVec 8)):Int:=open Classical in
 if ky (some (x,false)) a p.length≠0 then ky (some (x,false)) a p.length else if clears (x.drop a.toNat) p then 0 else 14
noncomputable def NC(x:List (BitVec 8))(a:Int)(p:List (BitVec 8)):List (BitVec 8):=open Classical in if Ra x a p=0 then a9 x a.toNat p else x
theorem wrE_ok{x:List (BitVec 8)}{a:Int}{p:List (BitVec 8)}(h:Ra x a p=0):0≤a∧a.toNat+p.length≤x.length∧clears (x.drop a.toNat) p:=by
 unfold Ra at h
 split at h
 ·rename_i h2;exact absurd h h2
 ·rename_i h2
  have h3:=Kg (Decidable.of_not_not h2)
  split at h
  ·rename_i h4
   exact⟨h3.1,by omega,h4⟩
  ·cases h
theorem AG(x:List (BitVec 8))(a:Int)(p:List (BitVec 8)):(NC x a p).length=x.length:=by
 unfold NC
 split
 ·rename_i h
  have:=wrE_ok h
  exact iH _ _ _ this.2.1
 ·rfl
theorem Ud{rows:Rows}{r m q:Nat}{x p:List (BitVec 8)}{ex:Bool}(h:fG rows r m x)(hq:live rows q=some ⟨L8,bs p⟩)(hx:x.length≤1048576)(hp:p.length≤1048576)(a:Int){K:D→Rows→Prop}
  (hk:K (.raw (it (Ra x a p))) (rows.set m (some ⟨L8,bs (NC x a p)⟩))):aR CF 3 dB dA [.ptr SF r [0],.raw (it a),.sl L8 q [] 0 p.length ex] rows K:=by
 obtain⟨e,hin⟩:=h.to
 have kw:=fun k=>Q8 hin hx a p.length k
 have hee:ky (some (x,e)) a p.length=ky (some (x,false)) a p.length:=rfl
 obtain⟨⟨e2,h1⟩,h2⟩:=h
 simp only[lQ]
 unfold dA dB
 rw[hee]at kw
 by_cases h0:ky (some (x,false)) a p.length=0
 ·obtain⟨b1,b2,b3,b4⟩:=Kg h0
  obtain⟨a,rfl⟩:=Int.eq_ofNat_of_zero_le b1
  rw[h0]at kw
  have f1:((0:Int)≤(a:Int))=True:=eq_true (by omega)
  have f2:((a:Int)≤(x.length:Int))=True:=eq_true (by omega)
  have qY:((x.drop a).take (x.length-a))=x.drop a:=List.take_of_length_le (by rw[List.length_drop];omega)
  have kc:∀e3 k,aJ qG rows k [.sl L8 m [] a (x.length-a) e3,.sl L8 q [] 0 p.length ex]=k (.raw (.bool (open Classical in decide (clears (x.drop a) p)))) rows:=fun e3 k=>by
   have hbi:=bc.sub (rows:=rows) (r:=m) (off:=a) (len:=x.length-a) (ex:=e3) h2 (by omega:a+(x.length-a)≤x.length)
   rw[qY]at hbi
   exact Q9 hbi (bc.own hq _ rfl) (by rw[List.length_drop];omega) (by rw[List.length_drop];omega) k
  by_cases c:clears (x.drop a) p
  ·have hE:Ra x (a:Int) p=0:=by rw[Ra,if_neg (by rw[h0];simp),Int.toNat_natCast,if_pos c]
   have hX:NC x (a:Int) p=a9 x a p:=by rw[NC,if_pos hE];rfl
   rw[hE,hX]at hk
   have hdc:(open Classical in decide (clears (x.drop a) p))=true:=by classical exact decide_eq_true c
   rw[hdc]at kc
   simp only[↓aj,ak,simprocAttr,aa,Gp,MS,kw,kc,h1,hq,aC,lp,f1,f2]
   refine Eq.mpr (AE (l:=x) h2 (by omega)) ?_
   rw[show min p.length (x.length-a)=p.length by omega,List.take_length]
   simp only[↓aj,ak,simprocAttr,aa]
   exact hk
  ·have hE:Ra x (a:Int) p=14:=by rw[Ra,if_neg (by rw[h0];simp),Int.toNat_natCast,if_neg c]
   have hX:NC x (a:Int) p=x:=by rw[NC,if_neg (by rw[hE];decide)]
   rw[hE,hX,tA h2]at hk
   have hdc:(open Classical in decide (clears (x.drop a) p))=false:=by classical exact decide_eq_false c
   rw[hdc]at kc
   simp only[↓aj,ak,simprocAttr,aa,Gp,MS,kw,kc,h1,hq,aC,lp,f1,f2]
   exact hk
 ·have hE:Ra x a p=ky (some (x,false)) a p.length:=by rw[Ra,if_pos h0]
  have hX:NC x a p=x:=by rw[NC,if_neg (by rw[hE];exact h0)]
  rw[hE,hX,tA h2]at hk
  have Aq:(ky (some (x,false)) a p.length=0)=False:=eq_false h0
  simp only[↓aj,ak,simprocAttr,aa,Gp,kw,Aq,decide_false]
  exact hk
def tuE(x:List (BitVec 8))(a:Int):Int:=ky (some (x,false)) a 1
def tuX(x:List (BitVec 8))(a:Int)(b:BitVec 8):List (BitVec 8):=if tuE x a=0 then x.set a.toNat (x.getD a.toNat 0#8^^^b)else x
theorem aal(x:List (BitVec 8))(a:Int)(b:BitVec 8):(tuX x a b).length=x.length:=by
 unfold tuX;split<;>simp
theorem turn_run{rows:Rows}{r m:Nat}{x:List (BitVec 8)}(h:fG rows r m x)(hx:x.length≤1048576)(a:Int)(b:BitVec 8){K:D→Rows→Prop}
  (hk:K (.raw (it (tuE x a))) (rows.set m (some ⟨L8,bs (tuX x a b)⟩))):aR CF 3 cb ca [.ptr SF r [0],.raw (it a),.raw (u8 b)] rows K:=by
 obtain⟨e,hin⟩:=h.to
 have kw:=fun k=>Q8 hin hx a 1 k
 have hee:ky (some (x,e)) a 1=tuE x a:=rfl
 obtain⟨⟨e2,h1⟩,h2⟩:=h
 simp only[lQ]
 unfold ca cb
 rw[hee]at kw
 by_cases h0:tuE x a=0
 ·obtain⟨b1,b2,b3,b4⟩:=Kg (e:=false) h0
  obtain⟨a,rfl⟩:=Int.eq_ofNat_of_zero_le b1
  have hX:tuX x (a:Int) b=x.set a (x.getD a 0#8^^^b):=by rw[tuX,if_pos h0];rfl
  rw[hX,h0]at hk
  rw[h0]at kw
  have f1:((0:Int)≤(a:Int))=True:=eq_true (by omega)
  have f2:((a:Int)<(x.length:Int))=True:=eq_true (by omega)
  have g:(bs x)[a]?=some (.raw (u8 (x.getD a 0#8))):=mJ (by omega)
  simp only[↓aj,ak,simprocAttr,aa,Gp,kw,h1,h2,f1,f2,g,OS]
  exact hk
 ·have hX:tuX x a b=x:=by rw[tuX,if_neg h0]
  rw[hX,tA h2]at hk
  have Aq:(tuE x a=0)=False:=eq_false h0
  simp only[↓aj,ak,simprocAttr,aa,Gp,kw,Aq,decide_false]
  exact hk
def Yo(x:List (BitVec 8))(i:Int):Int:=uC (some (x,false)) i
def teV(b w k:BitVec 8):BitVec 8:=b&&&~~~k|||w&&&k
def KP(x:List (BitVec 8))(i:Nat)(w k:List (BitVec 8)):Nat→List (BitVec 8)
 |0=>x
 |j+1=>(KP x i w k j).set (256*i+j) (teV ((KP x i w k j).getD (256*i+j) 0#8) (w.getD j 0#8) (k.getD j 0#8))
theorem Ee(x:List (BitVec 8))(i:Nat)(w k:List (BitVec 8)):∀j,(KP x i w k j).length=x.length
 |0=>rfl
 |j+1=>by rw[KP,List.length_set];exact Ee x i w k j
def MU(w k:List (BitVec 8)):Nat:=min (min w.length k.length) 256
def Vb(x:List (BitVec 8))(i:Int)(w k:List (BitVec 8)):List (BitVec 8):=if Yo x i=0 then KP x i.toNat w k (MU w k)else x
theorem Rb(x:List (BitVec 8))(i:Int)(w k:List (BitVec 8)):(Vb x i w k).length=x.length:=by
 unfold Vb;split
 ·exact Ee _ _ _ _ _
 ·rfl
theorem Yp{rows:Rows}{r m q1 q2:Nat}{x w k:List (BitVec 8)}{Pj Jk:Bool}(h:fG rows r m x)(hx:x.length≤1048576)(Sw:live rows q1=some ⟨L8,bs w⟩)(N5:live rows q2=some ⟨L8,bs k⟩)(n1:m≠q1)(n2:m≠q2)(hw:w.length≤1048576)(Nz:k.length≤1048576)(i:Int){K:D→Rows→Prop}
  (hk:K (.raw (it (Yo x i))) (rows.set m (some ⟨L8,bs (Vb x i w k)⟩))):aR CF 4 cT cS [.ptr SF r [0],.raw (it i),.sl L8 q1 [] 0 w.length Pj,.sl L8 q2 [] 0 k.length Jk] rows K:=by
 obtain⟨e,hin⟩:=h.to
 have kw:=fun k=>Yf hin hx i k
 have hee:uC (some (x,e)) i=Yo x i:=rfl
 have hrm:=h.ne
 obtain⟨⟨e2,h1⟩,h2⟩:=h
 simp only[lQ]
 unfold cS cT
 rw[hee]at kw
 by_cases h0:Yo x i=0
 ·obtain⟨b1,b2⟩:=Yg (e:=false) h0
  obtain⟨i,rfl⟩:=Int.eq_ofNat_of_zero_le b1
  have hX:Vb x (i:Int) w k=KP x i w k (MU w k):=by rw[Vb,if_pos h0];rfl
  rw[hX,h0]at hk
  rw[h0]at kw
  have w1:wz (256*(i:Int))=((256*i:Nat):Int):=by rw[bf (by omega)];omega
  have f0:min (min (w.length:Int) (k.length:Int)) 256=((MU w k:Nat):Int):=by unfold MU;omega
  have hM:MU w k≤w.length∧MU w k≤k.length∧MU w k≤256:=by unfold MU;omega
  simp only[↓aj,ak,simprocAttr,aa,Ym,kw,f0]
  refine bB (MU w k) (fun j env rs=>has env [(23,.raw (it (j:Int))),(22,.raw (it ((MU w k:Nat):Int))),(0,.ptr SF r [0]),(1,.raw (it (i:Int))),(2,.sl L8 q1 [] 0 w.length Pj),(3,.sl L8 q2 [] 0 k.length Jk)]∧rs=rows.set m (some ⟨L8,bs (KP x i w k j)⟩)) ?_ ?_ ⟨?_,(tA h2).symm⟩
  ·rintro j hj env rs ⟨hh,rfl⟩ R hR
   simp only[has]at hh
   obtain⟨h23,h22,g0,g1,g2,g3,-⟩:=hh
   have e0:((j:Int)<((MU w k:Nat):Int))=True:=eq_true (by omega)
   have e1:=cE j (by omega)
   have b0:∀n:Nat,((0:Int)≤(n:Int))=True:=fun n=>eq_true (by omega)
   have w2:wz (((256*i:Nat):Int)+(j:Int))=((256*i+j:Nat):Int):=by rw[bf (by omega)];omega
   have l1:=cK (y:=⟨L8,bs (KP x i w k j)⟩) h1 hrm.symm
   have l2:=aG (y:=⟨L8,bs (KP x i w k j)⟩) h2
   have l3:=cK (y:=⟨L8,bs (KP x i w k j)⟩) Sw n1
   have l4:=cK (y:=⟨L8,bs (KP x i w k j)⟩) N5 n2
   have hl:=Ee x i w k j
   have c1:(((256*i+j:Nat):Int)<(x.length:Int))=True:=eq_true (by omega)
   have c2:((j:Int)<(w.length:Int))=True:=eq_true (by omega)
   have c3:((j:Int)<(k.length:Int))=True:=eq_true (by omega)
   have t1:(bs (KP x i w k j))[256*i+j]?=some (.raw (u8 ((KP x i w k j).getD (256*i+j) 0#8))):=mJ (by omega)
   have t2:(bs w)[j]?=some (.raw (u8 (w.getD j 0#8))):=mJ (by omega)
   have t3:(bs k)[j]?=some (.raw (u8 (k.getD j 0#8))):=mJ (by omega)
   have hv:(KP x i w k j).set (256*i+j) ((KP x i w k j).getD (256*i+j) 0#8&&&~~~k.getD j 0#8|||w.getD j 0#8&&&k.getD j 0#8)=KP x i w k (j+1):=rfl
   have Lb:∀a b:Option Row,(rows.set m a).set m b=rows.set m b:=fun a b=>List.set_set ..
   simp only[↓aj,ak,simprocAttr,aa,h23,h22,g0,g1,g2,g3,e0,e1,b0,w1,w2,l1,l2,l3,l4,c1,c2,c3,t1,t2,t3,OS,hv,Lb,decide_true]
   exact hR _ _ ⟨by simp only[has,↓aj,ak,simprocAttr,aa,h22,g0,g1,g2,g3],rfl⟩
  ·rintro env rs ⟨hh,rfl⟩ R
   simp only[has]at hh
   obtain⟨h23,h22,g0,g1,g2,g3,-⟩:=hh
   have e0:(((MU w k:Nat):Int)<((MU w k:Nat):Int))=False:=eq_false (by omega)
   simp only[↓aj,ak,simprocAttr,aa,h23,h22,g0,g1,g2,g3,e0,decide_false]
   exact hk
  ·simp only[has,↓aj,ak,simprocAttr,aa]
 ·have hX:Vb x i w k=x:=by rw[Vb,if_neg h0]
  rw[hX,tA h2]at hk
  have Aq:(Yo x i=0)=False:=eq_false h0
  simp only[↓aj,ak,simprocAttr,aa,Ym,kw,Aq,decide_false]
  exact hk
theorem Yq{rows:Rows}(n:Nat)(hn:n≤1024){K:D→Rows→Prop}
  (hk:K (.cA [.ptr SF (rows.length+2) [0],.raw (it 0)]) (rows++[some ⟨L8,[.raw (u8 255#8)]⟩,some ⟨L8,bs (List.replicate (256*n) 255#8)⟩,some ⟨SF,[.agg SF [.sl L8 (rows.length+1) [] 0 (256*n) false]]⟩])):aR CF 1 lj lh [.raw (it (n:Int))] rows K:=by
 have e1:((n:Int)<0)=False:=eq_false (by omega)
 have e2:((1024:Int)<(n:Int))=False:=eq_false (by omega)
 have w1:wz (256*(n:Int))=((256*n:Nat):Int):=by rw[bf (by omega)];omega
 obtain⟨z,hz⟩:∃z,z=List.replicate (256*n) 255#8:=⟨_,rfl⟩
 have kr:∀k,aJ oB (rows++[some ⟨L8,[.raw (u8 255#8)]⟩]) k [.sl L8 rows.length [] 0 1 true,.raw (it ((256*n:Nat):Int))]=k (.sl L8 (rows.length+1) [] 0 (256*n) false) (rows++[some ⟨L8,[.raw (u8 255#8)]⟩,some ⟨L8,bs z⟩]):=fun k=>by
  rw[hz]
  have:=Kf (rows:=rows++[some ⟨L8,[.raw (u8 255#8)]⟩]) (d:= .sl L8 rows.length [] 0 1 true) (b:=255#8) (bc.own (l:=[255#8]) (by rw[b6];rfl) _ rfl) (256*n) (by omega) k
  simp only[List.length_append,List.length_cons,List.length_nil,Nat.zero_add,List.append_assoc,List.cons_append,List.nil_append]at this
  exact this
 rw[←hz]at hk
 simp only[lQ]
 unfold lh lj
 simp only[↓aj,ak,simprocAttr,aa,aX,Yn,e1,e2,w1,kr,decide_false]
 exact hk
theorem wr_ok{x p:List (BitVec 8)}{a:Nat}(h:a+p.length≤x.length)(hc:clears (x.drop a) p):Ra x (a:Int) p=0∧NC x (a:Int) p=a9 x a p:=by
 have h0:ky (some (x,false)) (a:Int) p.length=0:=by
  simp only[ky];rw[if_neg (by omega)]
 have hE:Ra x (a:Int) p=0:=by rw[Ra,if_neg (by rw[h0];simp),Int.toNat_natCast,if_pos hc]
 exact⟨hE,by rw[NC,if_pos hE];rfl⟩
def Ki(a b:List (BitVec 8)):Bool:=(List.range b.length).all fun i=>decide (b.getD i 0#8&&&~~~a.getD i 0#8=0#8)
theorem Ps(a b:List (BitVec 8)):clears a b↔Ki a b=true:=by
 simp only[clears,Ye,Ki,List.all_eq_true,List.mem_range,decide_eq_true_eq]
theorem fG.new{rows:Rows}{n:Nat}{z:List (BitVec 8)}(hz:z=List.replicate (256*n) 255#8):fG (rows++[some ⟨L8,[.raw (u8 255#8)]⟩,some ⟨L8,bs z⟩,some ⟨SF,[.agg SF [.sl L8 (rows.length+1) [] 0 (256*n) false]]⟩]) (rows.length+2) (rows.length+1) z:=by
 refine⟨⟨false,?_⟩,?_⟩
 ·rw[cD,hz,List.length_replicate];rfl
 ·rw[cD];rfl
structure Rc (rows ab:Rows) (r m:Nat) (x:List (BitVec 8)):Prop where
 fl:fG ab r m x
 frame:∀q row,live rows q=some row→q≠m→live ab q=some row
structure Made (rows ab:Rows) (r m:Nat) (x:List (BitVec 8)):Prop where
 fl:fG ab r m x
 frame:∀q row,live rows q=some row→live ab q=some row
 hr:rows.length≤r
 hm:rows.length≤m
theorem fG.lt{rows:Rows}{r m:Nat}{x:List (BitVec 8)}(h:fG rows r m x):r<rows.length∧m<rows.length:=by
 obtain⟨⟨ex,h1⟩,h2⟩:=h
 exact⟨bn h1,bn h2⟩
theorem fG.keep{rows ab:Rows}{r m r2 m2:Nat}{x y:List (BitVec 8)}(h:fG rows r m x)(U:Rc rows ab r2 m2 y)(h1:r≠m2)(h2:m≠m2):fG ab r m x:=by
 obtain⟨⟨ex,g1⟩,g2⟩:=h
 exact⟨⟨ex,U.frame _ _ g1 h1⟩,U.frame _ _ g2 h2⟩
theorem MV{rows:Rows}{r m:Nat}{x y:List (BitVec 8)}(h:fG rows r m x)(hy:y.length=x.length):Rc rows (rows.set m (some ⟨L8,bs y⟩)) r m y:=
 ⟨h.sE hy,fun q row hq hn=>cK hq hn.symm⟩
theorem Yr{rows:Rows}{r m q:Nat}{x p:List (BitVec 8)}{ex:Bool}(h:fG rows r m x)(hq:live rows q=some ⟨L8,bs p⟩)(hx:x.length≤1048576)(hp:p.length≤1048576)(a:Int){K:D→Rows→Prop}
  (hk:∀ab,Rc rows ab r m (NC x a p)→K (.raw (it (Ra x a p))) ab):aR CF 3 dB dA [.ptr SF r [0],.raw (it a),.sl L8 q [] 0 p.length ex] rows K:=
 Ud h hq hx hp a (hk _ (MV h (AG x a p)))
theorem turnA{rows:Rows}{r m:Nat}{x:List (BitVec 8)}(h:fG rows r m x)(hx:x.length≤1048576)(a:Int)(b:BitVec 8){K:D→Rows→Prop}
  (hk:∀ab,Rc rows ab r m (tuX x a b)→K (.raw (it (tuE x a))) ab):aR CF 3 cb ca [.ptr SF r [0],.raw (it a),.raw (u8 b)] rows K:=
 turn_run h hx a b (hk _ (MV h (aal x a b)))
theorem tearA{rows:Rows}{r m q1 q2:Nat}{x w k:List (BitVec 8)}{Pj Jk:Bool}(h:fG rows r m x)(hx:x.length≤1048576)(Sw:live rows q1=some ⟨L8,bs w⟩)(N5:live rows q2=some ⟨L8,bs k⟩)(n1:m≠q1)(n2:m≠q2)(hw:w.length≤1048576)(Nz:k.length≤1048576)(i:Int){K:D→Rows→Prop}
  (hk:∀ab,Rc rows ab r m (Vb x i w k)→K (.raw (it (Yo x i))) ab):aR CF 4 cT cS [.ptr SF r [0],.raw (it i),.sl L8 q1 [] 0 w.length Pj,.sl L8 q2 [] 0 k.length Jk] rows K:=
 Yp h hx Sw N5 n1 n2 hw Nz i (hk _ (MV h (Rb x i w k)))
theorem Ys(n i:Nat)(h:i<n):(List.replicate n 255#8).getD i 0#8=255#8:=by simp[List.getD,h]
theorem set_get(x:List (BitVec 8))(k i:Nat)(b:BitVec 8)(hk:k<x.length):(x.set k b).getD i 0#8=if i=k then b else x.getD i 0#8:=by
 by_cases h:i=k
 ·subst h;simp[List.getD,hk]
 ·rw[if_neg h]
  simp[List.getD,List.getElem?_set_ne (fun e=>h e.symm)]
theorem Kj(x:List (BitVec 8))(a n i:Nat)(h:i<n):(sub x a n).getD i 0#8=x.getD (a+i) 0#8:=by
 simp[sub,List.getD,List.getElem?_take,h]
theorem Pt(n:Nat)(p:List (BitVec 8))(h:p.length≤n):clears (List.replicate n 255#8) p:=by
 intro i hi
 unfold Ye
 rw[Ys _ _ (by omega)]
 have:∀b:BitVec 8,b&&&~~~255#8=0#8:=by decide+kernel
 exact this _
theorem Ef(x:List (BitVec 8))(i:Nat)(w k:List (BitVec 8)):∀j t,256*i+j≤x.length→(KP x i w k j).getD t 0#8=if 256*i≤t∧t<256*i+j then teV (x.getD t 0#8) (w.getD (t-256*i) 0#8) (k.getD (t-256*i) 0#8)else x.getD t 0#8
 |0,t,_=>by rw[if_neg (by omega)];rfl
 | j + 1, t, h => by
  have hl:=Ee x i w k j
  rw[KP,set_get _ _ _ _ (by omega),Ef x i w k j _ (by omega),Ef x i w k j t (by omega)]
  by_cases ht:t=256*i+j
  ·subst ht
   rw[if_pos rfl,if_neg (by omega),if_pos (by omega),Nat.add_sub_cancel_left]
  ·rw[if_neg ht]
   by_cases h2:256*i≤t∧t<256*i+j
   ·rw[if_pos h2,if_pos (by omega)]
   ·rw[if_neg h2,if_neg (by omega)]
theorem teV_all(b w:BitVec 8):teV b w 255#8=w:=by
 have h1:b&&&~~~255#8=0#8:=by revert b;decide+kernel
 have h2:w&&&255#8=w:=by revert w;decide+kernel
 rw[teV,h1,h2,BitVec.zero_or]
noncomputable def Yt(args:List D)(jt:D):Fn:=fun ds rows=>open Classical in if ds=args∧rows=[]then some (jt,[])else none
theorem pG{f:FuncId}{A:jx}{G:Nat→Option D}{args:List D}{jt:D}(hA:aO G P f A)(h:A args [] fun d rows=>wR rows d jt []):aO G P f (Fn.run (Yt args jt)):=by
 refine aH hA fun ds rows r hr=>?_
 unfold Yt at hr
 split at hr
 ·rename_i hh
  cases hr
  obtain⟨rfl,rfl⟩:=hh
  exact⟨rfl,h⟩
 ·cases hr
theorem kAt(args:List D)(jt:D)(h1:aN args=false)(h2:shift=shift)(rows:Rows)(k:D→Rows→Prop)(h3:shift rows.length jt=jt):aJ (Yt args jt) rows k args=k jt rows:=by
 refine(bi h1 (r:=(jt,[])) (by simp[Yt])).trans ?_
 simp[ae,h3]
theorem BT{α:Type}{x:Option α}{a:α}{k:α→Prop}(h:x=some a)(hk:k a):bd x k:=by rw[h];exact hk
abbrev Yu:D:= .raw (.string ⟨#[114,119]⟩)
abbrev sW:D:= .raw (.string ⟨#[119]⟩)
noncomputable def Rd:Fn:=Yt [Yu,.raw (u8 119#8)] (.raw (it 1))
theorem idxb_ok(C:be)(hC:aI C P):aO C.aZ P 222 (Fn.run Rd):=by
 refine pG (lZ C hC) (ag rfl ?_)
 unfold gR gS
 have e:RW ((119#8).toNat:Int) ⟨#[114,119]⟩=1:=by decide
 simp only[↓aj,ak,simprocAttr,aa]
 simp only[u8,e]
 exact .val _ rfl
noncomputable def Re:Fn:=Yt [Yu,sW] (.raw (it 1))
theorem idxs_ok(C:be)(hC:aI C P)(h1:C.fn 222=some Rd):aO C.aZ P 221 (Fn.run Re):=by
 refine pG (nV C hC) (ag rfl ?_)
 unfold iO iP
 have kI:=fun rows k=>kAt [Yu,.raw (u8 119#8)] (.raw (it 1)) rfl rfl rows k rfl
 have e1:((ByteArray.mk #[119]).toList==(ByteArray.mk #[114,119]).toList)=false:=by simp[ByteArray.toList_eq]
 have e2:(ByteArray.mk #[119]).size=1:=rfl
 have e3:(ByteArray.mk #[119]).data.toList[0]?=some 119:=rfl
 have e4:(119:UInt8).toBitVec=119#8:=rfl
 simp only[↓aj,ak,simprocAttr,aa,e1,e2,e3,e4,h1,Rd,kI,Int.toNat_zero,Int.cast_ofNat_Int,Int.natCast_one]
 exact .val _ rfl
noncomputable def Rf:Fn:=Yt [Yu,sW] (.raw (it 1))
theorem idx1_ok(C:be)(hC:aI C P)(h1:C.fn 221=some Re):aO C.aZ P 219 (Fn.run Rf):=by
 refine pG (DE C hC) (ag rfl ?_)
 unfold ue uf
 have kI:=fun rows k=>kAt [Yu,sW] (.raw (it 1)) rfl rfl rows k rfl
 simp only[↓aj,ak,simprocAttr,aa,h1,Re,kI]
 exact .val _ rfl
noncomputable def Rg:Fn:=Yt [Yu,sW] (.raw (.bool true))
theorem hasw_ok(C:be)(hC:aI C P)(h1:C.fn 219=some Rf):aO C.aZ P 215 (Fn.run Rg):=by
 refine pG (yC C hC) (ag rfl ?_)
 unfold px py
 have kI:=fun rows k=>kAt [Yu,sW] (.raw (it 1)) rfl rfl rows k rfl
 simp only[↓aj,ak,simprocAttr,aa,h1,Rf,kI]
 exact .val _ rfl
noncomputable def fMay:Fn:=Yt [.raw (it 0),.raw (it 0),.raw (it 1)] Yu
theorem may_ok(C C1:be)(hC:aI C P)(n0:C.fn 220=none)(r0:C.fU 220=some (aR C1 0 lY lX)):aO C.aZ P 216 (Fn.run fMay):=by
 refine pG (Me C hC) (ag rfl ?_)
 unfold CR CS
 have nm:mI (.mp 0)=some (.mp 0):=rfl
 simp only[↓aj,ak,simprocAttr,aa,n0,r0,lQ,lX,lY]
 refine fX 6 ?_
 simp only[↓aj,ak,simprocAttr,aa,aX]
 refine fX 6 ?_
 simp only[↓aj,ak,simprocAttr,aa,aX]
 refine fX 6 ?_
 simp only[↓aj,ak,simprocAttr,aa,aX]
 refine fX 6 ?_
 simp only[↓aj,ak,simprocAttr,aa,aX]
 refine fX 6 ?_
 simp only[↓aj,ak,simprocAttr,aa,aX,nm]
 refine BT (a:=(some (Value.agg #[.string ⟨#[114,119]⟩]):Option Value)) rfl ?_
 have ed:dV (.cons LS .nil) (.agg #[.string ⟨#[114,119]⟩])= .agg (.cons LS .nil) [Yu]:=rfl
 simp only[↓aj,ak,simprocAttr,aa,aX,ed]
 exact .val _ rfl
abbrev SAc:Sh:= .cons LI (.cons LI (.cons dk (.cons LI (.cons LB (.cons LB .nil)))))
def MW(at_:BitVec 32):D:= .agg SAc [.raw (it 0),.raw (it 0),.raw (u32 at_),.raw (it 1),.raw (.bool true),.raw (.bool false)]
theorem Kk(x y:BitVec 32)(h:MW x=MW y):x=y:=by
 unfold MW at h
 injection h with _ h
 injection h with _ h
 injection h with _ h
 injection h with h _
 injection h with h
 exact Go.Am.QA.1 h
noncomputable def Eg:Fn:=lE (b8 MW) (fun _=>true) fun _=>(.raw (.bool true),[])
theorem Ue(C:be)(hC:aI C P):aO C.aZ P 213 (Fn.run Eg):=by
 refine aH (uz C hC) fun ds rows r h=>?_
 obtain⟨d,x,rfl,rfl,hd,hp,rfl⟩:=a8 h
 cases aF hd
 refine⟨rfl,ag rfl ?_⟩
 unfold mA mB MW
 simp only[↓aj,ak,simprocAttr,aa,aX]
 exact .val _ rfl
noncomputable def Eh:Fn:=lE (b8 MW) (fun _=>true) fun _=>(sW,[])
theorem Uf(C:be)(hC:aI C P):aO C.aZ P 217 (Fn.run Eh):=by
 refine aH (uA C hC) fun ds rows r h=>?_
 obtain⟨d,x,rfl,rfl,hd,hp,rfl⟩:=a8 h
 cases aF hd
 refine⟨rfl,ag rfl ?_⟩
 unfold mC mD MW
 simp only[↓aj,ak,simprocAttr,aa,aX]
 exact .val _ rfl
abbrev SSp2:Sh:= .cons dk (.cons LI .nil)
def MX(a:BitVec 32)(n:Int):D:= .agg SSp2 [.raw (u32 a),.raw (it n)]
def Gq:D:= .agg (.ar 6 SSp2) [MX 0#32 0,MX 536870912#32 4096,MX 536875008#32 4096,MX 268435456#32 10240,MX 1073741824#32 64,MX 1610612736#32 256]
def Kl(x:BitVec 32):Bool:=decide (536870912≤x.toNat)&&decide (x.toNat<536875008)
def Km:Fn:=lE qN Kl fun x=>(.cA [.raw (it 1),.raw (it ((x.toNat-536870912:Nat):Int))],[])
theorem Yv(C:be)(hC:aI C P)(hg:C.aZ 4=some Gq):aO C.aZ P 214 (Fn.run Km):=by
 refine aH (Hl C hC) fun ds rows r h=>?_
 obtain⟨d,x,rfl,rfl,hd,hp,rfl⟩:=a8 h
 cases dL hd
 simp only[Kl,Bool.and_eq_true,decide_eq_true_eq]at hp
 refine⟨rfl,ag rfl ?_⟩
 unfold xL xM
 have e1:(0#32≤x)=True:=eq_true (by rw[BitVec.le_def];exact Nat.zero_le _)
 have e2:(536870912#32≤x)=True:=eq_true (by rw[BitVec.le_def];exact hp.1)
 have e3:(x-536870912#32).toNat=x.toNat-536870912:=by rw[BitVec.toNat_sub_of_le (by rw[BitVec.le_def];exact hp.1)];rfl
 have e4:(((x.toNat-536870912:Nat):Int)<4096)=True:=eq_true (by omega)
 have e5:(((x.toNat:Nat):Int)<0)=False:=eq_false (by omega)
 have e6:x-0#32=x:=BitVec.sub_zero x
 simp only[↓aj,ak,simprocAttr,aa,aX,hg,Gq,MX]
 refine fX 3 ?_
 simp only[↓aj,ak,simprocAttr,aa,aX,e1,e2,e3,e4,e5,e6]
 exact .val _ rfl
noncomputable def vU:Fn:=Yt [.raw (it 1)] (.cA [.raw (u32 536870912#32),.raw (it 4096)])
theorem base_ok(C:be)(hC:aI C P)(hg:C.aZ 4=some Gq):aO C.aZ P 170 (Fn.run vU):=by
 refine pG (JH C hC) (ag rfl ?_)
 unfold zX zY
 simp only[↓aj,ak,simprocAttr,aa,aX,hg,Gq,MX]
 exact .val _ rfl
noncomputable def Ei:Fn:=lE (b8 MW) Kl fun x=>(.cA [.raw (it 1),.raw (it ((x.toNat-536870912:Nat):Int)),.raw (it 0)],[])
theorem Ug(C:be)(hC:aI C P)(h1:C.fn 213=some Eg)(h2:C.fn 214=some Km)(h3:C.fn 216=some fMay)(h4:C.fn 217=some Eh)(h5:C.fn 215=some Rg):
  aO C.aZ P 204 (Fn.run Ei):=by
 refine aH (Hj C hC) fun ds rows r h=>?_
 obtain⟨d,x,rfl,rfl,hd,hp,rfl⟩:=a8 h
 cases aF hd
 refine⟨rfl,ag rfl ?_⟩
 clear h hd
 unfold xH xI
 have k1:∀rows k,aJ Eg rows k [MW x]=k (.raw (.bool true)) rows:=fun rows k=>(bi rfl (ei (bV Kk x) rfl)).trans (by simp[shift,ae])
 have k4:∀rows k,aJ Eh rows k [MW x]=k sW rows:=fun rows k=>(bi rfl (ei (bV Kk x) rfl)).trans (by simp[shift,ae])
 have k2:∀rows k,aJ Km rows k [.raw (u32 x)]=k (.cA [.raw (it 1),.raw (it ((x.toNat-536870912:Nat):Int))]) rows:=fun rows k=>(bi rfl (ei (fK x) hp)).trans (by simp[shift,bh,ae])
 have k3:=fun rows k=>kAt [.raw (it 0),.raw (it 0),.raw (it 1)] Yu rfl rfl rows k rfl
 have k5:=fun rows k=>kAt [Yu,sW] (.raw (.bool true)) rfl rfl rows k rfl
 have f0:(MW x).fits SAc=true:=rfl
 have g0:(MW x).get [0]=some (.raw (it 0)):=rfl
 have g1:(MW x).get [1]=some (.raw (it 0)):=rfl
 have g2:(MW x).get [2]=some (.raw (u32 x)):=rfl
 have g3:(MW x).get [3]=some (.raw (it 1)):=rfl
 have e1:x %1#32=0#32:=by simp
 have e2:BitVec.ofInt 32 1=1#32:=rfl
 simp only[↓aj,ak,simprocAttr,aa,aX,f0,g0,g1,g2,g3,e1,e2,h1,h2,h3,h4,h5,k1,k2,k4,fMay,k3,Rg,k5]
 exact .val _ rfl
abbrev lC:Sh:= .cons LI (.cons (.ar 8192 L8) (.cons (.ar 64 L8) (.cons .ref (.cons .ref .nil))))
def uH(st:Int)(gk:List (BitVec 8))(pt:D)(f c:Nat):D:= .agg lC [.raw (it st),.agg (.ar 8192 L8) (bs gk),pt,.ptr SF f [0],.ptr Pf c [0]]
structure WiC (C:be):Prop where
 ck:C.fn 204=some Ei
 ba:C.fn 170=some vU
theorem MY(C:be)(H:WiC C){rows:Rows}{s f c o n:Nat}{gk:List (BitVec 8)}{pt:D}(hs:live rows s=some ⟨lC,[uH 0 gk pt f c]⟩)(h:o+n≤4096)(h0:0<n){K:D→Rows→Prop}
  (hk:K (.cA [.raw (it 1),.raw (it (o:Int)),.raw (it 0)]) rows):
  aR C 5 eP eO [.ptr lC s [0],.raw (it 0),.raw (u32 (536870912#32+BitVec.ofInt 32 (o:Int))),.raw (it (n:Int)),.raw (.bool true)] rows K:=by
 refine ag rfl ?_
 unfold eO eP
 have hx:(536870912#32+BitVec.ofInt 32 (o:Int)).toNat=536870912+o:=by
  rw[BitVec.ofInt_natCast,BitVec.toNat_add,BitVec.toNat_ofNat,BitVec.toNat_ofNat];omega
 generalize 536870912#32+BitVec.ofInt 32 (o:Int)=x at*
 have k1:∀rows k,aJ Ei rows k [MW x]=k (.cA [.raw (it 1),.raw (it (o:Int)),.raw (it 0)]) rows:=fun rows k=>(bi rfl (ei (bV Kk x) (by simp[Kl,hx];omega))).trans (by simp[shift,bh,ae,hx])
 have k2:=fun rows k=>kAt [.raw (it 1)] (.cA [.raw (u32 536870912#32),.raw (it 4096)]) rfl rfl rows k rfl
 have g0:cP [uH 0 gk pt f c] [0,0]=some (.raw (it 0)):=rfl
 have e1:wz (4096-(o:Int))=4096-(o:Int):=bf (by omega)
 have e2:((4096-(o:Int))<(n:Int))=False:=eq_false (by omega)
 simp only[MW]at k1
 simp only[uH]at hs
 simp only[↓aj,ak,simprocAttr,aa,hs,H.ck,H.ba,k1,vU,k2,e1,e2]
 exact hk
structure StC (C1 C:be):Prop where
 wi:WiC C1
 n0:C.fn 190=none
 r0:C.fU 190=some (aR C1 5 eP eO)
 n1:C.fn 192=none
 r1:∃C2,C.fU 192=some (aR C2 2 hU gZ)
theorem MZ{rows:Rows}{s f c o len:Nat}{ex:Bool}{st:Int}{gk p:List (BitVec 8)}{pt:D}(hs:live rows s=some ⟨lC,[uH st gk pt f c]⟩)(hr:gk.length=8192)(h:o+len≤8192)(hp:p.length≤len){k:D→Rows→Prop}
  (hk:k (.raw (it (p.length:Int))) (rows.set s (some ⟨lC,[uH st (a9 gk o p) pt f c]⟩))):nc rows L8 (.sl L8 s [0,1] o len ex) (bs p) k:=by
 have e1:min (bs p).length len=p.length:=by rw[aC];omega
 have e2:(bs p).take p.length=bs p:=lp p
 have e3:a9 (bs gk) o (bs p)=bs (a9 gk o p):=Gm gk o p
 have hg:cP [uH st gk pt f c] [0,1]=some (.agg (.ar 8192 L8) (bs gk)):=rfl
 refine⟨rfl,BT hs ?_⟩
 rw[hg]
 refine⟨by rw[aC];omega,BT (a:=[uH st (a9 gk o p) pt f c]) ?_ ?_⟩
 ·rw[e1,e2,e3];rfl
 ·rw[e1];exact hk
theorem Uh(C C1:be)(H:StC C1 C){rows:Rows}{s f c o:Nat}{gk p:List (BitVec 8)}{d pt:D}(hs:live rows s=some ⟨lC,[uH 0 gk pt f c]⟩)(hr:gk.length=8192)(h:o+p.length≤4096)(h0:0<p.length)(hd:n9 rows L8 d=some (bs p))(yQ:dK d=some p.length){K:D→Rows→Prop}
  (hk:K (.raw (it 0)) (rows.set s (some ⟨lC,[uH 0 (a9 gk o p) pt f c]⟩))):
  aR C 4 fp fo [.ptr lC s [0],.raw (it 0),.raw (u32 (536870912#32+BitVec.ofInt 32 (o:Int))),d] rows K:=by
 refine ag rfl ?_
 unfold fo fp
 obtain⟨C2,r1⟩:=H.r1
 have e1:((p.length:Int)=0)=False:=eq_false (by omega)
 simp only[↓aj,ak,simprocAttr,aa,yQ,e1,H.n0,H.r0]
 refine MY C1 H.wi hs h h0 ?_
 simp only[↓aj,ak,simprocAttr,aa,H.n1,r1,lQ,gZ,hU]
 refine⟨by omega,by omega,BT hd ⟨fun k hk=>?_,MZ hs hr (by omega) (by omega) ?_⟩⟩
 ·rw[yQ]at hk;cases hk;rw[aC]
 ·simp only[↓aj,ak,simprocAttr,aa]
  exact hk
end iC
end Go.Am

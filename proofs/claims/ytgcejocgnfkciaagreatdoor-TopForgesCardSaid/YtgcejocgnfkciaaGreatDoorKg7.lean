import Derived.Test.YtgcejocgnfkciaaGreatDoorKg6
set_option linter.unusedSimpArgs false
set_option linter.unusedVariables false
set_option maxRecDepth 10000
namespace Go.Am
attribute [local congr] dq bW dt bX bY cB bI bZ b5 cC bu cD b6 dj
namespace jU
open Go.Am.F
def us(l:List (BitVec 32)):List D:=l.map λx=> .raw (u32 x)
theorem lZ(l:List (BitVec 32)):(us l).length=l.length:=by simp[us]
theorem ia{l:List (BitVec 32)}{i:Nat}(h:i<l.length):(us l)[i]?=some (.raw (u32 (l.getD i 0#32))):=by
 simp[us,abu,h]
theorem Bg(l:List (BitVec 32))(i:Nat)(x:BitVec 32):(us l).set i (.raw (u32 x))=us (l.set i x):=by simp[us,acr]
theorem us_inj{a b:List (BitVec 32)}(h:us a=us b):a=b:=(adi λx y hxy=>by cases(D.raw.inj hxy:u32 x=u32 y)|>BU.1;rfl).1 h
theorem TB(a b:List (BitVec 32)):us a++us b=us (a++b):=by simp[us]
theorem us_rep(n:Nat)(x:BitVec 32):List.replicate n (D.raw (u32 x))=us (List.replicate n x):=by simp[us]
theorem bs_rep(n:Nat)(x:BitVec 8):List.replicate n (D.raw (u8 x))=bs (List.replicate n x):=by simp[bs]
theorem rO{a b:List (BitVec 8)}(h:bs a=bs b):a=b:=(adi λx y hxy=>by cases(D.raw.inj hxy:u8 x=u8 y)|>u8_inj.1;rfl).1 h
def G2(l:List (BitVec 32)):D:= .agg (.ar 8 cJ) (us l)
def NS(l:List (BitVec 32)):D:= .agg (.ar 64 cJ) (us l)
def NT(l:List (BitVec 8)):D:= .agg (.ar 64 L8) (bs l)
def aO(l:List (BitVec 8)):D:= .agg (.ar 32 L8) (bs l)
theorem NU(x y:List (BitVec 32))(h:G2 x=G2 y):x=y:=by unfold G2 at h;injection h with _ h;exact us_inj h
theorem I5(x y:List (BitVec 8))(h:NT x=NT y):x=y:=by unfold NT at h;injection h with _ h;exact rO h
theorem yc(x y:List (BitVec 8))(h:aO x=aO y):x=y:=by unfold aO at h;injection h with _ h;exact rO h
def Ar(x:BitVec 32)(n:Nat):BitVec 32:=x>>>n|||x<<<(32-n)
theorem ror_add(x:BitVec 32)(n:Nat)(h0:0<n)(h1:n<32):x>>>n+x<<<(32-n)=Ar x n:=by
 refine BitVec.add_eq_or_of_and_eq_zero _ _ ?_
 apply BitVec.eq_of_getLsbD_eq
 intro i hi
 simp only[BitVec.getLsbD_and,BitVec.getLsbD_ushiftRight,BitVec.getLsbD_shiftLeft,BitVec.getLsbD_zero]
 by_cases hh:i<32-n
 ·simp[hh]
 ·have:x.getLsbD (n+i)=false:=BitVec.getLsbD_of_ge _ _ (by omega)
  simp[this]
def Qf:Fn:=tW qs tH (λ_ k=>decide (0<k)&&decide (k<32)) λx k=>(.raw (u32 (Ar x k.toNat)),[])
theorem turn_ok(C:bf)(hC:aJ C P):aN C.aX P 139 (Fn.run Qf):=by
 refine aG (NH C hC) λds rows r h=>?_
 obtain⟨d,e,x,k,rfl,rfl,hd,he,hp,rfl⟩:=cQ h
 cases dH hd
 cases bK he
 simp only[aan,aat]at hp
 obtain⟨k,rfl⟩:=aaD (by omega:0<=k)
 refine⟨rfl,ag rfl ?_⟩
 unfold Cv Cw
 have e1:((0:Int)<=(k:Int))=True:=aas (by omega)
 have e2:((0:Int)<=32-(k:Int))=True:=aas (by omega)
 have e3:wz (32-(k:Int))=32-(k:Int):=aZ (by omega)
 have e4:(32-(k:Int)).toNat=32-k:=by omega
 simp only[↓ah,aj,simprocAttr,e1,e2,e3,e4,ror_add x k (by omega) (by omega)]
 exact .val _ rfl
theorem As(rows:Rows)(k:D->Rows->Prop)(x:BitVec 32)(n:Nat)(h0:0<n)(h1:n<32):aI Qf rows k [.raw (u32 x),.raw (it n)]=k (.raw (u32 (Ar x n))) rows:=by
 refine(a9 rfl (r:=(.raw (u32 (Ar x n)),[])) ?_).trans ?_
 ·rw[Qf,gR (eO x) (lc n) (by simp;omega)];simp
 ·simp[shift,ab]
def XR:Fn:=tW qs tH (λ_ k=>decide (-32<k)&&decide (k<0)) λx k=>(.raw (u32 (Ar x (-k).toNat)),[])
theorem rot_ok(C:bf)(hC:aJ C P):aN C.aX P 203 (Fn.run XR):=by
 refine aG (tK C hC) λds rows r h=>?_
 obtain⟨d,e,x,k,rfl,rfl,hd,he,hp,rfl⟩:=cQ h
 cases dH hd
 cases bK he
 simp only[aan,aat]at hp
 obtain⟨n,hn⟩:=aaD (by omega:0≤-k)
 obtain rfl:k=-(n:Int):=by omega
 refine⟨rfl,ag rfl ?_⟩
 unfold mo mq
 have e1:BitVec.ofInt 64 (-(n:Int))&&&31#64=BitVec.ofNat 64 (32-n):=by
  have:∀m:Fin 32,0<m.val->BitVec.ofInt 64 (-(m.val:Int))&&&31#64=BitVec.ofNat 64 (32-m.val):=by decide
  exact this ⟨n,by omega⟩ (by simp;omega)
 have e2:(BitVec.ofNat 64 (32-n)).toNat=32-n:=by simp;omega
 have e3:(32#64-BitVec.ofNat 64 (32-n)).toNat=n:=by
  rw[ada];simp;omega
 simp only[↓ah,aj,simprocAttr,e1,e2,e3]
 have:x<<<(32-n)|||x>>>n=Ar x n:=by rw[Ar,BitVec.or_comm]
 rw[this]
 simp only[Int.neg_neg,aaB]
 exact .val _ rfl
theorem KY(rows:Rows)(k:D->Rows->Prop)(x:BitVec 32)(n:Nat)(h0:0<n)(h1:n<32):aI XR rows k [.raw (u32 x),.raw (it (-(n:Int)))]=k (.raw (u32 (Ar x n))) rows:=by
 refine(a9 rfl (r:=(.raw (u32 (Ar x n)),[])) ?_).trans ?_
 ·rw[XR,gR (eO x) (lc _) (by simp;omega)];simp
 ·simp[shift,ab]
def Vq:Fn:=mV dB (λa=>Nat.ble 4 a.length) λa=>(.raw (u32 (cR a)),[])
theorem word_ok(C:bf)(hC:aJ C P):aN C.aX P 212 (Fn.run Vq):=by
 refine aG (Ty C hC) λds rows r h=>?_
 obtain⟨d,a,rfl,rfl,hd,hp,rfl⟩:=a8 h
 have ha:=dR hd
 simp only[abo]at hp
 refine⟨rfl,ag rfl ?_⟩
 unfold I1 I2
 have e0:∀(k:D->Rows->Prop) rows,oH (.leaf (.int .u8)) 0 rows k d=k (.cd (.raw (u8 (a.getD 0 0#8)))) rows:=λk rows=>by have:=fX (k:=k) (rows:=rows) (n:=0) ha (by omega);simpa using this
 have e1:∀(k:D->Rows->Prop) rows,oH (.leaf (.int .u8)) 1 rows k d=k (.cd (.raw (u8 (a.getD 1 0#8)))) rows:=λk rows=>by have:=fX (k:=k) (rows:=rows) (n:=1) ha (by omega);simpa using this
 have e2:∀(k:D->Rows->Prop) rows,oH (.leaf (.int .u8)) 2 rows k d=k (.cd (.raw (u8 (a.getD 2 0#8)))) rows:=λk rows=>by have:=fX (k:=k) (rows:=rows) (n:=2) ha (by omega);simpa using this
 have e3:∀(k:D->Rows->Prop) rows,oH (.leaf (.int .u8)) 3 rows k d=k (.cd (.raw (u8 (a.getD 3 0#8)))) rows:=λk rows=>by have:=fX (k:=k) (rows:=rows) (n:=3) ha (by omega);simpa using this
 simp only[↓ah,aj,simprocAttr,e0,e1,e2,e3]
 exact .val _ rfl
theorem aU.arr{rows:Rows}{r n off len:Nat}{e:Bool}{l:List (BitVec 8)}(h:live rows r=some ⟨.ar n L8,[.agg (.ar n L8) (bs l)]⟩)(hle:off+len<=l.length):aU rows (.sl L8 r [0] off len e) ((l.drop off).take len):=by
 refine⟨⟨.cI L8 (bs ((l.drop off).take len)) e,?_,.inr ⟨e,rfl⟩⟩,λh=>by simp[aR]at h⟩
 have h2:Am.elems rows (.sl L8 r [0] off len e)=some (bs ((l.drop off).take len)):=by
  simp only[elems,h,dC]
  simp[bs,D.get]
 simp only[Am.view]
 rw[h2]
 have hl:(bs ((l.drop off).take len)).length=len:=by simp[bs];omega
 simp[Sh.pure,hl]
theorem kWord(rows:Rows)(k:D->Rows->Prop)(d:D)(a:List (BitVec 8))(h:aU rows d a)(hl:4<=a.length):aI Vq rows k [d]=k (.raw (u32 (cR a))) rows:=by
 refine(qB h (by simpa using hl) rfl).trans ?_
 simp[shift,ab]
def sg0(a:BitVec 32):BitVec 32:=Ar a 7^^^Ar a 18^^^a>>>3
def sg1(a:BitVec 32):BitVec 32:=Ar a 17^^^Ar a 19^^^a>>>10
def nxt(w:List (BitVec 32))(i:Nat):BitVec 32:=w.getD (i-16) 0#32+sg0 (w.getD (i-15) 0#32)+w.getD (i-7) 0#32+sg1 (w.getD (i-2) 0#32)
def words(n:Nat)(b:List (BitVec 8)):List (BitVec 32):=(List.range n).map λi=>cR ((b.drop (4*i)).take 4)
def wL:Nat->List (BitVec 32)->List (BitVec 32)
 |0,w=>w
 |n+1,w=>wL n w++[nxt (wL n w) (wL n w).length]
theorem yO(n:Nat)(w:List (BitVec 32)):(wL n w).length=w.length+n:=by
 induction n with
 |zero=>rfl
 |succ n ih=>simp[wL,ih];omega
theorem ei(n:Nat)(b:List (BitVec 8)):(words n b).length=n:=by simp[words]
theorem Bh(n:Nat)(b:List (BitVec 8)):words (n+1) b=words n b++[cR ((b.drop (4*n)).take 4)]:=by simp[words,abN]
def fc(b:List (BitVec 8)):List (BitVec 32):=wL 48 (words 16 b)
def fill(l:List (BitVec 32))(n:Nat):List (BitVec 32):=l++List.replicate (n-l.length) 0#32
theorem I6{l:List (BitVec 32)}{n:Nat}(h:l.length<=n):(fill l n).length=n:=by simp[fill];omega
theorem Qg{l:List (BitVec 32)}{n i:Nat}(h:i<l.length):(fill l n).getD i 0#32=l.getD i 0#32:=by
 simp[fill,List.getD,aaN h]
theorem I7{l:List (BitVec 32)}{n:Nat}(h:l.length<n)(x:BitVec 32):(fill l n).set l.length x=fill (l++[x]) n:=by
 obtain⟨k,hk⟩:∃k,n-l.length=k+1:=⟨n-l.length-1,by omega⟩
 have h2:n-(l++[x]).length=k:=by simp;omega
 rw[fill,fill,hk,h2,acP,ab6 _ _ (aaz _)]
 simp
theorem Me{l:List (BitVec 32)}{n:Nat}(h:l.length=n):fill l n=l:=by simp[fill,h]
noncomputable def G3:Fn:=mV (bx NT) (λb=>decide (b.length=64)) λb=>(NS (fc b),[])
theorem XS(C:bf)(hC:aJ C P)(hw:C.fn 212=some Vq)(hr:C.fn 203=some XR):aN C.aX P 202 (Fn.run G3):=by
 refine aG (NO C hC) λds rows r h=>?_
 obtain⟨d,b,rfl,rfl,hd,hp,rfl⟩:=a8 h
 cases aE hd
 simp only[aat]at hp
 refine⟨rfl,ag rfl ?_⟩
 clear h hd
 unfold Db Dc
 have hb:(bs b).length=64:=by rw[aB,hp]
 simp only[NT,↓ah,aj,simprocAttr]
 refine bg 16 (λi env rows=>has env [(10,.raw (it (i:Int))),(1,.ptr (.ar 64 L8) 0 [0]),(2,.ptr (.ar 64 cJ) 1 [0]),(3,.ptr (.ar 64 cJ) 2 [0])]/\
  ∃z,rows=[some ⟨.ar 64 L8,[.agg (.ar 64 L8) (bs b)]⟩,some ⟨.ar 64 cJ,[z]⟩,some ⟨.ar 64 cJ,[.agg (.ar 64 cJ) (us (fill (words i b) 64))]⟩]) ?_ ?_ ⟨?_,.agg (.ar 64 cJ) (List.replicate 64 (.raw (u32 0#32))),?_⟩
 ·rintro i hi env rows ⟨hh,z,rfl⟩ R hR
  simp only[has]at hh
  obtain⟨h10,h1,h2,h3,-⟩:=hh
  have e0:((i:Int)<16)=True:=aas (by omega)
  have e1:((0:Int)<=4*(i:Int))=True:=aas (by omega)
  have e2:wz (4*(i:Int))=4*(i:Int):=aZ (by omega)
  have e3:wz (4*(i:Int)+4)=4*(i:Int)+4:=aZ (by omega)
  have e4:(4*(i:Int)<=4*(i:Int)+4)=True:=aas (by omega)
  have e5:(4*(i:Int)+4<=64)=True:=aas (by omega)
  have e6:(4*(i:Int)).toNat=4*i:=by omega
  have e7:(4*(i:Int)+4).toNat=4*i+4:=by omega
  have e8:4*i+4-4*i=4:=by omega
  have e9:((0:Int)<=(i:Int))=True:=aas (by omega)
  have e10:((i:Int)<64)=True:=aas (by omega)
  have XT:=ca i (by omega)
  simp only[↓ah,aj,simprocAttr,h10,h1,h2,h3,hw,e0,e1,e2,e3,e4,e5,e6,e7,e8,aav]
  refine Eq.mpr (kWord _ _ _ _ (aU.arr rfl (by omega)) (by rw[aau,aar];omega)) ?_
  have eg:(us (fill (words i b) 64))[i]?=some (.raw (u32 ((fill (words i b) 64).getD i 0#32))):=ia (by rw[I6 (by rw[ei];omega)];omega)
  have es:(us (fill (words i b) 64)).set i (.raw (u32 (cR ((b.drop (4*i)).take 4))))=us (fill (words (i+1) b) 64):=by
   have:=I7 (l:=words i b) (n:=64) (by rw[ei];omega) (cR ((b.drop (4*i)).take 4))
   rw[ei]at this
   rw[Bg,this,<-Bh]
  simp only[↓ah,aj,simprocAttr,h10,h1,h2,h3,e9,e10,XT,eg,es]
  exact hR _ _ ⟨by simp only[has,↓ah,aj,simprocAttr,h1,h2,h3],z,rfl⟩
 ·rintro env rows ⟨hh,z,rfl⟩ R
  simp only[has]at hh
  obtain⟨h10,h1,h2,h3,-⟩:=hh
  simp only[↓ah,aj,simprocAttr,h10,h1,h2,h3]
  refine bg 48 (λi env rows=>has env [(5,.raw (it ((16+i:Nat):Int))),(1,.ptr (.ar 64 L8) 0 [0]),(2,.ptr (.ar 64 cJ) 1 [0]),(3,.ptr (.ar 64 cJ) 2 [0])]/\
   rows=[some ⟨.ar 64 L8,[.agg (.ar 64 L8) (bs b)]⟩,some ⟨.ar 64 cJ,[z]⟩,some ⟨.ar 64 cJ,[.agg (.ar 64 cJ) (us (fill (wL i (words 16 b)) 64))]⟩]) ?_ ?_ ⟨?_,rfl⟩
  ·rintro i hi env rows ⟨hh,rfl⟩ R hR
   simp only[has]at hh
   obtain⟨h5,h1,h2,h3,-⟩:=hh
   have hlen:(wL i (words 16 b)).length=16+i:=by rw[yO,ei]
   have my:(fill (wL i (words 16 b)) 64).length=64:=I6 (by omega)
   have e0:(((16+i:Nat):Int)<64)=True:=aas (by omega)
   have a1:wz (((16+i:Nat):Int)-15)=((16+i-15:Nat):Int):=by rw[aZ (by omega)];omega
   have a2:wz (((16+i:Nat):Int)-2)=((16+i-2:Nat):Int):=by rw[aZ (by omega)];omega
   have a3:wz (((16+i:Nat):Int)-16)=((16+i-16:Nat):Int):=by rw[aZ (by omega)];omega
   have a4:wz (((16+i:Nat):Int)-7)=((16+i-7:Nat):Int):=by rw[aZ (by omega)];omega
   have b1:∀j:Nat,((0:Int)<=(j:Int))=True:=λj=>aas (by omega)
   have c1:(((16+i-15:Nat):Int)<64)=True:=aas (by omega)
   have c2:(((16+i-2:Nat):Int)<64)=True:=aas (by omega)
   have c3:(((16+i-16:Nat):Int)<64)=True:=aas (by omega)
   have c4:(((16+i-7:Nat):Int)<64)=True:=aas (by omega)
   have gg:∀j,j<16+i->(us (fill (wL i (words 16 b)) 64))[j]?=some (.raw (u32 ((wL i (words 16 b)).getD j 0#32))):=λj hj=>by
    rw[ia (by omega),Qg (by omega)]
   have g1:=gg (16+i-15) (by omega)
   have g2:=gg (16+i-2) (by omega)
   have g3:=gg (16+i-16) (by omega)
   have g4:=gg (16+i-7) (by omega)
   have g5:(us (fill (wL i (words 16 b)) 64))[16+i]?=some (.raw (u32 ((fill (wL i (words 16 b)) 64).getD (16+i) 0#32))):=ia (by omega)
   have r1:=λrows k x=>KY rows k x 7 (by decide) (by decide)
   have r2:=λrows k x=>KY rows k x 18 (by decide) (by decide)
   have r3:=λrows k x=>KY rows k x 17 (by decide) (by decide)
   have r4:=λrows k x=>KY rows k x 19 (by decide) (by decide)
   simp only[ab1]at r1 r2 r3 r4
   have es:(us (fill (wL i (words 16 b)) 64)).set (16+i) (.raw (u32 (nxt (wL i (words 16 b)) (16+i))))=us (fill (wL (i+1) (words 16 b)) 64):=by
    have:=I7 (l:=wL i (words 16 b)) (n:=64) (by omega) (nxt (wL i (words 16 b)) (16+i))
    rw[hlen]at this
    rw[Bg,this,wL,hlen]
   have XT:wz (((16+i:Nat):Int)+1)=((16+(i+1):Nat):Int):=by rw[aZ (by omega)];omega
   have es':(us (fill (wL i (words 16 b)) 64)).set (16+i) (.raw (u32 ((wL i (words 16 b)).getD (16+i-16) 0#32+(Ar ((wL i (words 16 b)).getD (16+i-15) 0#32) 7^^^Ar ((wL i (words 16 b)).getD (16+i-15) 0#32) 18^^^(wL i (words 16 b)).getD (16+i-15) 0#32>>>3)+(wL i (words 16 b)).getD (16+i-7) 0#32+(Ar ((wL i (words 16 b)).getD (16+i-2) 0#32) 17^^^Ar ((wL i (words 16 b)).getD (16+i-2) 0#32) 19^^^(wL i (words 16 b)).getD (16+i-2) 0#32>>>10))))=us (fill (wL (i+1) (words 16 b)) 64):=es
   simp only[↓ah,aj,simprocAttr,h5,h1,h2,h3,hr,e0,a1,a2,a3,a4,b1,c1,c2,c3,c4,g1,g2,g3,g4,g5,r1,r2,r3,r4,XT,es',aav]
   exact hR _ _ ⟨by simp only[has,↓ah,aj,simprocAttr,h1,h2,h3],rfl⟩
  ·rintro env rows ⟨hh,rfl⟩ R
   simp only[has]at hh
   obtain⟨h5,h1,h2,h3,-⟩:=hh
   simp only[↓ah,aj,simprocAttr,h5,h1,h2,h3]
   rw[Me (by rw[yO,ei])]
   exact .val _ rfl
  ·have:fill (words 16 b) 64=fill (wL 0 (words 16 b)) 64:=rfl
   simp only[has,↓ah,aj,simprocAttr,h1,h2,h3]
 ·simp only[has,↓ah,aj,simprocAttr]
 ·rw[us_rep];rfl
def NV:List (BitVec 32):=[0x6a09e667#32,0xbb67ae85#32,0x3c6ef372#32,0xa54ff53a#32,0x510e527f#32,0x9b05688c#32,0x1f83d9ab#32,0x5be0cd19#32]
def gY:List (BitVec 32):=[
 0x428a2f98#32,0x71374491#32,0xb5c0fbcf#32,0xe9b5dba5#32,0x3956c25b#32,0x59f111f1#32,0x923f82a4#32,0xab1c5ed5#32,
 0xd807aa98#32,0x12835b01#32,0x243185be#32,0x550c7dc3#32,0x72be5d74#32,0x80deb1fe#32,0x9bdc06a7#32,0xc19bf174#32,
 0xe49b69c1#32,0xefbe4786#32,0x0fc19dc6#32,0x240ca1cc#32,0x2de92c6f#32,0x4a7484aa#32,0x5cb0a9dc#32,0x76f988da#32,
 0x983e5152#32,0xa831c66d#32,0xb00327c8#32,0xbf597fc7#32,0xc6e00bf3#32,0xd5a79147#32,0x06ca6351#32,0x14292967#32,
 0x27b70a85#32,0x2e1b2138#32,0x4d2c6dfc#32,0x53380d13#32,0x650a7354#32,0x766a0abb#32,0x81c2c92e#32,0x92722c85#32,
 0xa2bfe8a1#32,0xa81a664b#32,0xc24b8b70#32,0xc76c51a3#32,0xd192e819#32,0xd6990624#32,0xf40e3585#32,0x106aa070#32,
 0x19a4c116#32,0x1e376c08#32,0x2748774c#32,0x34b0bcb5#32,0x391c0cb3#32,0x4ed8aa4a#32,0x5b9cca4f#32,0x682e6ff3#32,
 0x748f82ee#32,0x78a5636f#32,0x84c87814#32,0x8cc70208#32,0x90befffa#32,0xa4506ceb#32,0xbef9a3f7#32,0xc67178f2#32]
def rnd(v:List (BitVec 32))(k w:BitVec 32):List (BitVec 32):=
 match v with
 |[a,b,c,d,e,f,g,h]=>
  let t:=h+(Ar e 6^^^Ar e 11^^^Ar e 25)+(e&&&f^^^~~~e&&&g)+k+w
  [t+(Ar a 2^^^Ar a 13^^^Ar a 22)+(a&&&b^^^a&&&c^^^b&&&c),a,b,c,d+t,e,f,g]
 | _=>v
def oN(ws:List (BitVec 32)):Nat->List (BitVec 32)->List (BitVec 32)
 |0,v=>v
 |n+1,v=>rnd (oN ws n v) (gY.getD n 0#32) (ws.getD n 0#32)
theorem eight{v:List (BitVec 32)}(h:v.length=8):∃a b c d e f g i,v=[a,b,c,d,e,f,g,i]:=by
 match v,h with
 |[a,b,c,d,e,f,g,i],_=>exact⟨a,b,c,d,e,f,g,i,rfl⟩
theorem rnd_len(v:List (BitVec 32))(k w:BitVec 32)(h:v.length=8):(rnd v k w).length=8:=by
 obtain⟨a,b,c,d,e,f,g,i,rfl⟩:=eight h;rfl
theorem Df(ws:List (BitVec 32))(n:Nat)(v:List (BitVec 32))(h:v.length=8):(oN ws n v).length=8:=by
 induction n with
 |zero=>exact h
 |succ n ih=>exact rnd_len _ _ _ ih
def Mf(x y:List (BitVec 32))(i:Nat):List (BitVec 32):=(List.zipWith (· + ·) x y).take i++x.drop i
theorem Vr(x y:List (BitVec 32))(i:Nat)(h:x.length=y.length)(hi:i<=x.length):(Mf x y i).length=x.length:=by simp[Mf];omega
theorem Vs(x y:List (BitVec 32))(i:Nat)(h:x.length=y.length)(hi:i<x.length):(Mf x y i).getD i 0#32=x.getD i 0#32:=by
 have:((List.zipWith (· + ·) x y).take i).length=i:=by simp;omega
 simp only[Mf,List.getD]
 rw[aaO (by omega),this,acq,abk]
 rfl
theorem Vt(x y:List (BitVec 32))(i:Nat)(h:x.length=y.length)(hi:i<x.length):(Mf x y i).set i (x.getD i 0#32+y.getD i 0#32)=Mf x y (i+1):=by
 have hl:((List.zipWith (· + ·) x y).take i).length=i:=by simp;omega
 have e1:x.drop i=x.getD i 0#32::x.drop (i+1):=by
  rw[abD hi];simp[List.getD,hi]
 have e2:(List.zipWith (· + ·) x y).take (i+1)=(List.zipWith (· + ·) x y).take i++[x.getD i 0#32+y.getD i 0#32]:=by
  have hz:i<(List.zipWith (· + ·) x y).length:=by simp;omega
  rw[aaR hz]
  have hy:i<y.length:=by omega
  simp[List.getD,hi,hy]
 rw[Mf,Mf,e2,ab6 _ _ (by omega),hl,acq,e1]
 simp
theorem Vu(x y:List (BitVec 32))(h:x.length=y.length):Mf x y x.length=List.zipWith (· + ·) x y:=by
 rw[Mf,List.drop_length,aaL,aaq (by simp;omega)]
def l5(h:List (BitVec 32))(b:List (BitVec 8)):List (BitVec 32):=List.zipWith (· + ·) h (oN (fc b) 64 h)
theorem I8(b:List (BitVec 8)):(fc b).length=64:=by rw[fc,yO,ei]
theorem Mg(h:List (BitVec 32))(b:List (BitVec 8))(hh:h.length=8):(l5 h b).length=8:=by simp[l5,hh,Df]
noncomputable def NW:Fn:=tW (bx G2) (bx NT) (λh b=>decide (h.length=8)&&decide (b.length=64)) λh b=>(G2 (l5 h b),[])
theorem kSpread(rows:Rows)(k:D->Rows->Prop)(b:List (BitVec 8))(h:b.length=64):aI G3 rows k [.agg (.ar 64 L8) (bs b)]=k (.agg (.ar 64 cJ) (us (fc b))) rows:=by
 refine(a9 (by simp[aW,aR,Sh.pure]) (r:=(NS (fc b),[])) ?_).trans ?_
 ·exact eK (br I5 b) (by simp[h])
 ·simp[shift,ab,NS,Sh.pure]
theorem press_ok(C:bf)(hC:aJ C P)(hg:C.aX 5=some (NS gY))(hs:C.fn 202=some G3)(hr:C.fn 203=some XR):aN C.aX P 184 (Fn.run NW):=by
 refine aG (P6 C hC) λds rows r h=>?_
 obtain⟨d,e,h0,b,rfl,rfl,hd,he,hp,rfl⟩:=cQ h
 cases aE hd
 cases aE he
 simp only[aan,aat]at hp
 obtain⟨hp,hb⟩:=hp
 refine⟨rfl,ag rfl ?_⟩
 clear h hd he
 unfold FY FZ
 simp only[G2,NT,↓ah,aj,simprocAttr,hs]
 refine Eq.mpr (kSpread _ _ _ hb) ?_
 simp only[↓ah,aj,simprocAttr]
 refine bg 64 (λi env rows=>has env [(17,.raw (it (i:Int))),(16,.agg (.ar 64 cJ) (us (fc b))),(2,.ptr (.ar 8 cJ) 0 [0]),(4,.ptr (.ar 8 cJ) 2 [0]),(5,.ptr (.ar 8 cJ) 3 [0])]/\
  ∃z y,rows=[some ⟨.ar 8 cJ,[.agg (.ar 8 cJ) (us h0)]⟩,some y,some ⟨.ar 8 cJ,[z]⟩,some ⟨.ar 8 cJ,[.agg (.ar 8 cJ) (us (oN (fc b) i h0))]⟩]) ?_ ?_ ⟨?_,_,_,rfl⟩
 ·rintro i hi env rows ⟨hh,z,y,rfl⟩ R hR
  simp only[has]at hh
  obtain⟨h17,h16,h2,h4,h5,-⟩:=hh
  obtain⟨va,vb,vc,vd,ve,vf,vg,vh,hv⟩:=eight (Df (fc b) i h0 hp)
  have e0:((i:Int)<64)=True:=aas (by omega)
  have e1:((0:Int)<=(i:Int))=True:=aas (by omega)
  have e2:=ca i (by omega)
  have g1:(us (fc b))[i]?=some (.raw (u32 ((fc b).getD i 0#32))):=ia (by rw[I8];omega)
  have g2:(us gY)[i]?=some (.raw (u32 (gY.getD i 0#32))):=ia (by simp[gY];omega)
  have r1:=λrows k x=>KY rows k x 6 (by decide) (by decide)
  have r2:=λrows k x=>KY rows k x 11 (by decide) (by decide)
  have r3:=λrows k x=>KY rows k x 25 (by decide) (by decide)
  have r4:=λrows k x=>KY rows k x 2 (by decide) (by decide)
  have r5:=λrows k x=>KY rows k x 13 (by decide) (by decide)
  have r6:=λrows k x=>KY rows k x 22 (by decide) (by decide)
  simp only[ab1]at r1 r2 r3 r4 r5 r6
  have hn:us (oN (fc b) (i+1) h0)=us (rnd [va,vb,vc,vd,ve,vf,vg,vh] (gY.getD i 0#32) ((fc b).getD i 0#32)):=by rw[oN,hv]
  rw[hv]
  have hu:us [va,vb,vc,vd,ve,vf,vg,vh]=[.raw (u32 va),.raw (u32 vb),.raw (u32 vc),.raw (u32 vd),.raw (u32 ve),.raw (u32 vf),.raw (u32 vg),.raw (u32 vh)]:=rfl
  simp only[↓ah,aj,simprocAttr,NS,h17,h16,h2,h4,h5,hr,hg,e0,e1,e2,g1,g2,r1,r2,r3,r4,r5,r6,hu,aav]
  exact hR _ _ ⟨by simp only[has,↓ah,aj,simprocAttr,h16,h2,h4,h5],z,y,by rw[hn];rfl⟩
 ·rintro env rows ⟨hh,z,y,rfl⟩ R
  simp only[has]at hh
  obtain⟨h17,h16,h2,h4,h5,-⟩:=hh
  simp only[↓ah,aj,simprocAttr,h17,h16,h2,h4,h5]
  have hv:=Df (fc b) 64 h0 hp
  have hq:h0.length=(oN (fc b) 64 h0).length:=by omega
  refine bg 8 (λi env rows=>has env [(107,.raw (it (i:Int))),(2,.ptr (.ar 8 cJ) 0 [0]),(4,.ptr (.ar 8 cJ) 2 [0]),(5,.ptr (.ar 8 cJ) 3 [0])]/\
   rows=[some ⟨.ar 8 cJ,[.agg (.ar 8 cJ) (us (Mf h0 (oN (fc b) 64 h0) i))]⟩,some y,some ⟨.ar 8 cJ,[z]⟩,some ⟨.ar 8 cJ,[.agg (.ar 8 cJ) (us (oN (fc b) 64 h0))]⟩]) ?_ ?_ ⟨?_,by rfl⟩
  ·rintro i hi env rows ⟨hh,rfl⟩ R hR
   simp only[has]at hh
   obtain⟨h7,h2,h4,h5,-⟩:=hh
   have e0:((i:Int)<8)=True:=aas (by omega)
   have e1:((0:Int)<=(i:Int))=True:=aas (by omega)
   have e2:=ca i (by omega)
   have g1:(us (Mf h0 (oN (fc b) 64 h0) i))[i]?=some (.raw (u32 (h0.getD i 0#32))):=by
    rw[ia (by rw[Vr _ _ _ hq (by omega)];omega),Vs _ _ _ hq (by omega)]
   have g2:(us (oN (fc b) 64 h0))[i]?=some (.raw (u32 ((oN (fc b) 64 h0).getD i 0#32))):=ia (by omega)
   have es:(us (Mf h0 (oN (fc b) 64 h0) i)).set i (.raw (u32 (h0.getD i 0#32+(oN (fc b) 64 h0).getD i 0#32)))=us (Mf h0 (oN (fc b) 64 h0) (i+1)):=by
    rw[Bg,Vt _ _ _ hq (by omega)]
   simp only[↓ah,aj,simprocAttr,h7,h2,h4,h5,e0,e1,e2,g1,g2,es,aav]
   exact hR _ _ ⟨by simp only[has,↓ah,aj,simprocAttr,h2,h4,h5],rfl⟩
  ·rintro env rows ⟨hh,rfl⟩ R
   simp only[has]at hh
   obtain⟨h7,h2,h4,h5,-⟩:=hh
   simp only[↓ah,aj,simprocAttr,h7,h2,h4,h5]
   have:Mf h0 (oN (fc b) 64 h0) 8=l5 h0 b:=by rw[<-hp,Vu _ _ hq];rfl
   rw[this]
   exact .val _ rfl
  ·simp only[has,↓ah,aj,simprocAttr,h2,h4,h5]
 ·simp only[has,↓ah,aj,simprocAttr]
theorem I9(n k:Nat)(w:List (BitVec 32)):(wL (n+k) w).take (w.length+n)=wL n w:=by
 induction k with
 |zero=>rw[acQ,<-yO n w,aaV]
 |succ k ih=>rw[<-ab2,wL,ab0 (by rw[yO];omega),ih]
theorem Mh{l:List (BitVec 32)}{i n:Nat}(h:i<n):(l.take n).getD i 0#32=l.getD i 0#32:=by
 simp[List.getD,abt,h]
theorem TC{n i:Nat}(b:List (BitVec 8))(h:i<n):(words n b).getD i 0#32=cR ((b.drop (4*i)).take 4):=by
 simp[words,List.getD,h]
theorem schW_lo{b:List (BitVec 8)}{i:Nat}(h:i<16):(fc b).getD i 0#32=cR ((b.drop (4*i)).take 4):=by
 have:=I9 0 48 (words 16 b)
 rw[ei,abE,acQ]at this
 rw[<-Mh (n:=16) h,fc,this,wL,TC _ h]
theorem schW_hi{b:List (BitVec 8)}{n:Nat}(h:n<48):(fc b).getD (16+n) 0#32=nxt ((fc b).take (16+n)) (16+n):=by
 have h1:=I9 n (48-n) (words 16 b)
 have h2:=I9 (n+1) (47-n) (words 16 b)
 rw[ei,show n+(48-n)=48 by omega]at h1
 rw[ei,show n+1+(47-n)=48 by omega]at h2
 rw[<-Mh (n:=16+(n+1)) (by omega),fc,h1,h2,wL]
 have:(wL n (words 16 b)).length=16+n:=by rw[yO,ei]
 rw[this]
 simp[List.getD,aaO (by omega:(wL n (words 16 b)).length<=16+n),this]
theorem EG{l:List (BitVec 32)}{i:Nat}(h:i<l.length):l.take (i+1)=l.take i++[l.getD i 0#32]:=lg h
theorem four{v:List (BitVec 8)}(h:v.length=4):∃a b c d,v=[a,b,c,d]:=by
 match v,h with
 |[a,b,c,d],_=>exact⟨a,b,c,d,rfl⟩
def Ja:Fn
 |[],[]=>some (NS gY,[])
 | _,_=>none
theorem roots_ok(C:bf)(hC:aJ C P):aN C.aX P 140 (Fn.run Ja):=by
 refine aG (KS C hC) λds rows r h=>?_
 unfold Ja at h
 split at h
 ·cases h
  refine⟨rfl,ag rfl ?_⟩
  unfold Ad Ae
  simp only[↓ah,aj,simprocAttr]
  exact .val _ rfl
 ·cases h
theorem kRoots(rows:Rows)(k:D->Rows->Prop):aI Ja rows k []=k (.agg (.ar 64 cJ) (us gY)) rows:=by
 refine(a9 rfl (r:=(NS gY,[])) rfl).trans ?_
 simp[shift,ab,NS,Sh.pure]
theorem not_sub(x:BitVec 32):4294967295#32-x= ~~~x:=by
 apply aaG
 have:=x.isLt
 rw[ada,BitVec.toNat_not]
 simp;omega
noncomputable def Dg:Fn:=tW (bx G2) dB (λh b=>decide (h.length=8)&&decide (b.length=64)) λh b=>(G2 (l5 h b),[])
theorem zip_comm(x y:List (BitVec 32)):List.zipWith (· + ·) x y=List.zipWith (· + ·) y x:=by
 rw[List.zipWith_comm];congr 1;funext a b;exact BitVec.add_comm _ _
theorem XU(C:bf)(hC:aJ C P)(hv:C.fn 75=some vB)(ht:C.fn 139=some Qf)(hr:C.fn 140=some Ja):aN C.aX P 86 (Fn.run Dg):=by
 refine bU (KN C hC) λds rows r h=>?_
 obtain⟨d,e,h0,b,rfl,rfl,hd,he,hp,rfl⟩:=cQ h
 cases aE hd
 obtain⟨x,hx⟩:=cb he
 simp only[aan,aat]at hp
 obtain⟨hp,hb⟩:=hp
 refine⟨rfl,_,.cons (.refl _) (.cons hx .nil),ag rfl ?_⟩
 clear h hd he hx
 unfold zV zW
 simp only[G2,↓ah,aj,simprocAttr]
 have hwl:=I8 b
 refine bg 64 (λi env rows=>has env [(24,.raw (it (i:Int))),(1,.cI L8 (bs b) x),(23,.raw (it 64)),(2,.ptr (.ar 8 cJ) 0 [0]),(4,.ptr (.ar 8 cJ) 1 [0]),(5,.sl cJ 2 [] 0 64 true)]/\
  ∃z,rows=[some ⟨.ar 8 cJ,[.agg (.ar 8 cJ) (us h0)]⟩,some ⟨.ar 8 cJ,[z]⟩,some ⟨cJ,us (fill ((fc b).take i) 64)⟩]) ?_ ?_ ⟨?_,.agg (.ar 8 cJ) (List.replicate 8 (.raw (u32 0#32))),?_⟩
 ·rintro i hi env rows ⟨hh,z,rfl⟩ R hR
  simp only[has]at hh
  obtain⟨h24,h1,h23,h2,h4,h5,-⟩:=hh
  have e0:((i:Int)<64)=True:=aas (by omega)
  have XT:=ca i (by omega)
  have e9:((0:Int)<=(i:Int))=True:=aas (by omega)
  have hl:((fc b).take i).length=i:=by rw[aau];omega
  have my:(fill ((fc b).take i) 64).length=64:=I6 (by omega)
  have g5:(us (fill ((fc b).take i) 64))[i]?=some (.raw (u32 ((fill ((fc b).take i) 64).getD i 0#32))):=ia (by omega)
  have es0:(fill ((fc b).take i) 64).set i ((fc b).getD i 0#32)=fill ((fc b).take (i+1)) 64:=by
   have:=I7 (l:=(fc b).take i) (n:=64) (by omega) ((fc b).getD i 0#32)
   rw[hl]at this
   rw[this,<-EG (by omega)]
  by_cases hlo:i<16
  ·have hlo':((i:Int)<16)=True:=aas (by omega)
   have e1:((0:Int)<=4*(i:Int))=True:=aas (by omega)
   have e2:wz (4*(i:Int))=4*(i:Int):=aZ (by omega)
   have e3:wz (4*(i:Int)+4)=4*(i:Int)+4:=aZ (by omega)
   have e4:(4*(i:Int)<=4*(i:Int)+4)=True:=aas (by omega)
   have e5:(4*(i:Int)+4<=64)=True:=aas (by omega)
   have e6:(4*(i:Int)).toNat=4*i:=by omega
   have e7:(4*(i:Int)+4).toNat=4*i+4:=by omega
   have e8:4*i+4-4*i=4:=by omega
   have h4l:((b.drop (4*i)).take 4).length=4:=by rw[aau,aar];omega
   obtain⟨va,vb,vc,vd,hq⟩:=four h4l
   have kv:=λrows k e=>kVal rows k ((b.drop (4*i)).take 4) e (by omega)
   have ev:(EF ((b.drop (4*i)).take 4)).setWidth 32=(fc b).getD i 0#32:=by rw[schW_lo hlo,hq,Vp]
   have ee:((4*i+4:Nat):Int)=4*(i:Int)+4:=by omega
   simp only[↓ah,aj,simprocAttr,h24,h1,h23,h2,h4,h5,hv,hlo',e0,e1,e2,e3,e4,e5,e6,e7,e8,e9,XT,aB,hb,eP,dO,kv,ev,g5,Bg,es0,aav,lZ,my,ab1]
   exact hR _ _ ⟨by simp only[has,↓ah,aj,simprocAttr,h1,h23,h2,h4,h5],z,rfl⟩
  ·obtain⟨j,rfl⟩:∃j,i=16+j:=⟨i-16,by omega⟩
   have hlo':(((16+j:Nat):Int)<16)=False:=aax (by omega)
   have a1:wz (((16+j:Nat):Int)-15)=((16+j-15:Nat):Int):=by rw[aZ (by omega)];omega
   have a2:wz (((16+j:Nat):Int)-2)=((16+j-2:Nat):Int):=by rw[aZ (by omega)];omega
   have a3:wz (((16+j:Nat):Int)-16)=((16+j-16:Nat):Int):=by rw[aZ (by omega)];omega
   have a4:wz (((16+j:Nat):Int)-7)=((16+j-7:Nat):Int):=by rw[aZ (by omega)];omega
   have b1:∀j:Nat,((0:Int)<=(j:Int))=True:=λj=>aas (by omega)
   have c1:(((16+j-15:Nat):Int)<64)=True:=aas (by omega)
   have c2:(((16+j-2:Nat):Int)<64)=True:=aas (by omega)
   have c3:(((16+j-16:Nat):Int)<64)=True:=aas (by omega)
   have c4:(((16+j-7:Nat):Int)<64)=True:=aas (by omega)
   have gg:∀m,m<16+j->(us (fill ((fc b).take (16+j)) 64))[m]?=some (.raw (u32 (((fc b).take (16+j)).getD m 0#32))):=λm hm=>by
    rw[ia (by omega),Qg (by omega)]
   have g1:=gg (16+j-15) (by omega)
   have g2:=gg (16+j-2) (by omega)
   have g3:=gg (16+j-16) (by omega)
   have g4:=gg (16+j-7) (by omega)
   have r1:=λrows k x=>As rows k x 7 (by decide) (by decide)
   have r2:=λrows k x=>As rows k x 18 (by decide) (by decide)
   have r3:=λrows k x=>As rows k x 17 (by decide) (by decide)
   have r4:=λrows k x=>As rows k x 19 (by decide) (by decide)
   simp only[ab1]at r1 r2 r3 r4
   have hn:=schW_hi (b:=b) (n:=j) (by omega)
   simp only[nxt,sg0,sg1]at hn
   simp only[↓ah,aj,simprocAttr,h24,h1,h23,h2,h4,h5,ht,hlo',e0,a1,a2,a3,a4,b1,c1,c2,c3,c4,g1,g2,g3,g4,g5,r1,r2,r3,r4,XT,<-hn,Bg,es0,aav,aaw,lZ,my,ab1]
   exact hR _ _ ⟨by simp only[has,↓ah,aj,simprocAttr,h1,h23,h2,h4,h5],z,rfl⟩
 ·rintro env rows ⟨hh,z,rfl⟩ R
  simp only[has]at hh
  obtain⟨h24,h1,h23,h2,h4,h5,-⟩:=hh
  have hf:fill ((fc b).take 64) 64=fc b:=by rw[<-hwl,aaV];exact Me rfl
  rw[hf]
  obtain⟨a0,b0,c0,d0,e0,f0,g0,i0,hv8⟩:=eight hp
  have hu:us [a0,b0,c0,d0,e0,f0,g0,i0]=[.raw (u32 a0),.raw (u32 b0),.raw (u32 c0),.raw (u32 d0),.raw (u32 e0),.raw (u32 f0),.raw (u32 g0),.raw (u32 i0)]:=rfl
  rw[hv8]
  simp only[↓ah,aj,simprocAttr,h24,h1,h23,h2,h4,h5,hu,hr,kRoots]
  refine bg 64 (λi env rows=>∃va vb vc vd ve vf vg vh,oN (fc b) i h0=[va,vb,vc,vd,ve,vf,vg,vh]/\has env [(117,.raw (it (i:Int))),(116,.raw (it 64)),(2,.ptr (.ar 8 cJ) 0 [0]),(4,.ptr (.ar 8 cJ) 1 [0]),(5,.sl cJ 2 [] 0 64 true),(15,.ptr (.ar 64 cJ) 3 [0]),
    (7,.raw (u32 va)),(8,.raw (u32 vb)),(9,.raw (u32 vc)),(10,.raw (u32 vd)),(11,.raw (u32 ve)),(12,.raw (u32 vf)),(13,.raw (u32 vg)),(14,.raw (u32 vh))]/\
   rows=[some ⟨.ar 8 cJ,[.agg (.ar 8 cJ) (us h0)]⟩,some ⟨.ar 8 cJ,[z]⟩,some ⟨cJ,us (fc b)⟩,some ⟨.ar 64 cJ,[.agg (.ar 64 cJ) (us gY)]⟩]) ?_ ?_ ⟨_,_,_,_,_,_,_,_,hv8,?_,by rw[hv8];rfl⟩
  ·rintro i hi env rows ⟨va,vb,vc,vd,ve,vf,vg,vh,hvv,hh,rfl⟩ R hR
   simp only[has]at hh
   obtain⟨h117,h116,h2,h4,h5,h15,q7,q8,q9,q10,q11,q12,q13,q14,-⟩:=hh
   have e0:((i:Int)<64)=True:=aas (by omega)
   have XT:=ca i (by omega)
   have e9:((0:Int)<=(i:Int))=True:=aas (by omega)
   have g1:(us (fc b))[i]?=some (.raw (u32 ((fc b).getD i 0#32))):=ia (by rw[I8];omega)
   have g2:(us gY)[i]?=some (.raw (u32 (gY.getD i 0#32))):=ia (by simp[gY];omega)
   have r1:=λrows k x=>As rows k x 6 (by decide) (by decide)
   have r2:=λrows k x=>As rows k x 11 (by decide) (by decide)
   have r3:=λrows k x=>As rows k x 25 (by decide) (by decide)
   have r4:=λrows k x=>As rows k x 2 (by decide) (by decide)
   have r5:=λrows k x=>As rows k x 13 (by decide) (by decide)
   have r6:=λrows k x=>As rows k x 22 (by decide) (by decide)
   simp only[ab1]at r1 r2 r3 r4 r5 r6
   simp only[↓ah,aj,simprocAttr,h117,h116,h2,h4,h5,h15,q7,q8,q9,q10,q11,q12,q13,q14,ht,e0,e9,XT,g1,g2,r1,r2,r3,r4,r5,r6,not_sub,aav,lZ,hwl,ab1]
   have hN:oN (fc b) (i+1) h0=[vh+(Ar ve 6^^^Ar ve 11^^^Ar ve 25)+(ve&&&vf^^^~~~ve&&&vg)+gY.getD i 0#32+(fc b).getD i 0#32+((Ar va 2^^^Ar va 13^^^Ar va 22)+(va&&&vb^^^va&&&vc^^^vb&&&vc)),va,vb,vc,
     vd+(vh+(Ar ve 6^^^Ar ve 11^^^Ar ve 25)+(ve&&&vf^^^~~~ve&&&vg)+gY.getD i 0#32+(fc b).getD i 0#32),ve,vf,vg]:=by
    rw[oN,hvv,rnd];simp only[BitVec.add_assoc]
   exact hR _ _ ⟨_,_,_,_,_,_,_,_,hN,by simp only[has,↓ah,aj,simprocAttr,h116,h2,h4,h5,h15],rfl⟩
  ·rintro env rows ⟨va,vb,vc,vd,ve,vf,vg,vh,hvv,hh,rfl⟩ R
   simp only[has]at hh
   obtain⟨h117,h116,h2,h4,h5,h15,q7,q8,q9,q10,q11,q12,q13,q14,-⟩:=hh
   simp only[↓ah,aj,simprocAttr,h117,h116,h2,h4,h5,h15,q7,q8,q9,q10,q11,q12,q13,q14]
   have hu2:us [va,vb,vc,vd,ve,vf,vg,vh]=[.raw (u32 va),.raw (u32 vb),.raw (u32 vc),.raw (u32 vd),.raw (u32 ve),.raw (u32 vf),.raw (u32 vg),.raw (u32 vh)]:=rfl
   rw[<-hu2,<-hvv]
   have xf:=Df (fc b) 64 h0 hp
   have hq:(oN (fc b) 64 h0).length=h0.length:=by omega
   refine bg 8 (λi env rows=>has env [(190,.raw (it (i:Int))),(2,.ptr (.ar 8 cJ) 0 [0]),(4,.ptr (.ar 8 cJ) 1 [0]),(19,.ptr (.ar 8 cJ) 4 [0])]/\
    rows=[some ⟨.ar 8 cJ,[.agg (.ar 8 cJ) (us h0)]⟩,some ⟨.ar 8 cJ,[z]⟩,some ⟨cJ,us (fc b)⟩,some ⟨.ar 64 cJ,[.agg (.ar 64 cJ) (us gY)]⟩,some ⟨.ar 8 cJ,[.agg (.ar 8 cJ) (us (Mf (oN (fc b) 64 h0) h0 i))]⟩]) ?_ ?_ ⟨?_,by rfl⟩
   ·rintro i hi env rows ⟨hh,rfl⟩ R hR
    simp only[has]at hh
    obtain⟨h190,h2,h4,Vv,-⟩:=hh
    have e0:((i:Int)<8)=True:=aas (by omega)
    have e1:((0:Int)<=(i:Int))=True:=aas (by omega)
    have e2:=ca i (by omega)
    have g1:(us (Mf (oN (fc b) 64 h0) h0 i))[i]?=some (.raw (u32 ((oN (fc b) 64 h0).getD i 0#32))):=by
     rw[ia (by rw[Vr _ _ _ hq (by omega)];omega),Vs _ _ _ hq (by omega)]
    have g2:(us h0)[i]?=some (.raw (u32 (h0.getD i 0#32))):=ia (by omega)
    have es:(Mf (oN (fc b) 64 h0) h0 i).set i ((oN (fc b) 64 h0).getD i 0#32+h0.getD i 0#32)=Mf (oN (fc b) 64 h0) h0 (i+1):=Vt _ _ _ hq (by omega)
    simp only[↓ah,aj,simprocAttr,h190,h2,h4,Vv,e0,e1,e2,g1,g2,Bg,es,aav]
    exact hR _ _ ⟨by simp only[has,↓ah,aj,simprocAttr,h2,h4,Vv],rfl⟩
   ·rintro env rows ⟨hh,rfl⟩ R
    simp only[has]at hh
    obtain⟨h190,h2,h4,Vv,-⟩:=hh
    simp only[↓ah,aj,simprocAttr,h190,h2,h4,Vv]
    have:Mf (oN (fc b) 64 h0) h0 8=l5 h0 b:=by rw[<-xf,Vu _ _ hq,zip_comm];rfl
    rw[this,<-hv8]
    exact .val _ rfl
   ·simp only[has,↓ah,aj,simprocAttr,h2,h4]
  ·simp only[has,↓ah,aj,simprocAttr,h2,h4,h5]
 ·simp only[has,↓ah,aj,simprocAttr]
 ·rw[us_rep];rfl
theorem EH(l x:List (BitVec 8))(off:Nat):bh (bs l) off (bs x)=bs (bh l off x):=by
 simp[bh,bs]
theorem Qh{rows:Rows}{r i off len:Nat}{p:List Nat}{ex:Bool}{row:Row}{l src:List (BitVec 8)}{u:Sh}{els:List D}{k:D->Rows->Prop}(hl:live rows r=some row)(hg:dC row.els (i::p)=some (.agg u (bs l)))(hn:off+len<=l.length)
  (hs:mA row.els (i::p) (.agg u (bs (bh l off (src.take (min src.length len)))))=some els):o5 rows L8 (.sl L8 r (i::p) off len ex) (bs src) k=k (.raw (it ((min src.length len:Nat):Int))) (rows.set r (some ⟨row.sh,els⟩)):=by
 unfold o5
 simp only[hl,hg,bn,aB,dO,EH,hs,hn,aa2]
 rfl
theorem EI{rows:Rows}{r n off len:Nat}{ex:Bool}{l src:List (BitVec 8)}{k:D->Rows->Prop}(hl:live rows r=some ⟨.ar n L8,[.agg (.ar n L8) (bs l)]⟩)(hn:off+len<=l.length):
  o5 rows L8 (.sl L8 r [0] off len ex) (bs src) k=k (.raw (it ((min src.length len:Nat):Int))) (rows.set r (some ⟨.ar n L8,[.agg (.ar n L8) (bs (bh l off (src.take (min src.length len))))]⟩)):=
 Qh hl rfl hn rfl
def gO(w:List (BitVec 32)):List (BitVec 8):=(w.map bi).flatten
theorem m9(x:BitVec 32):(bi x).length=4:=rfl
theorem mr(w:List (BitVec 32)):(gO w).length=4*w.length:=by
 induction w with
 |nil=>rfl
 |cons x w ih=>simp only[gO,abq,abl,aao,aaP]at ih⊢;rw[ih,m9];omega
theorem Jb(a b:List (BitVec 32)):gO (a++b)=gO a++gO b:=by simp[gO]
def jC(l:List (BitVec 8))(n:Nat):List (BitVec 8):=l++List.replicate (n-l.length) 0#8
theorem yP{l:List (BitVec 8)}{n:Nat}(h:l.length<=n):(jC l n).length=n:=by simp[jC];omega
theorem vD{l x:List (BitVec 8)}{n:Nat}(h:l.length+x.length<=n):bh (jC l n) l.length x=jC (l++x) n:=by
 unfold bh jC
 have h1:(l++List.replicate (n-l.length) 0#8).take l.length=l:=by simp
 have h2:(l++List.replicate (n-l.length) 0#8).drop (l.length+x.length)=List.replicate (n-(l++x).length) 0#8:=by
  rw[aex,aci (by omega),abp,aeb]
  congr 1;simp;omega
 rw[h1,h2]
theorem Jc{l:List (BitVec 8)}{n:Nat}(h:l.length=n):jC l n=l:=by simp[jC,h]
noncomputable def Dh:Fn:=mV (bx G2) (λb=>decide (b.length=8)) λb=>(aO (gO b),[])
theorem XV(C:bf)(hC:aJ C P):aN C.aX P 185 (Fn.run Dh):=by
 refine aG (NL C hC) λds rows r h=>?_
 obtain⟨d,w,rfl,rfl,hd,hp,rfl⟩:=a8 h
 cases aE hd
 simp only[aat]at hp
 refine⟨rfl,ag rfl ?_⟩
 clear h hd
 unfold CS CU
 simp only[G2,↓ah,aj,simprocAttr]
 refine bg 8 (λi env rows=>has env [(7,.raw (it (i:Int))),(6,.agg (.ar 8 cJ) (us w)),(1,.ptr (.ar 8 cJ) 0 [0]),(2,.ptr (.ar 32 L8) 1 [0]),(3,.ptr (.ar 32 L8) 2 [0])]/\
  (∃z,live rows 1=some ⟨.ar 32 L8,[z]⟩)/\live rows 2=some ⟨.ar 32 L8,[.agg (.ar 32 L8) (bs (jC (gO (w.take i)) 32))]⟩) ?_ ?_ ⟨?_,⟨_,rfl⟩,?_⟩
 ·rintro i hi env rows ⟨hh,⟨z,r1⟩,r2⟩ R hR
  simp only[has]at hh
  obtain⟨h7,h6,h1,h2,h3,-⟩:=hh
  have e0:((i:Int)<8)=True:=aas (by omega)
  have e1:((0:Int)<=4*(i:Int))=True:=aas (by omega)
  have e2:wz (4*(i:Int))=4*(i:Int):=aZ (by omega)
  have e5:(4*(i:Int)<=32)=True:=aas (by omega)
  have e6:(4*(i:Int)).toNat=4*i:=by omega
  have e9:((0:Int)<=(i:Int))=True:=aas (by omega)
  have XT:=ca i (by omega)
  have eg:(us w)[i]?=some (.raw (u32 (w.getD i 0#32))):=ia (by omega)
  have hl:(gO (w.take i)).length=4*i:=by rw[mr,aau];omega
  have hsp:bh (jC (gO (w.take i)) 32) (4*i) ((bi (w.getD i 0#32)).take (min 4 (32-4*i)))=jC (gO (w.take (i+1))) 32:=by
   have:=vD (l:=gO (w.take i)) (x:=bi (w.getD i 0#32)) (n:=32) (by rw[hl,m9];omega)
   rw[hl]at this
   have ht:(bi (w.getD i 0#32)).take (min 4 (32-4*i))=bi (w.getD i 0#32):=aaq (by rw[m9];omega)
   rw[ht,this,EG (by omega),Jb]
   simp[gO]
  simp only[↓ah,aj,simprocAttr,aM,h7,h6,h1,h2,h3,e0,e1,e2,e5,e6,e9,XT,eg,aav]
  refine Eq.mpr (EI (src:=bi (w.getD i 0#32)) (a7 r2) (by rw[yP (by omega)];omega)) ?_
  rw[m9,hsp]
  have Zu:∀x y:Rows,live ((rows++x).set 2 (some ⟨.ar 32 L8,[.agg (.ar 32 L8) (bs (jC (gO (w.take (i+1))) 32))]⟩)) 1=some ⟨.ar 32 L8,[z]⟩:=λx y=>(az (by decide)).trans (a7 r1)
  simp only[↓ah,aj,simprocAttr,h7,h6,h1,h2,h3,XT]
  exact hR _ _ ⟨by simp only[has,↓ah,aj,simprocAttr,h6,h1,h2,h3],⟨z,Zu _ []⟩,iS (a7 r2)⟩
 ·rintro env rows ⟨hh,⟨z,r1⟩,r2⟩ R
  simp only[has]at hh
  obtain⟨h7,h6,h1,h2,h3,-⟩:=hh
  have s1:∀x,live (rows.set 1 (some x)) 1=some x:=λx=>iS r1
  simp only[↓ah,aj,simprocAttr,h7,h6,h1,h2,h3,r1,r2,s1]
  have:jC (gO (w.take 8)) 32=gO w:=by rw[aaq (by omega),Jc (by rw[mr];omega)]
  rw[this]
  exact .val _ rfl
 ·simp only[has,↓ah,aj,simprocAttr]
 ·rfl
theorem Vw(rows:Rows)(k:D->Rows->Prop)(w:List (BitVec 32))(h:w.length=8):aI Dh rows k [.agg (.ar 8 cJ) (us w)]=k (.agg (.ar 32 L8) (bs (gO w))) rows:=by
 refine(a9 (by simp[aW,aR,Sh.pure]) (r:=(aO (gO w),[])) ?_).trans ?_
 ·exact eK (br NU w) (by simp[h])
 ·simp[shift,ab,aO,Sh.pure]
def mG(n:BitVec 64):Nat:=((119#64-n %64#64) %64#64).toNat
def Qi(m:BitVec 64)(i:Nat):List (BitVec 8):=(List.range i).map λj=>(m>>>(56-8*j)).setWidth 8
theorem be8_succ(m:BitVec 64)(i:Nat):Qi m (i+1)=Qi m i++[(m>>>(56-8*i)).setWidth 8]:=by simp[Qi,abN]
theorem NX(m:BitVec 64)(i:Nat):(Qi m i).length=i:=by simp[Qi]
def Jd(n:BitVec 64):List (BitVec 8):=[128#8]++List.replicate (mG n) 0#8++Qi (n<<<3) 8
theorem XW(n:BitVec 64):mG n<64:=by
 unfold mG;rw[abJ];exact ac5 _ (by decide)
def fPad:Fn:=mV PL (λ_=>true) λn=>dF (Jd n) false
theorem pad_ok(C:bf)(hC:aJ C P):aN C.aX P 186 (Fn.run fPad):=by
 refine aG (XM C hC) λds rows r h=>?_
 obtain⟨d,n,rfl,rfl,hd,hp,rfl⟩:=a8 h
 cases qA hd
 refine⟨rfl,ag rfl ?_⟩
 clear h hd
 have hz:=XW n
 have h0:((0:Int)<=((((119#64-n %64#64) %64#64).toNat:Nat):Int))=True:=aas (by omega)
 have hzn:((119#64-n %64#64) %64#64).toNat=mG n:=rfl
 rw[hzn]at h0
 unfold LY LZ
 simp only[↓ah,aj,simprocAttr,hzn,h0,aaS]
 refine⟨by omega,by omega,?_⟩
 have e:bs ([128#8]++List.replicate (mG n) 0#8++Qi (n<<<3) 0)= .raw (u8 128#8)::List.replicate (mG n) (.raw (u8 0#8)):=by
  simp[Qi,bs]
 have how0:iT L8 (.sl L8 1 [] 0 (1+mG n) false) [none,some ⟨L8,.raw (u8 128#8)::List.replicate (mG n) (.raw (u8 0#8))⟩] (bs ([128#8]++List.replicate (mG n) 0#8++Qi (n<<<3) 0)):=by
  rw[e]
  refine .inr ⟨1,false,?_,rfl⟩
  rw[aaP,aaS,ads]
 refine bg 8 (λi env rows=>∃x,has env [(0,.raw (u64 n)),(3,x),(4,.raw (it (56-8*(i:Int))))]/\iT L8 x rows (bs ([128#8]++List.replicate (mG n) 0#8++Qi (n<<<3) i))) ?_ ?_ ⟨_,?_,how0⟩
 ·rintro i hi env rows ⟨x,hh,how⟩ R hR
  simp only[has]at hh
  obtain⟨h0,h3,h4,-⟩:=hh
  have e0:((0:Int)<=56-8*(i:Int))=True:=aas (by omega)
  have e1:(56-8*(i:Int)).toNat=56-8*i:=by omega
  have e2:wz (56-8*(i:Int)-8)=56-8*((i+1:Nat):Int):=by rw[aZ (by omega)];omega
  have hl:(bs ([128#8]++List.replicate (mG n) 0#8++Qi (n<<<3) i)).length<=100:=by
   rw[aB,aao,aao,NX,aaS];simp only[aaP,aaT];omega
  simp only[↓ah,aj,simprocAttr,h0,h3,h4,e0,e1,aav]
  refine iq how.push (by simp only[aaP,aaT];unfold most;omega) (by simp only[aaP,aaT];unfold most;omega) ?_
  intro x' aa how' _ _ _
  simp only[↓ah,aj,simprocAttr,h0,h3,h4,e2]
  refine hR _ _ ⟨x',by simp only[has,↓ah,aj,simprocAttr,h0],?_⟩
  rw[be8_succ,<-aaC,GX]
  exact how'
 ·rintro env rows ⟨x,hh,how⟩ R
  simp only[has]at hh
  obtain⟨h0,h3,h4,-⟩:=hh
  have e0:((0:Int)<=56-8*((8:Nat):Int))=False:=aax (by omega)
  simp only[↓ah,aj,simprocAttr,h0,h3,h4,e0,aaw,how.pM]
  exact how.Nl
 ·simp only[has,↓ah,aj,simprocAttr]
theorem padS_len(n:BitVec 64):(Jd n).length=9+mG n:=by
 simp only[Jd,aao,NX,aaS,aaP,aaT];omega
theorem kPad(rows:Rows)(k:D->Rows->Prop)(n:BitVec 64):aI fPad rows k [.raw (u64 n)]=k (.sl L8 (0+rows.length) [] 0 (Jd n).length false) (rows++[some ⟨L8,bs (Jd n)⟩]):=by
 refine(a9 rfl (r:=dF (Jd n) false) ?_).trans ?_
 ·exact eK (yN n) rfl
 ·simp[dF,shift,ab,Sh.pure]
structure St where
 h:List (BitVec 32)
 rest:List (BitVec 8)
 n:BitVec 64
def uG(s:St):D:= .agg OT [.agg (.ar 8 cJ) (us s.h),.agg (.ar 64 L8) (bs s.rest),.raw (u64 s.n)]
theorem G4(x y:St)(h:uG x=uG y):x=y:=by
 obtain⟨a,b,c⟩:=x
 obtain⟨a',b',c'⟩:=y
 simp only[uG,D.agg.injEq,abC,aa2,acg,D.raw.injEq]at h
 obtain⟨h1,h2,h3⟩:=h
 rw[us_inj h1,rO h2,u64_inj.1 h3]
def St.ok(s:St):Bool:=decide (s.h.length=8)&&decide (s.rest.length=64)
def Bi:List (BitVec 8):=List.replicate 64 0#8
def Au(s:St)(b:BitVec 8):St:=
 if s.n.toNat %64+1=64 then⟨l5 s.h (s.rest.set (s.n.toNat %64) b),Bi,s.n+1#64⟩else⟨s.h,s.rest.set (s.n.toNat %64) b,s.n+1#64⟩
def feed(s:St)(p:List (BitVec 8)):St:=p.foldl Au s
theorem eu(s:St)(p q:List (BitVec 8)):feed s (p++q)=feed (feed s p) q:=aen
theorem feed1_ok(s:St)(b:BitVec 8)(h:s.ok=true):(Au s b).ok=true:=by
 simp only[St.ok,aan,aat]at h
 unfold Au
 split
 ·simp[St.ok,Mg _ _ h.1,Bi]
 ·simp[St.ok,h.1,h.2]
theorem fq(p:List (BitVec 8)):∀(s:St),s.ok=true->(feed s p).ok=true:=by
 induction p with
 |nil=>exact λs h=>h
 |cons b p ih=>exact λs h=>ih _ (feed1_ok s b h)
theorem feed_n(p:List (BitVec 8)):∀(s:St),(feed s p).n=s.n+BitVec.ofNat 64 p.length:=by
 induction p with
 |nil=>intro s;simp[feed]
 |cons b p ih=>
  intro s
  have:(Au s b).n=s.n+1#64:=by unfold Au;split<;>rfl
  show(feed (Au s b) p).n=_
  rw[ih,this]
  apply aaG
  simp only[ab4,aaK,aaP]
  omega
theorem at_add(n:BitVec 64)(j:Nat)(h:n.toNat %64+j<64):(n+BitVec.ofNat 64 j).toNat %64=n.toNat %64+j:=by
 simp only[ab4,aaK]
 omega
theorem F4(l x:List (BitVec 8))(o:Nat)(b:BitVec 8)(h:o+x.length<l.length):(bh l o x).set (o+x.length) b=bh l o (x++[b]):=by
 unfold bh
 have e1:l.drop (o+x.length)=l.getD (o+x.length) 0#8::l.drop (o+x.length+1):=by
  rw[abD h];simp[List.getD,h]
 have e2:(l.take o++x).length=o+x.length:=by simp;omega
 rw[ab6 _ _ (by omega),e2,acq,e1]
 simp[ab2]
theorem Je(l:List (BitVec 8))(o:Nat):bh l o []=l:=by simp[bh]
theorem EJ(s:St)(hs:s.rest.length=64):∀(j:Nat) (x:List (BitVec 8)),x.length=j->s.n.toNat %64+j<64->feed s x=⟨s.h,bh s.rest (s.n.toNat %64) x,s.n+BitVec.ofNat 64 j⟩
 |0,x,hx,h=>by
  have:x=[]:=aaF hx
  subst this
  obtain⟨a,b,c⟩:=s
  simp[feed,Je]
 |j+1,x,hx,h=>by
  obtain⟨y,b,rfl⟩:∃y b,x=y++[b]:=⟨x.dropLast,x.getLast (by intro e;subst e;simp at hx),(ad7 _).symm⟩
  have hy:y.length=j:=by simpa using hx
  rw[eu,EJ s hs j y hy (by omega)]
  have ha:=at_add s.n j (by omega)
  show Au _ b=_
  unfold Au
  simp only[ha]
  rw[aaA (by omega)]
  have hl:=F4 s.rest y (s.n.toNat %64) b (by omega)
  rw[hy]at hl
  rw[hl]
  congr 1
  apply aaG
  simp only[ab4,aaK]
  omega
theorem EK(s:St)(hs:s.rest.length=64)(x:List (BitVec 8))(h:s.n.toNat %64+x.length=64):feed s x=⟨l5 s.h (bh s.rest (s.n.toNat %64) x),Bi,s.n+BitVec.ofNat 64 x.length⟩:=by
 have hlt:s.n.toNat %64<64:=ac5 _ (by decide)
 obtain⟨y,b,rfl⟩:∃y b,x=y++[b]:=⟨x.dropLast,x.getLast (by intro e;subst e;simp at h;omega),(ad7 _).symm⟩
 simp only[aao,aaP,aaT]at h
 rw[eu,EJ s hs y.length y rfl (by omega)]
 have ha:=at_add s.n y.length (by omega)
 show Au _ b=_
 unfold Au
 simp only[ha]
 rw[aaI (by omega)]
 have hl:=F4 s.rest y (s.n.toNat %64) b (by omega)
 rw[hl]
 congr 1
 apply aaG
 simp only[ab4,aaK,aao,aaP,aaT]
 omega
theorem kPress(rows:Rows)(k:D->Rows->Prop)(h:List (BitVec 32))(b:List (BitVec 8))(hh:h.length=8)(hb:b.length=64):aI NW rows k [.agg (.ar 8 cJ) (us h),.agg (.ar 64 L8) (bs b)]=k (.agg (.ar 8 cJ) (us (l5 h b))) rows:=by
 refine(a9 (by simp[aW,aR,Sh.pure]) (r:=(G2 (l5 h b),[])) ?_).trans ?_
 ·exact gR (br NU h) (br I5 b) (by simp[hh,hb])
 ·simp[shift,ab,G2,Sh.pure]
noncomputable def td:Fn:=tW (bx uG) dB (λs _=>s.ok) λs p=>(uG (feed s p),[])
theorem TD(C:bf)(hC:aJ C P)(hp:C.fn 184=some NW):aN C.aX P 158 (Fn.run td):=by
 refine bU (Ew C hC) λds rows r h=>?_
 obtain⟨d,e,s0,p0,rfl,rfl,hd,he,hok,rfl⟩:=cQ h
 cases aE hd
 obtain⟨x0,hx⟩:=cb he
 refine⟨rfl,_,.cons (.refl _) (.cons hx .nil),ag rfl ?_⟩
 clear h hd he hx
 unfold uA uB
 simp only[uG,↓ah,aj,simprocAttr]
 refine oI (λm env rows=>∃(s:St) (q:List (BitVec 8)) (ex:Bool) (z:D),m=q.length/\s.ok=true/\feed s q=feed s0 p0/\has env [(1,.cI L8 (bs q) ex),(2,.ptr OT 0 [0]),(4,.ptr OT 1 [0])]/\
  rows=[some ⟨OT,[.agg OT [.agg (.ar 8 cJ) (us s.h),.agg (.ar 64 L8) (bs s.rest),.raw (u64 s.n)]]⟩,some ⟨OT,[z]⟩]) ?_ p0.length ⟨s0,p0,x0,_,rfl,hok,rfl,?_,rfl⟩
 ·rintro m env rows ⟨s,q,ex,z,rfl,hs,hf,hh,rfl⟩ R hR
  simp only[has]at hh
  obtain⟨h1,h2,h4,-⟩:=hh
  have gy:=hs
  simp only[St.ok,aan,aat]at gy
  obtain⟨RU,sy⟩:=gy
  by_cases hq:0<q.length
  ·have e0:((0:Int)<(q.length:Int))=True:=aas (by omega)
   have hlt:s.n.toNat %64<64:=ac5 _ (by decide)
   have m64:(s.n %64#64).toNat=s.n.toNat %64:=by rw[abJ];rfl
   generalize ha:s.n.toNat %64=at_ at*
   have e1:wz (at_:Int)=at_:=aZ (by omega)
   have e2:((0:Int)<=(at_:Int))=True:=aas (by omega)
   have e3:((at_:Int)<=64)=True:=aas (by omega)
   have en:(64#64:BitVec 64)≠0:=by decide
   obtain⟨k,hk⟩:∃k,min q.length (64-at_)=k:=⟨_,rfl⟩
   simp only[↓ah,aj,simprocAttr,h1,h2,h4,e0,e1,e2,e3,m64,en,aB,aav]
   refine Eq.mpr (Qh (p:=[1]) (u:= .ar 64 L8) (l:=s.rest) rfl rfl (by omega) rfl) ?_
   rw[hk]
   have Zk:k<=q.length:=by omega
   have M3:at_+k<=64:=by omega
   have hk3:0<k:=by omega
   have SK:(q.take k).length=k:=by rw[aau];omega
   have hspl:(bh s.rest at_ (q.take k)).length=64:=by
    rw[<-aB,<-EH,AK (by rw[aB,aB];omega),aB,sy]
   have hqq:q.take k++q.drop k=q:=aa5 k q
   have f1:((0:Int)<=(k:Int))=True:=aas (by omega)
   have f2:((k:Int)<=(q.length:Int))=True:=aas (by omega)
   have f3:(q.drop k).take (q.length-k)=q.drop k:=aaq (by rw[aar];omega)
   have f4:wz ((at_:Int)+(k:Int))=((at_+k:Nat):Int):=by rw[aZ (by omega)];omega
   have f5:BitVec.ofInt 64 (k:Int)=BitVec.ofNat 64 k:=rfl
   by_cases hfull:at_+k=64
   ·have f6:((at_+k:Nat):Int)=64:=by omega
    have jr:=EK s sy (q.take k) (by rw[ha,SK];exact hfull)
    rw[ha,SK]at jr
    have NY:feed (feed s (q.take k)) (q.drop k)=feed s0 p0:=by rw[<-eu,hqq,hf]
    have TE:=fq (q.take k) s hs
    rw[jr]at NY TE
    simp only[↓ah,aj,simprocAttr,h1,h2,h4,aB,eP,dO,f1,f2,f3,f4,f5,f6,hp,kPress _ _ _ _ RU hspl,aav]
    refine hR _ _ _ ?_ ⟨_,q.drop k,qJ none q.length q.length q.length ex,z,rfl,TE,NY,?_,rfl⟩
    ·rw[aar];omega
    ·simp only[has,↓ah,aj,simprocAttr,h2,h4]
   ·have f6:(((at_+k:Nat):Int)=64)=False:=aax (by omega)
    have jr:=EJ s sy k (q.take k) SK (by rw[ha];omega)
    rw[ha]at jr
    have NY:feed (feed s (q.take k)) (q.drop k)=feed s0 p0:=by rw[<-eu,hqq,hf]
    have TE:=fq (q.take k) s hs
    rw[jr]at NY TE
    simp only[↓ah,aj,simprocAttr,h1,h2,h4,aB,eP,dO,f1,f2,f3,f4,f5,f6,aaw]
    refine hR _ _ _ ?_ ⟨_,q.drop k,qJ none q.length q.length q.length ex,z,rfl,TE,NY,?_,rfl⟩
    ·rw[aar];omega
    ·simp only[has,↓ah,aj,simprocAttr,h2,h4]
  ·have e0:((0:Int)<(q.length:Int))=False:=aax (by omega)
   have hq0:q=[]:=aaF (by omega)
   subst hq0
   simp only[↓ah,aj,simprocAttr,h1,h2,h4,e0,aB,aaw]
   rw[<-hf]
   exact .val _ rfl
 ·simp only[has,↓ah,aj,simprocAttr]
def rdNil:D->Option Unit
 | .raw (.slice none 0 0)=>some ()
 | _=>none
theorem TF{d:D}{u:Unit}(h:rdNil d=some u):d= .raw (.slice none 0 0):=by
 unfold rdNil at h
 split at h
 ·rfl
 ·cases h
theorem Jf{rows:Rows}{r off len:Nat}{ex:Bool}{l src:List (BitVec 8)}{k:D->Rows->Prop}(hl:live rows r=some ⟨L8,bs l⟩)(hn:off+len<=l.length):
  o5 rows L8 (.sl L8 r [] off len ex) (bs src) k=k (.raw (it ((min src.length len:Nat):Int))) (rows.set r (some ⟨L8,bs (bh l off (src.take (min src.length len)))⟩)):=by
 unfold o5
 simp only[hl,bn,aB,dO,EH,hn,aa2]
 rfl
def EL:Fn:=tW rM rdNil (λls _=>Nat.ble ls.length most&&Nat.ble ls.flatten.length most) λls _=>dF ls.flatten false
theorem EM(ls:List (List (BitVec 8)))(i:Nat):((ls.take i).flatten).length<=ls.flatten.length:=by
 have:ls=ls.take i++ls.drop i:=(aa5 _ _).symm
 calc ((ls.take i).flatten).length<=((ls.take i++ls.drop i).flatten).length:=by simp only[abU,aao];omega
  _=ls.flatten.length:=by rw[<-this]
theorem lu(ls:List (List (BitVec 8)))(i:Nat)(h:i<ls.length):(ls.take (i+1)).flatten=(ls.take i).flatten++ls[i]:=by
 rw[aaR h,abU,abl,abn,aaL]
theorem Mi(acc Jg x:List (BitVec 8))(h:x.length<=Jg.length):bh (acc++Jg) acc.length x=(acc++x)++Jg.drop x.length:=by
 unfold bh
 have h1:(acc++Jg).take acc.length=acc:=by simp
 have h2:(acc++Jg).drop (acc.length+x.length)=Jg.drop x.length:=by
  rw[aex,aci (by omega),abp];congr 1;omega
 rw[h1,h2]
theorem bjoin_ok(C:bf)(hC:aJ C P):aN C.aX P 114 (Fn.run EL):=by
 refine aG (NF C hC) λds rows r h=>?_
 obtain⟨d,e0,ls,u,rfl,rfl,hd,he,hp,rfl⟩:=cQ h
 obtain⟨l,e,rfl,hl⟩:=vC hd
 cases TF he
 simp only[aan,abo]at hp
 obtain⟨Mc,sq⟩:=hp
 unfold most at Mc sq
 obtain⟨hlen,lK⟩:=kU hl
 clear h hd he
 refine⟨rfl,ag rfl ?_⟩
 have RO:∀i (hi:i<ls.length),∃x,l[i]?=some x/\ez x ls[i]:=λi hi=>by
  have HY:i<l.length:=by omega
  have hli:l[i]?=some l[i]:=aap HY
  exact⟨_,hli,dR (lK i _ _ hli (aap hi))⟩
 have hsrc:∀x y rows,ez x y->sH rows (.leaf (.int .u8)) x=some (bs y):=by
  intro x y rows hb
  rcases hb with⟨h,h2⟩|⟨e,h⟩
  ·rw[h,h2];rfl
  ·rw[h];simp[sH,Am.fa,Am.elems]
 have hfit:∀x y,ez x y->D.fits x .ref=true:=λx y hb=>by rcases hb with⟨h,_⟩|⟨e,h⟩<;>rw[h]<;>rfl
 unfold Co Cq
 by_cases h0:ls.length=0
 ·have hls:ls=[]:=aaF h0
  have Fy:l=[]:=aaF (by omega)
  subst hls Fy
  simp only[↓ah,aj,simprocAttr]
  exact .own _ 0 0 _ true false _ rfl rfl (λh=>by cases h)
 ·by_cases h1 : ls.length = 1
  ·obtain⟨y,rfl⟩:∃y,ls=[y]:=by
    match ls,h1 with
    |[y],_=>exact⟨y,rfl⟩
   obtain⟨x,hx,hb⟩:=RO 0 (by simp)
   have HF:ez x y:=hb
   have HD:l.length=1:=by rw[<-hlen];rfl
   have hlx:l[0]?=some x:=hx
   simp only[↓ah,aj,simprocAttr,HD,hlx,hfit _ _ HF,hsrc _ _ _ HF,HF.dQ,aB,aav,aaw]
   have hyl:y.length<=1099511627776:=by simpa using sq
   refine⟨by omega,hyl,?_⟩
   have e1:[y].flatten=y:=by simp
   rw[e1]
   exact .own _ 0 0 _ false false _ rfl rfl (λh=>by cases h)
  ·have xf:2<=l.length:=by omega
   have c0:((l.length:Int)=0)=False:=aax (by omega)
   have c1:((l.length:Int)=1)=False:=aax (by omega)
   simp only[↓ah,aj,simprocAttr,c0,c1,aaw]
   refine bg l.length (λi env rows=>has env [(0,.cI .ref l e),(1,.raw (.slice none 0 0)),(42,.cI .ref l e),(43,.raw (it l.length)),(44,.raw (it (i:Int))),(5,.raw (it (((ls.take i).flatten).length:Int)))]/\rows=[]) ?_ ?_ ⟨?_,rfl⟩
   ·rintro i hi env rows ⟨hh,rfl⟩ R hR
    simp only[has]at hh
    obtain⟨q0,q1,q42,q43,q44,q5,-⟩:=hh
    obtain⟨x,hx,hb⟩:=RO i (by omega)
    have Tz:((i:Int)<(l.length:Int))=True:=aas (by omega)
    have hw:=ca i (by omega)
    have h0i:((0:Int)<=(i:Int))=True:=aas (by omega)
    have s1:=EM ls (i+1)
    have s2:((ls.take (i+1)).flatten).length=((ls.take i).flatten).length+ls[i].length:=by rw[lu ls i (by omega),aao]
    have w1:wz (9223372036854775807-(((ls.take i).flatten).length:Int))=9223372036854775807-(((ls.take i).flatten).length:Int):=aZ (by omega)
    have w2:((9223372036854775807-(((ls.take i).flatten).length:Int))<(ls[i].length:Int))=False:=aax (by omega)
    have w3:wz ((((ls.take i).flatten).length:Int)+(ls[i].length:Int))=(((ls.take (i+1)).flatten).length:Int):=by rw[aZ (by omega)];omega
    simp only[↓ah,aj,simprocAttr,q0,q1,q42,q43,q44,q5,Tz,hw,h0i,hx,hfit _ _ hb,hb.dQ,w1,w2,w3,aav,aaw]
    exact hR _ _ ⟨by simp only[has,↓ah,aj,simprocAttr,q0,q1,q42,q43],rfl⟩
   ·rintro env rows ⟨hh,rfl⟩ R
    simp only[has]at hh
    obtain⟨q0,q1,q42,q43,q44,q5,-⟩:=hh
    have bQ:(ls.take l.length).flatten=ls.flatten:=by rw[<-hlen,aaV]
    rw[bQ]at q5
    obtain⟨N,hN⟩:∃N,ls.flatten.length=N:=⟨_,rfl⟩
    rw[hN]at q5
    have nl:((l.length:Int)<(l.length:Int))=False:=aax (by omega)
    have n1:((0:Int)<=(N:Int))=True:=aas (by omega)
    have n2:((N:Int)<=1099511627776)=True:=aas (by omega)
    have n3:((N:Int)<=(N:Int))=True:=aas (by omega)
    have n4:∀q:List (BitVec 8),(q.map λb=>D.raw (u8 b))=bs q:=λq=>rfl
    simp only[↓ah,aj,simprocAttr,q0,q1,q42,q43,q44,q5,nl,n1,n2,n3,n4,aaw,acB]
    intro Jg hj
    obtain⟨x,hx,hb⟩:=RO 0 (by omega)
    have hx0:l[0]?=some x:=hx
    have p0:((0:Int)<(l.length:Int))=True:=aas (by omega)
    have p1:((1:Int)<=(l.length:Int))=True:=aas (by omega)
    simp only[↓ah,aj,simprocAttr,q0,q1,q42,q43,q44,q5,nl,n1,n2,n3,n4,p0,p1,hx0,hfit _ _ hb,hsrc _ _ _ hb,hb.dQ,aB,aav]
    have Fy:ls[0].length<=N:=by
     have:=EM ls 1
     rw[lu ls 0 (by omega)]at this
     simp only[abL,abn,abp]at this
     omega
    refine Eq.mpr (Jf (l:=Jg) (src:=ls[0]) rfl (by omega)) ?_
    have t0:ls[0].take (min ls[0].length N)=ls[0]:=aaq (by omega)
    have t1:bh Jg 0 ls[0]=(ls.take 1).flatten++Jg.drop ls[0].length:=by
     have:=Mi [] Jg ls[0] (by omega)
     simp only[abp,aaT]at this
     rw[this,lu ls 0 (by omega)];simp
    have t2:min ls[0].length N=((ls.take 1).flatten).length:=by rw[lu ls 0 (by omega)];simp;omega
    have t3:((l.drop 1).take (l.length-1)).length=l.length-1:=by simp
    rw[t0,t1,t2]
    simp only[↓ah,aj,simprocAttr,q0,q1,q42,q43,q44,q5,p1,n3,t3,aav]
    generalize hexx:qJ (some (N:Int)) N N N false=exx
    generalize hexy:qJ none l.length l.length l.length e=exy
    refine bg (l.length-1) (λi env rows=>has env [(1,.raw (.slice none 0 0)),(70,.cI .ref ((l.drop 1).take (l.length-1)) exy),(71,.raw (it ((l.length-1:Nat):Int))),(72,.raw (it (i:Int))),(8,.sl L8 0 [] 0 N exx),(9,.raw (it (((ls.take (i+1)).flatten).length:Int)))]/\
     ∃q:List (BitVec 8),rows=[some ⟨L8,bs ((ls.take (i+1)).flatten++q)⟩]/\((ls.take (i+1)).flatten).length+q.length=N) ?_ ?_ ⟨?_,_,rfl,?_⟩
    ·rintro i hi env rows ⟨hh,q,rfl,hq⟩ R hR
     simp only[has]at hh
     obtain⟨q1,q70,q71,q72,q8,q9,-⟩:=hh
     obtain⟨x,hx,hb⟩:=RO (i+1) (by omega)
     have sn:((l.drop 1).take (l.length-1))[i]?=some x:=by
      rw[abt,aaI (by omega),abk,ads];exact hx
     have s1:=EM ls (i+1+1)
     have s0:=lu ls (i+1) (by omega)
     have s2:((ls.take (i+1+1)).flatten).length=((ls.take (i+1)).flatten).length+ls[i+1].length:=by rw[s0,aao]
     generalize hacc:(ls.take (i+1)).flatten=acc at*
     have Tz:((i:Int)<((l.length-1:Nat):Int))=True:=aas (by omega)
     have hw:=ca i (by omega)
     have h0i:((0:Int)<=(i:Int))=True:=aas (by omega)
     have b0:((0:Int)<=(acc.length:Int))=True:=aas (by omega)
     have b1:((acc.length:Int)<=(N:Int))=True:=aas (by omega)
     have b2:wz ((acc.length:Int)+0)=acc.length:=by rw[Int.add_zero];exact aZ (by omega)
     simp only[↓ah,aj,simprocAttr,q1,q70,q71,q72,q8,q9,Tz,hw,h0i,sn,t3,hfit _ _ hb,b0,b1,n3,aav]
     refine Eq.mpr (Jf (l:=acc++q) (src:=[]) rfl (by rw[aao];omega)) ?_
     have u0:bh (acc++q) acc.length (([]:List (BitVec 8)).take (min ([]:List (BitVec 8)).length (N-acc.length)))=acc++q:=by rw[List.take_nil,Je]
     have u1:(min ([]:List (BitVec 8)).length (N-acc.length))=0:=by simp
     rw[u0,u1]
     simp only[↓ah,aj,simprocAttr,q1,q70,q71,q72,q8,q9,hw,h0i,hsrc _ _ _ hb,hb.dQ,aB,b0,b1,b2,n3,aav]
     refine Eq.mpr (Jf (l:=acc++q) (src:=ls[i+1]) rfl (by rw[aao];omega)) ?_
     have u2:ls[i+1].take (min ls[i+1].length (N-acc.length))=ls[i+1]:=aaq (by omega)
     have u3:min ls[i+1].length (N-acc.length)=ls[i+1].length:=by omega
     have u4:wz ((acc.length:Int)+(ls[i+1].length:Int))=(((ls.take (i+1+1)).flatten).length:Int):=by rw[aZ (by omega)];omega
     rw[u2,u3,Mi _ _ _ (by omega)]
     simp only[↓ah,aj,simprocAttr,q1,q70,q71,q72,q8,q9,hw,u4]
     exact hR _ _ ⟨by simp only[has,↓ah,aj,simprocAttr,q1,q70,q71,q8],q.drop ls[i+1].length,by rw[s0],by rw[aar];omega⟩
    ·rintro env rows ⟨hh,q,rfl,hq⟩ R
     simp only[has]at hh
     obtain⟨q1,q70,q71,q72,q8,q9,-⟩:=hh
     have e1:l.length-1+1=ls.length:=by omega
     rw[e1,aaV]at hq⊢
     have hq0:q=[]:=aaF (by omega)
     have nl2:(((l.length-1:Nat):Int)<((l.length-1:Nat):Int))=False:=aax (by omega)
     subst hq0
     simp only[↓ah,aj,simprocAttr,q1,q70,q71,q72,q8,q9,nl2,aaw,aaL]
     rw[<-hN]
     exact .own _ 0 0 _ exx false _ rfl rfl (λh=>by cases h)
    ·simp only[has,↓ah,aj,simprocAttr,q1]
    ·rw[aar,<-t2];omega
   ·simp only[has,↓ah,aj,simprocAttr,abn]
def Bx:St:=⟨NV,Bi,0#64⟩
def pw(s:St):List (BitVec 8):=gO (feed s (Jd s.n)).h
def cM(p:List (BitVec 8)):List (BitVec 8):=pw (feed Bx p)
theorem oO:Bx.ok=true:=rfl
def Qj:Fn
 |[],[]=>some (uG Bx,[])
 | _,_=>none
theorem new_ok(C:bf)(hC:aJ C P)(hg:C.aX 2=some (G2 NV)):aN C.aX P 157 (Fn.run Qj):=by
 refine aG (XK C hC) λds rows r h=>?_
 unfold Qj at h
 split at h
 ·cases h
  refine⟨rfl,ag rfl ?_⟩
  unfold LU LV
  simp only[↓ah,aj,simprocAttr,hg,G2]
  exact .val _ rfl
 ·cases h
theorem TG(rows:Rows)(k:D->Rows->Prop):aI Qj rows k []=k (uG Bx) rows:=by
 refine(a9 rfl (r:=(uG Bx,[])) rfl).trans ?_
 simp[shift,ab,uG,Sh.pure]
theorem st_ok{s:St}(h:s.ok=true):s.h.length=8/\s.rest.length=64:=by
 simpa[St.ok]using h
theorem lW(rows:Rows)(k:D->Rows->Prop)(s:St)(d:D)(p:List (BitVec 8))(h:aU rows d p)(hs:s.ok=true):aI td rows k [uG s,d]=k (uG (feed s p)) rows:=by
 obtain⟨⟨d',j9,hb⟩,hn⟩:=h
 have e1:∀d2,dB d2=some p->td [uG s,d2] []=some (uG (feed s p),[]):=λd2 h2=>gR (br G4 s) h2 hs
 have hr:aR (uG s)=false:=by simp[uG,aR,Sh.pure]
 have hv:view rows 9 (uG s)=some (uG s):=by simp[uG,view,Sh.pure]
 unfold aI
 have h1:aW [uG s,d]=aR d:=by simp[aW,hr]
 rw[h1]
 have hsh:shift rows.length (uG (feed s p))=uG (feed s p):=by simp[uG,shift,Sh.pure]
 have hno:cj (uG (feed s p))=true:=by simp[uG,cj,Sh.pure]
 cases hh:aR d with
 |true=>
  simp only[ack,dU,hv,j9,bn,e1 _ hb.rd,hno,be,ach,aa2,hsh,ab,aaL]
  simp
 |false=>
  simp only[ack,bn,e1 _ (hn hh).rd,hsh,ab,aaL]
  simp
noncomputable def vE:Fn:=mV (bx uG) (λs=>s.ok) λs=>(aO (pw s),[])
theorem stsum_ok(C:bf)(hC:aJ C P)(h1:C.fn 186=some fPad)(h2:C.fn 158=some td)(h3:C.fn 185=some Dh):aN C.aX P 159 (Fn.run vE):=by
 refine aG (GB C hC) λds rows r h=>?_
 obtain⟨d,s,rfl,rfl,hd,hok,rfl⟩:=a8 h
 cases aE hd
 refine⟨rfl,ag rfl ?_⟩
 clear h hd
 have TE:=fq (Jd s.n) s hok
 have e:=st_ok TE
 unfold wk wl
 have hst:uG s= .agg OT [.agg (.ar 8 cJ) (us s.h),.agg (.ar 64 L8) (bs s.rest),.raw (u64 s.n)]:=rfl
 rw[hst]
 simp only[↓ah,aj,simprocAttr,h1,h2,h3,kPad]
 rw[<-hst]
 refine Eq.mpr (lW _ _ _ _ (Jd s.n) (aU.own rfl _ rfl) hok) ?_
 simp only[uG,↓ah,aj,simprocAttr,h1,h2,h3]
 rw[Vw _ _ _ e.1]
 simp only[↓ah,aj,simprocAttr]
 exact .val _ rfl
theorem Bj(rows:Rows)(k:D->Rows->Prop)(s:St)(h:s.ok=true):aI vE rows k [uG s]=k (.agg (.ar 32 L8) (bs (pw s))) rows:=by
 refine(a9 (by simp[aW,aR,uG,Sh.pure]) (r:=(aO (pw s),[])) ?_).trans ?_
 ·exact eK (br G4 s) h
 ·simp[shift,ab,aO,Sh.pure]
def Di:Fn:=mV rM (λls=>Nat.ble ls.length most&&Nat.ble ls.flatten.length most) λls=>(aO (cM ls.flatten),[])
theorem sum_ok (C : bf) (hC : aJ C P) (h1 : C.fn 157 = some Qj) (h2 : C.fn 158 = some td) (h3 : C.fn 114 = some EL) (h4 : C.fn 159 = some vE) : aN C.aX P 95 (Fn.run Di) := by
 refine aG (XI C hC) λds rows r h=>?_
 obtain⟨d,ls,rfl,rfl,hd,hp,rfl⟩:=a8 h
 obtain⟨l,e,rfl,hl⟩:=vC hd
 refine⟨rfl,ag rfl ?_⟩
 have hj : ∀ (rows : Rows) k, aI EL rows k [.cI .ref l e, .raw (.slice none 0 0)] = k (.sl L8 (0 + rows.length) [] 0 ls.flatten.length false) (rows ++ [some ⟨L8, bs ls.flatten⟩]) := λrows k => by
  have hnr : aW [.cI .ref l e, .raw (.slice none 0 0)] = false := by
   have : ∀ (l : List D) (ls : List (List (BitVec 8))), dU dB l = some ls -> aW l = false := by
    intro l
    induction l with
    |nil=>intro _ _;rfl
    | cons x l ih =>
     intro ls h
     simp only[dU]at h
     split at h
     ·rename_i y hy
      split at h
      ·rename_i ys hys
       have hx:aR x=false:=by
        rcases dR hy with⟨h,_⟩|⟨e,h⟩<;>rw[h]<;>rfl
       simp[aW,hx,ih _ hys]
      ·cases h
     ·cases h
   simp[aW,aR,Sh.pure,this l ls hl]
  refine(a9 hnr (r:=dF ls.flatten false) ?_).trans ?_
  ·exact gR hd rfl hp
  ·simp[dF,shift,ab,Sh.pure]
 clear h
 have hok:=fq ls.flatten Bx oO
 unfold LN LO
 simp only[↓ah,aj,simprocAttr,h1,h2,h3,h4,TG,hj]
 refine Eq.mpr (lW _ _ _ _ ls.flatten (aU.own rfl _ rfl) oO) ?_
 simp only[↓ah,aj,simprocAttr,h4]
 rw[Bj _ _ _ hok]
 simp only[↓ah,aj,simprocAttr]
 exact .val _ rfl
theorem num8(m:BitVec 64):ya 8 m=Qi m 8:=by
 have d1:∀x:BitVec 64,x/256#64=x>>>8:=λx=>by
  apply aaG
  rw[adR,abH,abb];rfl
 have d2:∀x:BitVec 64,(x %256#64).setWidth 8=x.setWidth 8:=λx=>by
  apply aaG
  rw[aa9,aa9,abJ]
  simp
 have d3:∀(x:BitVec 64) (i j:Nat),(x>>>i)>>>j=x>>>(i+j):=λx i j=>(BitVec.shiftRight_add x i j).symm
 simp only[ya,d1,d2,d3,Qi,abN,List.range_zero,abp,acE,abq,adv,acu,Nat.reduceAdd,Nat.reduceMul,Nat.reduceSub,BitVec.ushiftRight_zero]
theorem shl3(n:BitVec 64):8#64*n=n<<<3:=by
 apply aaG
 rw[adu,acj,acw];simp;omega
theorem Mj(L:Nat)(h:L<18446744073709551616):mG (BitVec.ofNat 64 L)=(119-L %64) %64:=by
 unfold mG
 have:(BitVec.ofNat 64 L).toNat=L:=by simp;omega
 rw[abJ,ada,abJ,this]
 simp;omega
def j7(p:List (BitVec 8)):List (BitVec 8):=p++Jd (BitVec.ofNat 64 p.length)
def NZ(p:List (BitVec 8))(j:Nat):List (BitVec 32):=(feed Bx ((j7 p).take (64*j))).h
theorem text_len(p:List (BitVec 8))(h:p.length<18446744073709551616):(j7 p).length %64=0/\(j7 p).length<=p.length+72:=by
 have hz:=Mj p.length h
 rw[j7,aao,padS_len,hz]
 omega
theorem Jh(t:List (BitVec 8)):∀(j:Nat),64*j<=t.length->(feed Bx (t.take (64*j))).rest=Bi/\(feed Bx (t.take (64*j))).n=BitVec.ofNat 64 (64*j)/\(feed Bx (t.take (64*j))).h.length=8
 |0,_=>⟨rfl,rfl,rfl⟩
 | j + 1, h => by
  obtain⟨h1,h2,h3⟩:=Jh t j (by omega)
  have e:t.take (64*(j+1))=t.take (64*j)++(t.drop (64*j)).take 64:=by
   rw[show 64*(j+1)=64*j+64 by omega,adC]
  have hx:((t.drop (64*j)).take 64).length=64:=by rw[aau,aar];omega
  have ha:(feed Bx (t.take (64*j))).n.toNat %64=0:=by rw[h2,aaK];omega
  have hf:=EK (feed Bx (t.take (64*j))) (by rw[h1];rfl) ((t.drop (64*j)).take 64) (by rw[ha,hx])
  rw[e,eu,hf]
  refine⟨rfl,?_,?_⟩
  ·show(feed Bx (t.take (64*j))).n+_=_
   rw[h2,hx]
   apply aaG
   simp only[ab4,aaK];omega
  ·exact Mg _ _ h3
theorem XX(p:List (BitVec 8))(j:Nat)(h:64*(j+1)<=(j7 p).length):NZ p (j+1)=l5 (NZ p j) (((j7 p).drop (64*j)).take 64):=by
 unfold NZ
 generalize j7 p=t at*
 obtain⟨h1,h2,h3⟩:=Jh t j (by omega)
 have e:t.take (64*(j+1))=t.take (64*j)++(t.drop (64*j)).take 64:=by
  rw[show 64*(j+1)=64*j+64 by omega,adC]
 have hx:((t.drop (64*j)).take 64).length=64:=by rw[aau,aar];omega
 have ha:(feed Bx (t.take (64*j))).n.toNat %64=0:=by rw[h2,aaK];omega
 have hf:=EK (feed Bx (t.take (64*j))) (by rw[h1];rfl) ((t.drop (64*j)).take 64) (by rw[ha,hx])
 rw[e,eu,hf,ha,h1]
 have hs:bh Bi 0 ((t.drop (64*j)).take 64)=(t.drop (64*j)).take 64:=by
  unfold bh
  have hz:Bi.drop (0+((t.drop (64*j)).take 64).length)=[]:=aci (by rw[hx];exact aaz _)
  rw[abL,abp,hz,aaL]
 rw[hs]
theorem Qk(p:List (BitVec 8))(j:Nat)(h:64*j<=(j7 p).length):(NZ p j).length=8:=(Jh _ j h).2.2
theorem sumS_eq(p:List (BitVec 8)):cM p=gO (NZ p ((j7 p).length/64))\/¬(j7 p).length %64=0:=by
 by_cases h:(j7 p).length %64=0
 ·left
  have e:64*((j7 p).length/64)=(j7 p).length:=by omega
  have hn:(feed Bx p).n=BitVec.ofNat 64 p.length:=by rw[feed_n];show 0#64+_=_;rw[BitVec.zero_add]
  rw[NZ,e,aaV,j7,eu,cM,pw,hn]
 ·exact .inr h
theorem kPressR(rows:Rows)(k:D->Rows->Prop)(h:List (BitVec 32))(d:D)(b:List (BitVec 8))(hd:aU rows d b)(hh:h.length=8)(hb:b.length=64):aI Dg rows k [.agg (.ar 8 cJ) (us h),d]=k (.agg (.ar 8 cJ) (us (l5 h b))) rows:=by
 obtain⟨⟨d',j9,hbd⟩,hn⟩:=hd
 have e1:∀d2,dB d2=some b->Dg [.agg (.ar 8 cJ) (us h),d2] []=some (G2 (l5 h b),[]):=λd2 h2=>gR (br NU h) h2 (by simp[hh,hb])
 have hr:aR (.agg (.ar 8 cJ) (us h))=false:=by simp[aR,Sh.pure]
 have hv:view rows 9 (.agg (.ar 8 cJ) (us h))=some (.agg (.ar 8 cJ) (us h)):=by simp[view,Sh.pure]
 unfold aI
 have h1:aW [.agg (.ar 8 cJ) (us h),d]=aR d:=by simp[aW,hr]
 rw[h1]
 have hsh:shift rows.length (G2 (l5 h b))=G2 (l5 h b):=by simp[G2,shift,Sh.pure]
 have hno:cj (G2 (l5 h b))=true:=by simp[G2,cj,Sh.pure]
 cases hh:aR d with
 |true=>
  simp only[ack,dU,hv,j9,bn,e1 _ hbd.rd,hno,be,ach,aa2,hsh,ab,aaL]
  simp[G2]
 |false=>
  simp only[ack,bn,e1 _ (hn hh).rd,hsh,ab,aaL]
  simp[G2]
theorem XY{l:List (BitVec 8)}{n:Nat}(h:l.length<n)(x:BitVec 8):(jC l n).set l.length x=jC (l++[x]) n:=by
 obtain⟨k,hk⟩:∃k,n-l.length=k+1:=⟨n-l.length-1,by omega⟩
 have h2:n-(l++[x]).length=k:=by simp;omega
 rw[jC,jC,hk,h2,acP,ab6 _ _ (aaz _)]
 simp
theorem kNum8(rows:Rows)(k:D->Rows->Prop)(n:BitVec 64):aI Mb rows k [.raw (u64 n),.raw (it 8)]=k (.sl L8 (0+rows.length) [] 0 8 false) (rows++[some ⟨L8,bs (ya 8 n)⟩]):=by
 refine(a9 rfl (r:=dF (ya 8 n) false) ?_).trans ?_
 ·rw[Mb,gR (yN _) (lc 8) (by decide)];rfl
 ·simp[dF,shift,ab,Sh.pure,numL_len]
def Ql:Fn:=mV dB (λp=>Nat.ble p.length 1099511627000) λp=>(aO (cM p),[])
theorem rsum_ok(C:bf)(hC:aJ C P)(h9:C.fn 17=some GJ)(h21:C.fn 86=some Dg)(h24:C.fn 85=some Mb):aN C.aX P 32 (Fn.run Ql):=by
 refine bU (PV C hC) λds rows r h=>?_
 obtain⟨d,p,rfl,rfl,hd,hp,rfl⟩:=a8 h
 obtain⟨x0,hx⟩:=cb hd
 simp only[abo]at hp
 refine⟨rfl,_,.cons hx .nil,ag rfl ?_⟩
 clear h hd hx
 unfold FE FF
 have hcut:=λrows k=>kCut rows k (.cI L8 (bs p) x0) p (p.length:Int) (.inr ⟨x0,rfl⟩) (by omega) (by rw[aau];omega)
 have ht:p.take (p.length:Int).toNat=p:=by rw[aaB,aaV]
 simp only[ht]at hcut
 simp only[↓ah,aj,simprocAttr,aM,h9,aB,hcut,abp]
 have SK:(bs p).take p.length=bs p:=fT p
 have hof:BitVec.ofInt 64 (p.length:Int)=BitVec.ofNat 64 p.length:=rfl
 simp only[SK,hof]
 refine⟨aB p,by omega,by omega,?_⟩
 obtain⟨z,hz⟩:∃z,mG (BitVec.ofNat 64 p.length)=z:=⟨_,rfl⟩
 have Sz:z=(119-p.length %64) %64:=by rw[<-hz];exact Mj _ (by omega)
 have ne0:∀{rows:Rows} {x:D} {l:List (BitVec 8)} {y:D},iT L8 x rows (bs l)->live rows 0=some ⟨.ar 32 L8,[y]⟩->∀ex,x≠ .sl L8 0 [] 0 (bs l).length ex:=by
  intro rows x l y how hl ex he
  rcases how with⟨_,h⟩|⟨r,og,h,hr⟩
  ·rw[h]at he;cases he
  ·rw[h]at he
   injection he with _ hr0
   subst hr0
   rw[hl]at hr
   cases hr
 have tm:∀n:Nat,((n:Int).tmod 64)=((n %64:Nat):Int):=λn=>by rw[abK (by omega)];omega
 have how0:∀R:Rows,live R 3=some ⟨L8,bs p++[.raw (u8 128#8)]⟩->iT L8 (.sl L8 3 [] 0 (p.length+1) false) R (bs (p++[128#8]++List.replicate 0 0#8)):=λR h=>by
  refine .inr ⟨3,false,by rw[aB];simp,?_⟩
  rw[List.replicate_zero,aaL,GX];exact h
 refine bg z (λi env rows=>∃x y,has env [(0,x),(3,.raw (u64 (BitVec.ofNat 64 p.length))),(2,.ptr (.ar 32 L8) 0 [0])]/\live rows 0=some ⟨.ar 32 L8,[y]⟩/\iT L8 x rows (bs (p++[128#8]++List.replicate i 0#8))) ?_ ?_ ⟨_,_,?_,rfl,how0 _ rfl⟩
 ·rintro i hi env rows ⟨x,y,hh,r0,how⟩ R hR
  simp only[has]at hh
  obtain⟨q0,q3,q2,-⟩:=hh
  have hl:(p++[128#8]++List.replicate i 0#8).length=p.length+1+i:=by simp;omega
  have xf:(bs (p++[128#8]++List.replicate i 0#8)).length=p.length+1+i:=by rw[aB,hl]
  have c1:(((p.length+1+i:Nat):Int).tmod 64=56)=False:=aax (by rw[tm];omega)
  simp only[↓ah,aj,simprocAttr,q0,q3,q2,how.dQ,xf,c1,aaw]
  refine iq how.push (by rw[xf];simp only[aaP,aaT];unfold most;omega) (by rw[xf];simp only[aaP,aaT];unfold most;omega) ?_
  intro x' aa how' hk _ _
  simp only[↓ah,aj,simprocAttr,q0,q3,q2]
  refine hR _ _ ⟨x',y,by simp only[has,↓ah,aj,simprocAttr,q3,q2],hk 0 _ (a7 r0) (λex=>ne0 how r0 ex),?_⟩
  rw[List.replicate_succ',<-aaC,GX]
  exact how'
 ·rintro env rows ⟨x,y,hh,r0,how⟩ R
  simp only[has]at hh
  obtain⟨q0,q3,q2,-⟩:=hh
  have hl:(p++[128#8]++List.replicate z 0#8).length=p.length+1+z:=by simp;omega
  have xf:(bs (p++[128#8]++List.replicate z 0#8)).length=p.length+1+z:=by rw[aB,hl]
  have c1:(((p.length+1+z:Nat):Int).tmod 64=56)=True:=aas (by rw[tm];omega)
  have b8:(bs (Qi (BitVec.ofNat 64 p.length<<<3) 8)).take 8=bs (Qi (BitVec.ofNat 64 p.length<<<3) 8):=by rw[dO];congr 1
  have b9:(bs (Qi (BitVec.ofNat 64 p.length<<<3) 8)).length=8:=by rw[aB,NX]
  generalize hT:p++[128#8]++List.replicate z 0#8=T at*
  generalize hK:p.length+1+z=K at hl xf c1
  simp only[↓ah,aj,simprocAttr,aM,q0,q3,q2,how.dQ,xf,c1,h24,kNum8,shl3,num8,b8,b9,aav]
  refine iq how.push (by rw[xf,b9];unfold most;omega) (by rw[xf,b9];unfold most;omega) ?_
  intro x' aa how' hk _ hx'
  have Zv:=hk 0 _ (a7 r0) (λex=>ne0 how r0 ex)
  have htx:bs T++bs (Qi (BitVec.ofNat 64 p.length<<<3) 8)=bs (j7 p):=by
   rw[j3,<-hT];simp only[j7,Jd,hz,aaC]
  rw[htx]at how' hx'
  obtain⟨rt,ext,hx'⟩:=hx'
  rw[aB]at hx'
  have hlt:live aa rt=some ⟨L8,bs (j7 p)⟩:=by
   rcases how' with⟨_,h⟩|⟨r2,Kp,h,h2⟩
   ·rw[h]at hx';cases hx'
   ·rw[aB]at h;rw[h]at hx';cases hx';exact h2
  subst hx'
  obtain⟨Fo,pE⟩:=text_len p (by omega)
  obtain⟨m,hm⟩:∃m,(j7 p).length=64*m:=⟨(j7 p).length/64,by omega⟩
  simp only[↓ah,aj,simprocAttr,aM,q0,q3,q2]
  have hr4:rt≠aa.length:=by have:=bb hlt;omega
  have hr40:0≠aa.length:=by have:=bb Zv;omega
  refine bg m (λj env rows=>has env [(0,.sl L8 rt [] 0 (j7 p).length ext),(2,.ptr (.ar 32 L8) 0 [0]),(4,.ptr (.ar 8 cJ) aa.length [0]),(5,.raw (it ((64*j:Nat):Int)))]/\live rows 0=some ⟨.ar 32 L8,[y]⟩/\live rows rt=some ⟨L8,bs (j7 p)⟩/\
   live rows aa.length=some ⟨.ar 8 cJ,[.agg (.ar 8 cJ) (us (NZ p j))]⟩) ?_ ?_ ⟨?_,a7 Zv,a7 hlt,?_⟩
  ·rintro j hj env rows ⟨hh,r0,rt_,r4⟩ R hR
   simp only[has]at hh
   obtain⟨q0,q2,q4,q5,-⟩:=hh
   have e0:(((64*j:Nat):Int)<((j7 p).length:Int))=True:=aas (by omega)
   have e1:((0:Int)<=((64*j:Nat):Int))=True:=aas (by omega)
   have e2:wz (((64*j:Nat):Int)+64)=((64*(j+1):Nat):Int):=by rw[aZ (by omega)];omega
   have e3:(((64*j:Nat):Int)<=((64*(j+1):Nat):Int))=True:=aas (by omega)
   have e4:(((64*(j+1):Nat):Int)<=((j7 p).length:Int))=True:=aas (by omega)
   have e5:64*(j+1)-64*j=64:=by omega
   have FB:=Qk p j (by omega)
   have s4:∀x,live (rows.set aa.length (some x)) aa.length=some x:=λx=>iS r4
   simp only[↓ah,aj,simprocAttr,q0,q2,q4,q5,h21,e0,e1,e2,e3,e4,e5,r4,aav]
   refine Eq.mpr (kPressR _ _ _ _ _ (aU.sub rt_ (by omega)) FB (by rw[aau,aar];omega)) ?_
   rw[<-XX p j (by omega)]
   simp only[↓ah,aj,simprocAttr,q0,q2,q4,q5,e2,r4]
   exact hR _ _ ⟨by simp only[has,↓ah,aj,simprocAttr,q0,q2,q4],(az hr40.symm).trans r0,(az hr4.symm).trans rt_,s4 _⟩
  ·rintro env rows ⟨hh,r0,rt_,r4⟩ R
   simp only[has]at hh
   obtain⟨q0,q2,q4,q5,-⟩:=hh
   have e0:(((64*m:Nat):Int)<((j7 p).length:Int))=False:=aax (by omega)
   simp only[↓ah,aj,simprocAttr,aM,q0,q2,q4,q5,e0,ae r4,aaw]
   have hS:cM p=gO (NZ p m):=by
    rcases sumS_eq p with h|h
    ·rw[h,hm];congr 2;omega
    ·exact absurd Fo h
   have FB:=Qk p m (by omega)
   generalize NZ p m=w at*
   have hr60:0≠rows.length:=by have:=bb r0;omega
   refine bg 8 (λi env R0=>has env [(2,.ptr (.ar 32 L8) 0 [0]),(46,.agg (.ar 8 cJ) (us w)),(6,.ptr (.ar 32 L8) rows.length [0]),(47,.raw (it (i:Int)))]/\live R0 0=some ⟨.ar 32 L8,[y]⟩/\
    live R0 rows.length=some ⟨.ar 32 L8,[.agg (.ar 32 L8) (bs (jC (gO (w.take i)) 32))]⟩) ?_ ?_ ⟨?_,a7 r0,?_⟩
   ·rintro i hi env R0 ⟨hh,r0,r6⟩ R hR
    simp only[has]at hh
    obtain⟨q2,q46,q6,q47,-⟩:=hh
    have e0:((i:Int)<8)=True:=aas (by omega)
    have e9:((0:Int)<=(i:Int))=True:=aas (by omega)
    have XT:=ca i (by omega)
    have eg:(us w)[i]?=some (.raw (u32 (w.getD i 0#32))):=ia (by omega)
    have hl:(gO (w.take i)).length=4*i:=by rw[mr,aau];omega
    simp only[↓ah,aj,simprocAttr,aM,q2,q46,q6,q47,h24,e0,e9,eg,kNum,aav]
    refine bg 4 (λj env R1=>has env [(2,.ptr (.ar 32 L8) 0 [0]),(46,.agg (.ar 8 cJ) (us w)),(6,.ptr (.ar 32 L8) rows.length [0]),(47,.raw (it (i:Int))),(7,.raw (it (i:Int))),(53,.sl L8 R0.length [] 0 4 false),(54,.raw (it 4)),(55,.raw (it (j:Int)))]/\live R1 0=some ⟨.ar 32 L8,[y]⟩/\
     live R1 rows.length=some ⟨.ar 32 L8,[.agg (.ar 32 L8) (bs (jC (gO (w.take i)++(bi (w.getD i 0#32)).take j) 32))]⟩/\live R1 R0.length=some ⟨L8,bs (bi (w.getD i 0#32))⟩) ?_ ?_ ⟨?_,a7 r0,?_,?_⟩
    ·rintro j hj env R1 ⟨hh,Zv,r6',rn⟩ R hR
     simp only[has]at hh
     obtain⟨q2,q46,q6,q47,q7,q53,q54,q55,-⟩:=hh
     have f0:((j:Int)<4)=True:=aas (by omega)
     have f1:((0:Int)<=(j:Int))=True:=aas (by omega)
     have f2:wz (4*(i:Int))=((4*i:Nat):Int):=by rw[aZ (by omega)];omega
     have f3:wz (((4*i:Nat):Int)+(j:Int))=((4*i+j:Nat):Int):=by rw[aZ (by omega)];omega
     have f4:((0:Int)<=((4*i+j:Nat):Int))=True:=aas (by omega)
     have f5:(((4*i+j:Nat):Int)<32)=True:=aas (by omega)
     have f6:=ca j (by omega)
     have g1:(bs (bi (w.getD i 0#32)))[j]?=some (.raw (u8 ((bi (w.getD i 0#32)).getD j 0#8))):=j4 (by rw[m9];omega)
     have hl3:(gO (w.take i)++(bi (w.getD i 0#32)).take j).length=4*i+j:=by rw[aao,hl,aau,m9];omega
     have g2:(bs (jC (gO (w.take i)++(bi (w.getD i 0#32)).take j) 32))[4*i+j]?=some (.raw (u8 ((jC (gO (w.take i)++(bi (w.getD i 0#32)).take j) 32).getD (4*i+j) 0#8))):=j4 (by rw[yP (by omega)];omega)
     have g3:(jC (gO (w.take i)++(bi (w.getD i 0#32)).take j) 32).set (4*i+j) ((bi (w.getD i 0#32)).getD j 0#8)=jC (gO (w.take i)++(bi (w.getD i 0#32)).take (j+1)) 32:=by
      have:=XY (l:=gO (w.take i)++(bi (w.getD i 0#32)).take j) (n:=32) (by omega) ((bi (w.getD i 0#32)).getD j 0#8)
      rw[hl3]at this
      rw[this,lg (z:=0#8) (by rw[m9];omega),aaC]
     simp only[↓ah,aj,simprocAttr,q2,q46,q6,q47,q7,q53,q54,q55,f0,f1,f2,f3,f4,f5,f6,rn,r6',g1,g2,NQ,g3,aav]
     have hne:rows.length≠R0.length:=by have:=bb r6;omega
     exact hR _ _ ⟨by simp only[has,↓ah,aj,simprocAttr,q2,q46,q6,q47,q7,q53,q54],(az hr60.symm).trans Zv,iS r6',(az hne).trans rn⟩
    ·rintro env R1 ⟨hh,Zv,r6',rn⟩ R2
     simp only[has]at hh
     obtain⟨q2,q46,q6,q47,q7,q53,q54,q55,-⟩:=hh
     simp only[↓ah,aj,simprocAttr,q2,q46,q6,q47,q7,q53,q54,q55,XT]
     have hd:gO (w.take (i+1))=gO (w.take i)++(bi (w.getD i 0#32)).take 4:=by
      rw[EG (by omega),Jb]
      simp[gO,aaq (adx (m9 _))]
     exact hR _ _ ⟨by simp only[has,↓ah,aj,simprocAttr,q2,q46,q6],Zv,by rw[hd];exact r6'⟩
    ·simp only[has,↓ah,aj,simprocAttr,q2,q46,q6,q47]
    ·rw[abL,aaL];exact a7 r6
    ·exact pb
   ·rintro env R0 ⟨hh,r0,r6⟩ R
    simp only[has]at hh
    obtain⟨q2,q46,q6,q47,-⟩:=hh
    have s0:∀x,live (R0.set 0 (some x)) 0=some x:=λx=>iS r0
    have hf:jC (gO (w.take 8)) 32=cM p:=by rw[hS,aaq (by omega),Jc (by rw[mr];omega)]
    rw[hf]at r6
    simp only[↓ah,aj,simprocAttr,q2,q46,q6,q47,r6,r0,s0]
    exact .val _ rfl
   ·simp only[has,↓ah,aj,simprocAttr,q2]
   ·rw[pb];rfl
  ·simp only[has,↓ah,aj,simprocAttr,q2]
  ·rw[pb];rfl
 ·simp only[has,↓ah,aj,simprocAttr]
theorem view8{rows:Rows}{x:D}{y:List (BitVec 8)}(h:aU rows x y):∃x',view rows 8 x=some x'/\ez x' y:=by
 obtain⟨⟨d',h1,h2⟩,-⟩:=h
 have key : view rows 8 x = some d' := by
  cases x with
  |raw v=>exact h1
  | sl s r p off len e =>
   simp only[view]at h1⊢
   cases he:elems rows (.sl s r p off len e)with
   |none=>rw[he]at h1;cases h1
   | some l =>
    rw[he]at h1
    simp only at h1⊢
    cases hl:(!(l.length==len))with
    |true=>rw[hl]at h1;cases h1
    | false =>
     rw[hl]at h1
     cases hp:s.pure with
     |true=>rw[hp]at h1;exact h1
     | false =>
      rw[hp]at h1
      simp only[aaM]at h1
      split at h1
      ·cases h1
       rcases h2 with⟨h,_⟩|⟨e2,h⟩
       ·cases h
       ·injection h with hs;subst hs;cases hp
      ·cases h1
  | cI s l e =>
   simp only[view]at h1⊢
   cases hp:s.pure with
   |true=>rw[hp]at h1;exact h1
   | false =>
    rw[hp]at h1
    simp only[aaM]at h1
    split at h1
    ·cases h1
     rcases h2 with⟨h,_⟩|⟨e2,h⟩
     ·cases h
     ·injection h with hs;subst hs;cases hp
    ·cases h1
  | ptr s r p =>
   simp only[view]at h1
   split at h1
   ·split at h1
    ·cases hp:s.pure<;>rw[hp]at h1
     ·simp only[aaM]at h1
      split at h1
      ·cases h1;rcases h2 with⟨h,_⟩|⟨e2,h⟩<;>cases h
      ·cases h1
     ·cases h1;rcases h2 with⟨h,_⟩|⟨e2,h⟩<;>cases h
    ·cases h1
   ·cases h1
  | agg s l =>
   simp only[view]at h1
   cases hp:s.pure<;>rw[hp]at h1
   ·simp only[aaM]at h1
    split at h1
    ·cases h1;rcases h2 with⟨h,_⟩|⟨e2,h⟩<;>cases h
    ·cases h1
   ·cases h1;rcases h2 with⟨h,_⟩|⟨e2,h⟩<;>cases h
  |nX=>simp[view]at h1
  |cd d=>exact h1
  |cA=>simp[view]at h1
  |om=>exact h1
  |Fi=>simp[view]at h1
  |mp r=>
   simp only[view]at h1⊢
   exact h1
 exact⟨d',key,h2⟩
theorem rP{rows:Rows}:∀{l:List D} {ls:List (List (BitVec 8))},bd (λx y=>aU rows x y) l ls->∃l',dU (view rows 8) l=some l'/\dU dB l'=some ls:=by
 intro l
 induction l with
 |nil=>
  intro ls h
  have:ls=[]:=aaF h.len.symm
  subst this
  exact⟨[],rfl,rfl⟩
 | cons x l ih =>
  intro ls h
  match ls,h.len with
  |y::ls,_=>
   obtain⟨x',h1,h2⟩:=view8 h.head
   obtain⟨l',h3,h4⟩:=ih h.tail
   exact⟨x'::l',by simp only[dU,h1,h3],by simp only[dU,h2.rd,h4]⟩
theorem F5{pre:List (List (BitVec 8))->Bool}{out:List (List (BitVec 8))->D×Rows}{rows:Rows}{k:D->Rows->Prop}{r n:Nat}{ex:Bool}{l:List D}{ls:List (List (BitVec 8))}(hl:live rows r=some ⟨.ref,l⟩)(hn:l.length=n)
  (hv:bd (λx y=>aU rows x y) l ls)(hp:pre ls=true)(hr:(cj (out ls).1&&be (out ls).2)=true):aI (mV rM pre out) rows k [.sl .ref r [] 0 n ex]=k (shift rows.length (out ls).1) (rows++ab rows.length (out ls).2):=by
 obtain⟨l',h1,h2⟩:=rP hv
 have he:elems rows (.sl .ref r [] 0 n ex)=some l:=by simp[elems,hl,<-hn]
 have hvw:view rows 9 (.sl .ref r [] 0 n ex)=some (.cI .ref l' ex):=by
  simp only[view,he,hn,ab3,aa8,aaM,Sh.pure,h1]
 refine BV (λd2 tD=>?_) ⟨_,hvw⟩ (λhh=>by simp[aR]at hh) hr
 rw[hvw]at tD
 cases tD
 exact eK (by simpa[rM]using h2) hp
theorem N0(rows:Rows)(k:D->Rows->Prop)(r n:Nat)(ex:Bool)(l:List D)(ls:List (List (BitVec 8)))(hl:live rows r=some ⟨.ref,l⟩)(hn:l.length=n)
  (hv:bd (λx y=>aU rows x y) l ls)(hp:ls.length<=1099511627776)(sq:ls.flatten.length<=1099511627776):aI Di rows k [.sl .ref r [] 0 n ex]=k (.agg (.ar 32 L8) (bs (cM ls.flatten))) rows:=by
 refine(F5 hl hn hv (by simp only[aan,abo];exact⟨hp,sq⟩) (by simp[aO,cj,be,Sh.pure])).trans ?_
 simp[aO,shift,ab,Sh.pure]
theorem kJoin(rows:Rows)(k:D->Rows->Prop)(r n:Nat)(ex:Bool)(l:List D)(ls:List (List (BitVec 8)))(hl:live rows r=some ⟨.ref,l⟩)(hn:l.length=n)
  (hv:bd (λx y=>aU rows x y) l ls)(hp:ls.length<=1099511627776)(sq:ls.flatten.length<=1099511627776):aI Md rows k [.sl .ref r [] 0 n ex]=k (.sl L8 (0+rows.length) [] 0 ls.flatten.length false) (rows++[some ⟨L8,bs ls.flatten⟩]):=by
 refine(F5 hl hn hv (by simp only[aan,abo];exact⟨hp,sq⟩) (by simp[dF,cj,be,Sh.pure])).trans ?_
 simp[dF,shift,ab,Sh.pure]
theorem kRSum(rows:Rows)(k:D->Rows->Prop)(d:D)(p:List (BitVec 8))(h:aU rows d p)(hp:p.length<=1099511627000):aI Ql rows k [d]=k (.agg (.ar 32 L8) (bs (cM p))) rows:=by
 refine(qB h (by simpa using hp) (by simp[aO,cj,be,Sh.pure])).trans ?_
 simp[aO,shift,ab,Sh.pure]
theorem eqL_bs(l:List (BitVec 8)):yz (bs l) (bs l)=some true:=by
 induction l with
 |nil=>rfl
 |cons b l ih=>
  have e1:y6 (.raw (u8 b)) (.raw (u8 b))=some true:=by simp[y6,jF,u8]
  show yz (.raw (u8 b)::bs l) (.raw (u8 b)::bs l)=_
  rw[eL_c,e1,ih];rfl
theorem nP(s:St):D.fits (uG s) OT=true:=by simp[uG,D.fits]
theorem Ml(s:St)(h:s.ok=true):(pw s).length=32:=by
 rw[pw,mr,(st_ok (fq _ _ h)).1]
theorem cm(p:List (BitVec 8)):(cM p).length=32:=Ml _ (fq _ _ oO)
theorem uH{s:Sh}{d:D}{rows:Rows}{els news:List D}{bytes:Nat}{k:D->Rows->Prop}(h:iT s d rows els)(hb:(els.length+news.length)*bytes<=most)(Ln:els.length+news.length<=most)
  (hk:∀aa,live aa rows.length=some ⟨s,els++news⟩->(∀r x,live rows r=some x->(∀ex n,d≠ .sl s r [] 0 n ex)->live aa r=some x)->aa.length=rows.length+1->k (.sl s rows.length [] 0 (els.length+news.length) false) aa):wW rows s bytes d news k:=by
 unfold wW
 rw[h.elems,h.dQ]
 refine⟨h.fa,rfl,hb,Ln,?_⟩
 rcases h with⟨rfl,rfl⟩|⟨r,ex,rfl,hl⟩
 ·simp only[isNil,adS,aaU,kill]
  exact hk _ pb (λr x hx _=>a7 hx) (by simp)
 ·simp only[isNil,owned,acy,aaU,kill]
  have h1:(rows.set r none).length=rows.length:=by simp
  refine hk _ (by rw[<-h1];exact pb) (λr' x hx hne=>?_) (by simp)
  have hr:r≠r':=λe=>hne ex _ (by rw[e])
  refine a7 ?_
  unfold live at hx⊢
  rw[abP hr];exact hx
theorem aD{rows:Rows}{r:Nat}{x y:Row}(h:live rows r=some x):live (rows.set r (some y)) r=some y:=by
 have:=bb h
 simp[live,this]
theorem df{rows:Rows}{r q:Nat}{x y:Row}(h:live rows r=some x)(hn:q≠r):live (rows.set q (some y)) r=some x:=by
 unfold live at h⊢
 rw[abP hn];exact h
theorem jI{s s':Sh}{d:D}{rows:Rows}{els els':List D}{r:Nat}(h:iT s d rows els)(hl:live rows r=some ⟨s',els'⟩)(hs:s'≠s):∀ex n,d≠ .sl s r [] 0 n ex:=by
 intro ex n e
 rcases h with⟨-,rfl⟩|⟨r2,Kp,rfl,xf⟩
 ·cases e
 ·injection e with _ e
  subst e
  rw[xf]at hl
  injection hl with hl
  injection hl with h1 h2
  exact hs h1.symm
theorem Mm{s:Sh}{d:D}{rows:Rows}{els:List D}(h:iT s d rows els):D.fits d .ref=true:=by
 rcases h with⟨-,rfl⟩|⟨r,ex,rfl,-⟩<;>rfl
theorem Dj{β:Type}{GI:D->Option β}{y:β}{pre:List (BitVec 8)->β->Bool}{out:List (BitVec 8)->β->D×Rows}{rows:Rows}{k:D->Rows->Prop}{d:D}{v:Value}{a:List (BitVec 8)}(h:aU rows d a)(h2:GI (.raw v)=some y)(hp:pre a y=true)
  (hr:(cj (out a y).1&&be (out a y).2)=true):aI (tW dB GI pre out) rows k [d,.raw v]=k (shift rows.length (out a y).1) (rows++ab rows.length (out a y).2):=by
 obtain⟨⟨d',j9,hb⟩,hn⟩:=h
 have hv:view rows 9 (.raw v)=some (.raw v):=rfl
 unfold aI
 simp only[dU,j9,hv,bn,gR hb.rd h2 hp,hr,aa2]
 cases hh:aW [d,.raw v]with
 |true=>simp
 |false=>
  simp[aW]at hh
  simp only[gR (hn hh.1).rd h2 hp]
  simp
theorem kCutI(rows:Rows)(k:D->Rows->Prop)(d:D)(p:List (BitVec 8))(n:Int)(h:aU rows d p)(hp:p.length<=9223372036854775807)(sq:(p.take n.toNat).length<=1099511627776):aI GJ rows k [d,.raw (it n)]=k (.sl L8 (0+rows.length) [] 0 (p.take n.toNat).length false) (rows++[some ⟨L8,bs (p.take n.toNat)⟩]):=by
 refine(Dj h (lc n) (by rw[aan,abo,abo];exact⟨hp,sq⟩) rfl).trans ?_
 rfl
def tM:Fn:=mV dB (λa=>Nat.ble a.length most) λa=>dF a false
theorem Qm(C:bf)(hC:aJ C P):aN C.aX P 73 (Fn.run tM):=by
 refine bU (KK C hC) λds rows r h=>?_
 obtain⟨d,a,rfl,rfl,hd,hp,rfl⟩:=a8 h
 obtain⟨x,hx⟩:=cb hd
 refine⟨rfl,_,.cons hx .nil,ag rfl ?_⟩
 simp only[abo]at hp
 clear h hx hd
 unfold zN zO
 simp only[↓ah,aj,simprocAttr,aB]
 unfold most at hp
 refine⟨λh0=>?_,by omega,by omega,.own L8 1 0 a.length false false _ rfl rfl id⟩
 cases a with
 |nil=>exact .nil0 L8
 |cons b l=>simp at h0
theorem Ji(rows:Rows)(k:D->Rows->Prop)(d:D)(p:List (BitVec 8))(h:aU rows d p)(hp:p.length<=1099511627776):aI tM rows k [d]=k (.sl L8 (0+rows.length) [] 0 p.length false) (rows++[some ⟨L8,bs p⟩]):=by
 refine(qB h (by simpa[most]using hp) rfl).trans ?_
 rfl
end jU
end Go.Am
namespace Go.Am
namespace jU
def bk{α:Type}(rows:Rows)(rd:D->Option α)(d:D)(a:α):Prop:=(∃d',view rows 9 d=some d'/\rd d'=some a)/\(aR d=false->rd d=some a)
theorem bk.raw{α:Type}{rows:Rows}{rd:D->Option α}{v:Value}{a:α}(h:rd (.raw v)=some a):bk rows rd (.raw v) a:=⟨⟨_,rfl,h⟩,λ_=>h⟩
theorem bk.int{rows:Rows}(n:Int):bk rows tH (.raw (it n)) n:= .raw (lc n)
theorem bk.agg{α:Type}{rows:Rows}{rd:D->Option α}{s:Sh}{l:List D}{a:α}(hs:s.pure=true)(h:rd (.agg s l)=some a):bk rows rd (.agg s l) a:=⟨⟨.agg s l,by simp[view,hs],h⟩,λ_=>h⟩
theorem bk.bs{rows:Rows}{d:D}{l:List (BitVec 8)}(h:aU rows d l):bk rows dB d l:=by
 obtain⟨⟨d',j9,hb⟩,hn⟩:=h
 exact⟨⟨d',j9,hb.rd⟩,λhh=>(hn hh).rd⟩
theorem bk.parts{rows:Rows}{r n:Nat}{ex:Bool}{l:List D}{ls:List (List (BitVec 8))}(hl:live rows r=some ⟨.ref,l⟩)(hn:l.length=n)
  (hv:bd (λx y=>aU rows x y) l ls):bk rows rM (.sl .ref r [] 0 n ex) ls:=by
 obtain⟨l',h1,h2⟩:=rP hv
 have he:elems rows (.sl .ref r [] 0 n ex)=some l:=by simp[elems,hl,<-hn]
 have hvw:view rows 9 (.sl .ref r [] 0 n ex)=some (.cI .ref l' ex):=by
  simp only[view,he,hn,ab3,aa8,aaM,Sh.pure,h1]
 exact⟨⟨_,hvw,by simpa[rM]using h2⟩,λh=>by simp[aR]at h⟩
theorem uI{A:Fn}{rows:Rows}{k:D->Rows->Prop}{ds ds':List D}{r:D×Rows}(hv:dU (view rows 9) ds=some ds')(hA:A ds' []=some r)(hn:aW ds=false->A ds []=some r)(hr:(cj r.1&&be r.2)=true):
  aI A rows k ds=k (shift rows.length r.1) (rows++ab rows.length r.2):=by
 unfold aI
 cases hh:aW ds with
 |true=>simp[bn,hv,hA,hr]
 |false=>simp[bn,hn hh]
theorem cO{α:Type}{rd:D->Option α}{pre:α->Bool}{out:α->D×Rows}{rows:Rows}{d:D}{a:α}(h:bk rows rd d a)(hp:pre a=true)(hr:(cj (out a).1&&be (out a).2)=true)(k:D->Rows->Prop):
  aI (mV rd pre out) rows k [d]=k (shift rows.length (out a).1) (rows++ab rows.length (out a).2):=by
 obtain⟨⟨x,hx,hx'⟩,hn⟩:=h
 refine uI (ds':=[x]) (by simp only[dU,hx]) (eK hx' hp) (λhh=>?_) hr
 simp only[aW,acx,acg]at hh
 exact eK (hn hh) hp
theorem gf{α β:Type}{rd:D->Option α}{rd':D->Option β}{pre:α->β->Bool}{out:α->β->D×Rows}{rows:Rows}{d e:D}{a:α}{b:β}(h:bk rows rd d a)(h':bk rows rd' e b)(hp:pre a b=true)
  (hr:(cj (out a b).1&&be (out a b).2)=true)(k:D->Rows->Prop):
  aI (tW rd rd' pre out) rows k [d,e]=k (shift rows.length (out a b).1) (rows++ab rows.length (out a b).2):=by
 obtain⟨⟨x,hx,hx'⟩,hn⟩:=h
 obtain⟨⟨y,hy,hy'⟩,hm⟩:=h'
 refine uI (ds':=[x,y]) (by simp only[dU,hx,hy]) (gR hx' hy' hp) (λhh=>?_) hr
 simp only[aW,acx,acg]at hh
 exact gR (hn hh.1) (hm hh.2) hp
theorem fH{α β γ:Type}{rd:D->Option α}{rd':D->Option β}{GI:D->Option γ}{pre:α->β->γ->Bool}{out:α->β->γ->D×Rows}{rows:Rows}{d e f:D}{a:α}{b:β}{c:γ}(h:bk rows rd d a)(h':bk rows rd' e b)(h2:bk rows GI f c)(hp:pre a b c=true)
  (hr:(cj (out a b c).1&&be (out a b c).2)=true)(k:D->Rows->Prop):
  aI (GY rd rd' GI pre out) rows k [d,e,f]=k (shift rows.length (out a b c).1) (rows++ab rows.length (out a b c).2):=by
 obtain⟨⟨x,hx,hx'⟩,hn⟩:=h
 obtain⟨⟨y,hy,hy'⟩,hm⟩:=h'
 obtain⟨⟨z,hz,Kw⟩,ho⟩:=h2
 refine uI (ds':=[x,y,z]) (by simp only[dU,hx,hy,hz]) (by simp only[Bf,hx',hy',Kw,abc,hp,aaU]) (λhh=>?_) hr
 simp only[aW,acx,acg]at hh
 simp only[Bf,hn hh.1,hm hh.2.1,ho hh.2.2,abc,hp,aaU]
end jU
end Go.Am
namespace Go.Am
attribute [local congr] dq bW dt bX bY cB bI bZ b5 cC bu cD b6 dj
namespace jU
open Go.Am.F
theorem px{l:List (List (BitVec 8))}(h:∀x∈l,x.length=32):l.flatten.length=32*l.length:=by
 induction l with
 |nil=>rfl
 |cons x l ih=>rw[abl,aao,ih (λy hy=>h y (by simp[hy])),h x (by simp),aaP];omega
theorem aU.at{rows:Rows}{r n i off len:Nat}{q:List Nat}{e:Bool}{row:Row}{l:List (BitVec 8)}(h:live rows r=some row)(hg:dC row.els (i::q)=some (.agg (.ar n L8) (bs l)))(hle:off+len<=l.length):aU rows (.sl L8 r (i::q) off len e) ((l.drop off).take len):=by
 refine⟨⟨.cI L8 (bs ((l.drop off).take len)) e,?_,.inr ⟨e,rfl⟩⟩,λh=>by simp[aR]at h⟩
 have h2:Am.elems rows (.sl L8 r (i::q) off len e)=some (bs ((l.drop off).take len)):=by
  simp only[elems,h,hg]
  simp[bs]
 simp only[Am.view]
 rw[h2]
 have hl:(bs ((l.drop off).take len)).length=len:=by simp[bs];omega
 simp[Sh.pure,hl]
theorem oP{rows:Rows}{r n i len:Nat}{q:List Nat}{e:Bool}{row:Row}{l:List (BitVec 8)}(h:live rows r=some row)(hg:dC row.els (i::q)=some (.agg (.ar n L8) (bs l)))(hl:l.length=len):Am.elems rows (.sl L8 r (i::q) 0 len e)=some (bs l):=by
 simp only[elems,h,hg]
 simp[bs,<-hl,aaq]
theorem aU.tf{rows:Rows}{r n i len:Nat}{q:List Nat}{e:Bool}{row:Row}{l:List (BitVec 8)}(h:live rows r=some row)(hg:dC row.els (i::q)=some (.agg (.ar n L8) (bs l)))(hl:l.length=len):aU rows (.sl L8 r (i::q) 0 len e) l:=by
 have:=aU.at (off:=0) (len:=len) (e:=e) h hg (by omega)
 rwa [abi,aaq (by omega)]at this
def qg:List (BitVec 8):=List.replicate 32 0#8
theorem dw:List.replicate 32 (D.raw (u8 0#8))=bs qg:=rfl
theorem inj_id(x y:List (BitVec 8))(h:D.agg (.ar 16 L8) (bs x)= .agg (.ar 16 L8) (bs y)):x=y:=by
 injection h with _ h;exact rO h
def Av(l:List (BitVec 8)):D:= .agg (.ar 16 L8) (bs l)
theorem G5{rows:Rows}(x:List (BitVec 8)):bk rows (bx Av) (.agg (.ar 16 L8) (bs x)) x:=bk.agg rfl (br inj_id x)
def Jj(l:List (List (BitVec 8))):Bool:=l.all λx=>decide (x.length=32)
theorem py{l:List (List (BitVec 8))}:Jj l=true↔∀x∈l,x.length=32:=by simp[Jj]
theorem iM{rows:Rows}(x:List (BitVec 8)):bk rows (bx aO) (.agg (.ar 32 L8) (bs x)) x:=bk.agg rfl (br yc x)
theorem Vx:∀(a b:List (BitVec 8)),a.length=b.length->yz (bs a) (bs b)=some (decide (a=b))
 |[],[],_=>rfl
 | x :: a, y :: b, h => by
  have e1:y6 (.raw (u8 x)) (.raw (u8 y))=some (decide (x=y)):=by
   simp only[y6,jF,u8]
   by_cases h:x=y
   ·subst h;simp
   ·have:¬(x.toNat:Int)=(y.toNat:Int):=λe=>h (aaG (by omega))
    simp[h,this]
  show yz (.raw (u8 x)::bs a) (.raw (u8 y)::bs b)=_
  rw[eL_c,e1,Vx a b (by simpa using h)]
  by_cases h1:x=y<;>by_cases h2:a=b<;>simp[h1,h2]
theorem vF(a b:List (BitVec 8))(ha:a.length=32)(hb:b.length=32):eqA (.ar 32 L8) (.agg (.ar 32 L8) (bs a)) (.agg (.ar 32 L8) (bs b))=some (decide (a=b)):=by
 have:=Vx a b (by omega)
 simp[eqA,this]
end jU
end Go.Am
namespace Go.Am
namespace jU
def numB(l:List (BitVec 8)):Nat:=l.foldl (λn b=>n*256+b.toNat) 0
theorem XZ(a b c d:BitVec 8):numB [a,b,c,d]=(cR [a,b,c,d]).toNat:=by
 have ha:=a.isLt
 have hb:=b.isLt
 have hc:=c.isLt
 have hd:=d.isLt
 have e:∀(x:BitVec 8) (k:Nat),k<=24->(x.setWidth 32<<<k).toNat=x.toNat*2^k:=by
  intro x k hk
  have hx:=x.isLt
  rw[acj,aa9,acw,aby (a:=x.toNat) (by omega)]
  apply aby
  calc x.toNat*2^k<2^8*2^k:=Nat.mul_lt_mul_of_pos_right hx (Nat.pow_pos (by decide))
   _<=2^8*2^24:=Nat.mul_le_mul_left _ (abO (by decide) hk)
   _=2^32:=by decide
 have e8:∀(x:BitVec 8),(x.setWidth 32).toNat=x.toNat:=λx=>by
  have:=x.isLt
  rw[aa9,aby (by omega)]
 have o:∀(x y k:Nat),y<2^k->(x*2^k)|||y=x*2^k+y:=λx y k h=>by
  rw[adh,<-Nat.two_pow_add_eq_or_of_lt h]
 show numB [a,b,c,d]=(a.setWidth 32<<<24|||b.setWidth 32<<<16|||c.setWidth 32<<<8|||d.setWidth 32).toNat
 rw[adE,adE,adE,e a 24 (by decide),e b 16 (by decide),e c 8 (by decide),e8 d,o _ (b.toNat*2^16) 24 (by omega)]
 rw[show a.toNat*2^24+b.toNat*2^16=(a.toNat*256+b.toNat)*2^16 by omega,o _ (c.toNat*2^8) 16 (by omega)]
 rw[show(a.toNat*256+b.toNat)*2^16+c.toNat*2^8=((a.toNat*256+b.toNat)*256+c.toNat)*2^8 by omega,o _ d.toNat 8 (by omega)]
 simp only[numB,adj,adT]
 omega
theorem TH(x:BitVec 32):numB (bi x)=x.toNat:=by
 have hx:=x.isLt
 simp only[bi,numB,adj,adT,aa9,abH,abb]
 omega
def eN(n:Nat):List (BitVec 8):=[BitVec.ofNat 8 (n/256),BitVec.ofNat 8 n]
def lz(id:List (BitVec 8))(q:BitVec 32)(i j:Nat)(x:List (BitVec 8)):List (BitVec 8):=cM (id++bi q++eN i++[BitVec.ofNat 8 j]++x)
theorem ij(id:List (BitVec 8))(q:BitVec 32)(i j:Nat)(x:List (BitVec 8)):(lz id q i j x).length=32:=cm _
def zn(id:List (BitVec 8))(q:BitVec 32)(i:Nat):Nat->Nat->List (BitVec 8)->List (BitVec 8)
 |0,_,x=>x
 |n+1,a,x=>zn id q i n (a+1) (lz id q i a x)
theorem qu(id:List (BitVec 8))(q:BitVec 32)(i:Nat):∀(n a:Nat) (x:List (BitVec 8)),x.length=32->(zn id q i n a x).length=32
 |0,_,x,h=>h
 |n+1,a,x,_=>qu id q i n (a+1) _ (ij _ _ _ _ _)
theorem Dk(id:List (BitVec 8))(q:BitVec 32)(i m:Nat):∀(n a:Nat) (x:List (BitVec 8)),zn id q i (n+m) a x=zn id q i m (a+n) (zn id q i n a x)
 |0,a,x=>by rw[abE];rfl
 |n+1,a,x=>by
  rw[show n+1+m=(n+m)+1 by omega]
  show zn id q i (n+m) (a+1) (lz id q i a x)=zn id q i m (a+(n+1)) (zn id q i n (a+1) (lz id q i a x))
  rw[Dk id q i m n (a+1),show a+1+n=a+(n+1) by omega]
theorem chS_succ(id:List (BitVec 8))(q:BitVec 32)(i n a:Nat)(x:List (BitVec 8)):zn id q i (n+1) a x=lz id q i (a+n) (zn id q i n a x):=Dk id q i 1 n a x
def uJ(id:List (BitVec 8))(q:BitVec 32)(i:Nat)(aF:List (BitVec 8)):List (BitVec 8):=lz id q i 255 aF
def Dl(id:List (BitVec 8))(q:BitVec 32)(l:List (List (BitVec 8))):List (BitVec 8):=cM (id++bi q++eN 32896++l.flatten)
def jE(id:List (BitVec 8))(q:BitVec 32)(aF:List (BitVec 8))(e n:Nat):List (List (BitVec 8)):=(List.range n).map λi=>zn id q i e 0 (uJ id q i aF)
theorem ends_len(id:List (BitVec 8))(q:BitVec 32)(aF:List (BitVec 8))(e n:Nat):∀x∈jE id q aF e n,x.length=32:=by
 intro x hx
 obtain⟨i,-,rfl⟩:=acS.1 hx
 exact qu _ _ _ _ _ _ (ij _ _ _ _ _)
def Zw{α β γ δ:Type}(r0:D->Option α)(r1:D->Option β)(r2:D->Option γ)(r3:D->Option δ)(pre:α->β->γ->δ->Bool)(out:α->β->γ->δ->D×Rows):Fn
 |[d0,d1,d2,d3],[]=>match r0 d0,r1 d1,r2 d2,r3 d3 with
  |some x0,some x1,some x2,some x3=>bif pre x0 x1 x2 x3 then some (out x0 x1 x2 x3)else none
  | _,_,_,_=>none
 | _,_=>none
theorem rQ{α β γ δ:Type}{r0:D->Option α}{r1:D->Option β}{r2:D->Option γ}{r3:D->Option δ}{pre:α->β->γ->δ->Bool}{out:α->β->γ->δ->D×Rows}{ds:List D}{rows:Rows}{r:D×Rows}(h:Zw r0 r1 r2 r3 pre out ds rows=some r):
  ∃d0 d1 d2 d3 x0 x1 x2 x3,ds=[d0,d1,d2,d3]/\rows=[]/\r0 d0=some x0/\r1 d1=some x1/\r2 d2=some x2/\r3 d3=some x3/\pre x0 x1 x2 x3=true/\r=out x0 x1 x2 x3:=by
 unfold Zw at h
 split at h
 ·rename_i d0 d1 d2 d3
  split at h
  ·rename_i x0 x1 x2 x3 h0 h1 h2 h3
   cases hp:pre x0 x1 x2 x3 with
   |false=>rw[hp]at h;cases h
   |true=>rw[hp]at h;cases h;exact⟨d0,d1,d2,d3,x0,x1,x2,x3,rfl,rfl,h0,h1,h2,h3,hp,rfl⟩
  ·cases h
 ·cases h
theorem TI{α β γ δ:Type}{r0:D->Option α}{r1:D->Option β}{r2:D->Option γ}{r3:D->Option δ}{pre:α->β->γ->δ->Bool}{out:α->β->γ->δ->D×Rows}{d0 d1 d2 d3:D}{x0:α}{x1:β}{x2:γ}{x3:δ}(h0:r0 d0=some x0)(h1:r1 d1=some x1)(h2:r2 d2=some x2)(h3:r3 d3=some x3)(hp:pre x0 x1 x2 x3=true):
  Zw r0 r1 r2 r3 pre out [d0,d1,d2,d3] []=some (out x0 x1 x2 x3):=by
 simp[Zw,h0,h1,h2,h3,hp]
theorem uK{α β γ δ:Type}{r0:D->Option α}{r1:D->Option β}{r2:D->Option γ}{r3:D->Option δ}{pre:α->β->γ->δ->Bool}{out:α->β->γ->δ->D×Rows}{rows:Rows}{d0 d1 d2 d3:D}{x0:α}{x1:β}{x2:γ}{x3:δ}(h0:bk rows r0 d0 x0)(h1:bk rows r1 d1 x1)(h2:bk rows r2 d2 x2)(h3:bk rows r3 d3 x3)(hp:pre x0 x1 x2 x3=true)
  (hr:(cj (out x0 x1 x2 x3).1&&be (out x0 x1 x2 x3).2)=true)(k:D->Rows->Prop):
  aI (Zw r0 r1 r2 r3 pre out) rows k [d0,d1,d2,d3]=k (shift rows.length (out x0 x1 x2 x3).1) (rows++ab rows.length (out x0 x1 x2 x3).2):=by
 obtain⟨⟨y0,a0,b0⟩,c0⟩:=h0
 obtain⟨⟨y1,a1,b1⟩,c1⟩:=h1
 obtain⟨⟨y2,a2,b2⟩,c2⟩:=h2
 obtain⟨⟨y3,a3,b3⟩,c3⟩:=h3
 refine uI (ds':=[y0,y1,y2,y3]) (by simp only[dU,a0,a1,a2,a3]) (TI b0 b1 b2 b3 hp) (λhh=>?_) hr
 simp only[aW,acx,acg]at hh
 exact TI (c0 hh.1) (c1 hh.2.1) (c2 hh.2.2.1) (c3 hh.2.2.2) hp
def gn5{α β γ δ ε:Type}(r0:D->Option α)(r1:D->Option β)(r2:D->Option γ)(r3:D->Option δ)(r4:D->Option ε)(pre:α->β->γ->δ->ε->Bool)(out:α->β->γ->δ->ε->D×Rows):Fn
 |[d0,d1,d2,d3,d4],[]=>match r0 d0,r1 d1,r2 d2,r3 d3,r4 d4 with
  |some x0,some x1,some x2,some x3,some x4=>bif pre x0 x1 x2 x3 x4 then some (out x0 x1 x2 x3 x4)else none
  | _,_,_,_,_=>none
 | _,_=>none
theorem Qn{α β γ δ ε:Type}{r0:D->Option α}{r1:D->Option β}{r2:D->Option γ}{r3:D->Option δ}{r4:D->Option ε}{pre:α->β->γ->δ->ε->Bool}{out:α->β->γ->δ->ε->D×Rows}{ds:List D}{rows:Rows}{r:D×Rows}(h:gn5 r0 r1 r2 r3 r4 pre out ds rows=some r):
  ∃d0 d1 d2 d3 d4 x0 x1 x2 x3 x4,ds=[d0,d1,d2,d3,d4]/\rows=[]/\r0 d0=some x0/\r1 d1=some x1/\r2 d2=some x2/\r3 d3=some x3/\r4 d4=some x4/\pre x0 x1 x2 x3 x4=true/\r=out x0 x1 x2 x3 x4:=by
 unfold gn5 at h
 split at h
 ·rename_i d0 d1 d2 d3 d4
  split at h
  ·rename_i x0 x1 x2 x3 x4 h0 h1 h2 h3 h4
   cases hp:pre x0 x1 x2 x3 x4 with
   |false=>rw[hp]at h;cases h
   |true=>rw[hp]at h;cases h;exact⟨d0,d1,d2,d3,d4,x0,x1,x2,x3,x4,rfl,rfl,h0,h1,h2,h3,h4,hp,rfl⟩
  ·cases h
 ·cases h
theorem gn5_eq{α β γ δ ε:Type}{r0:D->Option α}{r1:D->Option β}{r2:D->Option γ}{r3:D->Option δ}{r4:D->Option ε}{pre:α->β->γ->δ->ε->Bool}{out:α->β->γ->δ->ε->D×Rows}{d0 d1 d2 d3 d4:D}{x0:α}{x1:β}{x2:γ}{x3:δ}{x4:ε}(h0:r0 d0=some x0)(h1:r1 d1=some x1)(h2:r2 d2=some x2)(h3:r3 d3=some x3)(h4:r4 d4=some x4)(hp:pre x0 x1 x2 x3 x4=true):
  gn5 r0 r1 r2 r3 r4 pre out [d0,d1,d2,d3,d4] []=some (out x0 x1 x2 x3 x4):=by
 simp[gn5,h0,h1,h2,h3,h4,hp]
theorem Qo{α β γ δ ε:Type}{r0:D->Option α}{r1:D->Option β}{r2:D->Option γ}{r3:D->Option δ}{r4:D->Option ε}{pre:α->β->γ->δ->ε->Bool}{out:α->β->γ->δ->ε->D×Rows}{rows:Rows}{d0 d1 d2 d3 d4:D}{x0:α}{x1:β}{x2:γ}{x3:δ}{x4:ε}(h0:bk rows r0 d0 x0)(h1:bk rows r1 d1 x1)(h2:bk rows r2 d2 x2)(h3:bk rows r3 d3 x3)(h4:bk rows r4 d4 x4)(hp:pre x0 x1 x2 x3 x4=true)
  (hr:(cj (out x0 x1 x2 x3 x4).1&&be (out x0 x1 x2 x3 x4).2)=true)(k:D->Rows->Prop):
  aI (gn5 r0 r1 r2 r3 r4 pre out) rows k [d0,d1,d2,d3,d4]=k (shift rows.length (out x0 x1 x2 x3 x4).1) (rows++ab rows.length (out x0 x1 x2 x3 x4).2):=by
 obtain⟨⟨y0,a0,b0⟩,c0⟩:=h0
 obtain⟨⟨y1,a1,b1⟩,c1⟩:=h1
 obtain⟨⟨y2,a2,b2⟩,c2⟩:=h2
 obtain⟨⟨y3,a3,b3⟩,c3⟩:=h3
 obtain⟨⟨y4,a4,b4⟩,c4⟩:=h4
 refine uI (ds':=[y0,y1,y2,y3,y4]) (by simp only[dU,a0,a1,a2,a3,a4]) (gn5_eq b0 b1 b2 b3 b4 hp) (λhh=>?_) hr
 simp only[aW,acx,acg]at hh
 exact gn5_eq (c0 hh.1) (c1 hh.2.1) (c2 hh.2.2.1) (c3 hh.2.2.2.1) (c4 hh.2.2.2.2) hp
end jU
end Go.Am
namespace Go.Am
attribute [local congr] dq bW dt bX bY cB bI bZ b5 cC bu cD b6 dj
namespace jU
open Go.Am.F
abbrev pz:Sh:= .cons LI (.cons LI (.cons LI .nil))
theorem qD{x y:BitVec 32}(h:u32 x=u32 y):x=y:=by
 injection h with _ h
 exact aaG (by omega)
def wT(t:Nat):Nat:=if t=1 then 1 else if t=2 then 2 else if t=3 then 4 else if t=4 then 8 else 0
def pT(t:Nat):Nat:=if t=1 then 265 else if t=2 then 133 else if t=3 then 67 else if t=4 then 34 else 0
def lT(t:Nat):Nat:=if t=1 then 7 else if t=2 then 6 else if t=3 then 4 else 0
def sr(t:Nat):Bool:=decide (1<=t)&&decide (t<=4)
theorem EN{t:BitVec 32}(h:sr t.toNat=true):t=1#32\/t=2#32\/t=3#32\/t=4#32:=by
 simp only[sr,aan,aat]at h
 have:t.toNat=1\/t.toNat=2\/t.toNat=3\/t.toNat=4:=by omega
 rcases this with h|h|h|h
 ·exact .inl (aaG h)
 ·exact .inr (.inl (aaG h))
 ·exact .inr (.inr (.inl (aaG h)))
 ·exact .inr (.inr (.inr (aaG h)))
theorem okT_not{t:Nat}(h:sr t=false):wT t=0/\pT t=0/\lT t=0:=by
 simp only[sr,Bool.and_eq_false_iff,ab7]at h
 refine⟨?_,?_,?_⟩<;>simp only[wT,pT,lT]<;>(repeat' split)<;>omega
structure Par where
 w:Nat
 p:Nat
 l:Nat
def ib(x:Par):D:= .agg pz [.raw (it (x.w:Int)),.raw (it (x.p:Int)),.raw (it (x.l:Int))]
theorem N2{x y:Nat}(h:it (x:Int)=it (y:Int)):x=y:=by
 injection h with _ h;omega
theorem parD_inj(x y:Par)(h:ib x=ib y):x=y:=by
 obtain⟨a,b,c⟩:=x
 obtain⟨d,e,f⟩:=y
 simp only[ib,D.agg.injEq,abC,D.raw.injEq,aa2,acg]at h
 rw[N2 h.1,N2 h.2.1,N2 h.2.2]
theorem cL(x:Par):(ib x).fits pz=true:=rfl
def lC(t:Nat):Par:=⟨wT t,pT t,lT t⟩
theorem rdIn_par{rows:Rows}(x:Par):bk rows (bx ib) (ib x) x:=bk.agg rfl (br parD_inj x)
def EO:D:= .agg (.ar 4 pz) [ib ⟨1,265,7⟩,ib ⟨2,133,6⟩,ib ⟨4,67,4⟩,ib ⟨8,34,0⟩]
def j8:Fn:=mV qs (λ_=>true) λt=>(.cA [ib (lC t.toNat),.raw (.bool (sr t.toNat))],[])
theorem X0(C:bf)(hC:aJ C P)(hg:C.aX 0=some EO):aN C.aX P 37 (Fn.run j8):=by
 refine aG (Nx C hC) λds rows r h=>?_
 obtain⟨d,t,rfl,rfl,hd,hp,rfl⟩:=a8 h
 cases dH hd
 refine⟨rfl,ag rfl ?_⟩
 clear h hd
 unfold B2 B4
 have hz:D.agg pz [.raw (it 0),.raw (it 0),.raw (it 0)]=ib ⟨0,0,0⟩:=rfl
 simp only[hz]
 cases hk:sr t.toNat
 ·obtain⟨hw,hp,hl⟩:=okT_not hk
  have e:lC t.toNat=⟨0,0,0⟩:=by rw[lC,hw,hp,hl]
  rw[e]
  simp only[sr,Bool.and_eq_false_iff,ab7]at hk
  have qE:=t.isLt
  by_cases c:t<1#32
  ·have c1:(t<1#32)=True:=aas c
   simp only[↓ah,aj,simprocAttr,aM,cL,c1,aav]
   exact .val _ rfl
  ·have c1:(t<1#32)=False:=aax c
   have c2:(4#32<t)=True:=aas (by
    rw[acz]at c⊢
    have e1:(1#32).toNat=1:=rfl
    have e4:(4#32).toNat=4:=rfl
    omega)
   simp only[↓ah,aj,simprocAttr,aM,cL,c1,c2,aav,aaw]
   exact .val _ rfl
 ·rcases EN hk with rfl|rfl|rfl|rfl
  ·simp only[↓ah,aj,simprocAttr,aM,cL,hg,EO,BitVec.reduceLT,BitVec.reduceSub,BitVec.reduceToNat,aav,aaw]
   exact .val _ rfl
  ·simp only[↓ah,aj,simprocAttr,aM,cL,hg,EO,BitVec.reduceLT,BitVec.reduceSub,BitVec.reduceToNat,aav,aaw]
   exact .val _ rfl
  ·simp only[↓ah,aj,simprocAttr,aM,cL,hg,EO,BitVec.reduceLT,BitVec.reduceSub,BitVec.reduceToNat,aav,aaw]
   exact .val _ rfl
  ·simp only[↓ah,aj,simprocAttr,aM,cL,hg,EO,BitVec.reduceLT,BitVec.reduceSub,BitVec.reduceToNat,aav,aaw]
   exact .val _ rfl
theorem jJ(rows:Rows)(k:D->Rows->Prop)(t:BitVec 32):aI j8 rows k [.raw (u32 t)]=k (.cA [ib (lC t.toNat),.raw (.bool (sr t.toNat))]) rows:=by
 refine(cO (bk.raw (eO t)) rfl rfl k).trans ?_
 simp[ib,shift,bB,ab,Sh.pure]
end jU
end Go.Am

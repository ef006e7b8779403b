import Derived.Test.YtgcejocgnfkciaaGreatDoorKr14
namespace Go.Am
set_option linter.unusedSimpArgs false
set_option linter.unusedVariables false
attribute [local congr] cd bt cg bu bw bO bg bx bz bP a7 bQ bA b9
namespace iC
open Go.Am.F
set_option maxRecDepth 10000
def us(l:List (BitVec 32)):List D:=l.map fun x=> .raw (u32 x)
theorem mN(l:List (BitVec 32)):(us l).length=l.length:=by simp[us]
theorem ku{l:List (BitVec 32)}{i:Nat}(h:i<l.length):(us l)[i]?=some (.raw (u32 (l.getD i 0#32))):=by
 simp[us,List.getElem?_map,h]
theorem JN(l:List (BitVec 32))(i:Nat)(x:BitVec 32):(us l).set i (.raw (u32 x))=us (l.set i x):=by simp[us,List.map_set]
theorem Xf{a b:List (BitVec 32)}(h:us a=us b):a=b:=(List.map_inj_right fun x y hxy=>by cases(D.raw.inj hxy:u32 x=u32 y)|>QA.1;rfl).1 h
theorem OU(a b:List (BitVec 32)):us a++us b=us (a++b):=by simp[us]
theorem us_rep(n:Nat)(x:BitVec 32):List.replicate n (D.raw (u32 x))=us (List.replicate n x):=by simp[us]
theorem Xg(n:Nat)(x:BitVec 8):List.replicate n (D.raw (u8 x))=bs (List.replicate n x):=by simp[bs]
theorem tu{a b:List (BitVec 8)}(h:bs a=bs b):a=b:=(List.map_inj_right fun x y hxy=>by cases(D.raw.inj hxy:u8 x=u8 y)|>W0.1;rfl).1 h
def Tv(l:List (BitVec 32)):D:= .agg (.ar 8 dk) (us l)
def Tw(l:List (BitVec 32)):D:= .agg (.ar 64 dk) (us l)
def JP(l:List (BitVec 8)):D:= .agg (.ar 64 L8) (bs l)
def aW(l:List (BitVec 8)):D:= .agg (.ar 32 L8) (bs l)
theorem QF(x y:List (BitVec 32))(h:Tv x=Tv y):x=y:=by unfold Tv at h;injection h with _ h;exact Xf h
theorem FX(x y:List (BitVec 8))(h:JP x=JP y):x=y:=by unfold JP at h;injection h with _ h;exact tu h
theorem Al(x y:List (BitVec 8))(h:aW x=aW y):x=y:=by unfold aW at h;injection h with _ h;exact tu h
def JQ(x:BitVec 32)(n:Nat):BitVec 32:=x>>>n|||x<<<(32-n)
def Tx:Fn:=wS qN rC (fun _ k=>decide (-32<k)&&decide (k<0)) fun x k=>(.raw (u32 (JQ x (-k).toNat)),[])
theorem rot_ok(C:be)(hC:aI C P):aO C.aZ P 203 (Fn.run Tx):=by
 refine aH (qP C hC) fun ds rows r h=>?_
 obtain⟨d,e,x,k,rfl,rfl,hd,he,hp,rfl⟩:=dq h
 cases dL hd
 cases bX he
 simp only[Bool.and_eq_true,decide_eq_true_eq]at hp
 obtain⟨n,hn⟩:=Int.eq_ofNat_of_zero_le (by omega:0≤-k)
 obtain rfl:k=-(n:Int):=by omega
 refine⟨rfl,ag rfl ?_⟩
 unfold jX jY
 have e1:BitVec.ofInt 64 (-(n:Int))&&&31#64=BitVec.ofNat 64 (32-n):=by
  have:∀m:Fin 32,0<m.val→BitVec.ofInt 64 (-(m.val:Int))&&&31#64=BitVec.ofNat 64 (32-m.val):=by decide
  exact this ⟨n,by omega⟩ (by simp;omega)
 have e2:(BitVec.ofNat 64 (32-n)).toNat=32-n:=by simp;omega
 have e3:(32#64-BitVec.ofNat 64 (32-n)).toNat=n:=by
  rw[BitVec.toNat_sub];simp;omega
 simp only[↓aj,ak,simprocAttr,aa,e1,e2,e3]
 have:x<<<(32-n)|||x>>>n=JQ x n:=by rw[JQ,BitVec.or_comm]
 rw[this]
 simp only[Int.neg_neg,Int.toNat_natCast]
 exact .val _ rfl
theorem Hm(rows:Rows)(k:D→Rows→Prop)(x:BitVec 32)(n:Nat)(h0:0<n)(h1:n<32):aJ Tx rows k [.raw (u32 x),.raw (it (-(n:Int)))]=k (.raw (u32 (JQ x n))) rows:=by
 refine(bi rfl (r:=(.raw (u32 (JQ x n)),[])) ?_).trans ?_
 ·rw[Tx,jP (fK x) (nS _) (by simp;omega)];simp
 ·simp[shift,ae]
def QG:Fn:=lE dN (fun a=>Nat.ble 4 a.length) fun a=>(.raw (u32 (cY a)),[])
theorem word_ok(C:be)(hC:aI C P):aO C.aZ P 212 (Fn.run QG):=by
 refine aH (OR C hC) fun ds rows r h=>?_
 obtain⟨d,a,rfl,rfl,hd,hp,rfl⟩:=a8 h
 have ha:=eU hd
 simp only[Nat.ble_eq]at hp
 refine⟨rfl,ag rfl ?_⟩
 unfold FR FT
 have e0:∀(k:D→Rows→Prop) rows,nQ (.leaf (.int .u8)) 0 rows k d=k (.b5 (.raw (u8 (a.getD 0 0#8)))) rows:=fun k rows=>by have:=gh (k:=k) (rows:=rows) (n:=0) ha (by omega);simpa using this
 have e1:∀(k:D→Rows→Prop) rows,nQ (.leaf (.int .u8)) 1 rows k d=k (.b5 (.raw (u8 (a.getD 1 0#8)))) rows:=fun k rows=>by have:=gh (k:=k) (rows:=rows) (n:=1) ha (by omega);simpa using this
 have e2:∀(k:D→Rows→Prop) rows,nQ (.leaf (.int .u8)) 2 rows k d=k (.b5 (.raw (u8 (a.getD 2 0#8)))) rows:=fun k rows=>by have:=gh (k:=k) (rows:=rows) (n:=2) ha (by omega);simpa using this
 have e3:∀(k:D→Rows→Prop) rows,nQ (.leaf (.int .u8)) 3 rows k d=k (.b5 (.raw (u8 (a.getD 3 0#8)))) rows:=fun k rows=>by have:=gh (k:=k) (rows:=rows) (n:=3) ha (by omega);simpa using this
 simp only[↓aj,ak,simprocAttr,aa,e0,e1,e2,e3]
 exact .val _ rfl
theorem bc.arr{rows:Rows}{r n off len:Nat}{e:Bool}{l:List (BitVec 8)}(h:live rows r=some ⟨.ar n L8,[.agg (.ar n L8) (bs l)]⟩)(hle:off+len≤l.length):bc rows (.sl L8 r [0] off len e) ((l.drop off).take len):=by
 refine⟨⟨.cF L8 (bs ((l.drop off).take len)) e,?_,.inr ⟨e,rfl⟩⟩,fun h=>by simp[aQ]at h⟩
 have h2:Am.elems rows (.sl L8 r [0] off len e)=some (bs ((l.drop off).take len)):=by
  simp only[elems,h,cP]
  simp[bs,D.get]
 simp only[Am.view]
 rw[h2]
 have hl:(bs ((l.drop off).take len)).length=len:=by simp[bs];omega
 simp[Sh.pure,hl]
theorem kWord(rows:Rows)(k:D→Rows→Prop)(d:D)(a:List (BitVec 8))(h:bc rows d a)(hl:4≤a.length):aJ QG rows k [d]=k (.raw (u32 (cY a))) rows:=by
 refine(rE h (by simpa using hl) rfl).trans ?_
 simp[shift,ae]
def sg0(a:BitVec 32):BitVec 32:=JQ a 7^^^JQ a 18^^^a>>>3
def sg1(a:BitVec 32):BitVec 32:=JQ a 17^^^JQ a 19^^^a>>>10
def nxt(w:List (BitVec 32))(i:Nat):BitVec 32:=w.getD (i-16) 0#32+sg0 (w.getD (i-15) 0#32)+w.getD (i-7) 0#32+sg1 (w.getD (i-2) 0#32)
def words(n:Nat)(b:List (BitVec 8)):List (BitVec 32):=(List.range n).map fun i=>cY ((b.drop (4*i)).take 4)
def yS:Nat→List (BitVec 32)→List (BitVec 32)
 |0,w=>w
 |n+1,w=>yS n w++[nxt (yS n w) (yS n w).length]
theorem JR(n:Nat)(w:List (BitVec 32)):(yS n w).length=w.length+n:=by
 induction n with
 |zero=>rfl
 |succ n ih=>simp[yS,ih];omega
theorem eX(n:Nat)(b:List (BitVec 8)):(words n b).length=n:=by simp[words]
theorem yE(n:Nat)(b:List (BitVec 8)):words (n+1) b=words n b++[cY ((b.drop (4*n)).take 4)]:=by simp[words,List.range_succ]
def oA(b:List (BitVec 8)):List (BitVec 32):=yS 48 (words 16 b)
def fill(l:List (BitVec 32))(n:Nat):List (BitVec 32):=l++List.replicate (n-l.length) 0#32
theorem Mn{l:List (BitVec 32)}{n:Nat}(h:l.length≤n):(fill l n).length=n:=by simp[fill];omega
theorem Xh{l:List (BitVec 32)}{n i:Nat}(h:i<l.length):(fill l n).getD i 0#32=l.getD i 0#32:=by
 simp[fill,List.getD,List.getElem?_append_left h]
theorem Mo{l:List (BitVec 32)}{n:Nat}(h:l.length<n)(x:BitVec 32):(fill l n).set l.length x=fill (l++[x]) n:=by
 obtain⟨k,hk⟩:∃k,n-l.length=k+1:=⟨n-l.length-1,by omega⟩
 have h2:n-(l++[x]).length=k:=by simp;omega
 rw[fill,fill,hk,h2,List.replicate_succ,List.set_append_right _ _ (Nat.le_refl _)]
 simp
theorem Ty{l:List (BitVec 32)}{n:Nat}(h:l.length=n):fill l n=l:=by simp[fill,h]
noncomputable def D4:Fn:=lE (b8 JP) (fun b=>decide (b.length=64)) fun b=>(Tw (oA b),[])
theorem Tz(C:be)(hC:aI C P)(hw:C.fn 212=some QG)(hr:C.fn 203=some Tx):aO C.aZ P 202 (Fn.run D4):=by
 refine aH (JL C hC) fun ds rows r h=>?_
 obtain⟨d,b,rfl,rfl,hd,hp,rfl⟩:=a8 h
 cases aF hd
 simp only[decide_eq_true_eq]at hp
 refine⟨rfl,ag rfl ?_⟩
 clear h hd
 unfold Ai Aj
 have hb:(bs b).length=64:=by rw[aC,hp]
 simp only[JP,↓aj,ak,simprocAttr,aa]
 refine bB 16 (fun i env rows=>has env [(10,.raw (it (i:Int))),(1,.ptr (.ar 64 L8) 0 [0]),(2,.ptr (.ar 64 dk) 1 [0]),(3,.ptr (.ar 64 dk) 2 [0])]∧
  ∃z,rows=[some ⟨.ar 64 L8,[.agg (.ar 64 L8) (bs b)]⟩,some ⟨.ar 64 dk,[z]⟩,some ⟨.ar 64 dk,[.agg (.ar 64 dk) (us (fill (words i b) 64))]⟩]) ?_ ?_ ⟨?_,.agg (.ar 64 dk) (List.replicate 64 (.raw (u32 0#32))),?_⟩
 ·rintro i hi env rows ⟨hh,z,rfl⟩ R hR
  simp only[has]at hh
  obtain⟨h10,h1,h2,h3,-⟩:=hh
  have e0:((i:Int)<16)=True:=eq_true (by omega)
  have e1:((0:Int)≤4*(i:Int))=True:=eq_true (by omega)
  have e2:wz (4*(i:Int))=4*(i:Int):=bf (by omega)
  have e3:wz (4*(i:Int)+4)=4*(i:Int)+4:=bf (by omega)
  have e4:(4*(i:Int)≤4*(i:Int)+4)=True:=eq_true (by omega)
  have e5:(4*(i:Int)+4≤64)=True:=eq_true (by omega)
  have e6:(4*(i:Int)).toNat=4*i:=by omega
  have e7:(4*(i:Int)+4).toNat=4*i+4:=by omega
  have e8:4*i+4-4*i=4:=by omega
  have e9:((0:Int)≤(i:Int))=True:=eq_true (by omega)
  have e10:((i:Int)<64)=True:=eq_true (by omega)
  have e11:=cE i (by omega)
  simp only[↓aj,ak,simprocAttr,aa,h10,h1,h2,h3,hw,e0,e1,e2,e3,e4,e5,e6,e7,e8,decide_true]
  refine Eq.mpr (kWord _ _ _ _ (bc.arr rfl (by omega)) (by rw[List.length_take,List.length_drop];omega)) ?_
  have eg:(us (fill (words i b) 64))[i]?=some (.raw (u32 ((fill (words i b) 64).getD i 0#32))):=ku (by rw[Mn (by rw[eX];omega)];omega)
  have es:(us (fill (words i b) 64)).set i (.raw (u32 (cY ((b.drop (4*i)).take 4))))=us (fill (words (i+1) b) 64):=by
   have:=Mo (l:=words i b) (n:=64) (by rw[eX];omega) (cY ((b.drop (4*i)).take 4))
   rw[eX]at this
   rw[JN,this,←yE]
  simp only[↓aj,ak,simprocAttr,aa,h10,h1,h2,h3,e9,e10,e11,eg,es]
  exact hR _ _ ⟨by simp only[has,↓aj,ak,simprocAttr,aa,h1,h2,h3],z,rfl⟩
 ·rintro env rows ⟨hh,z,rfl⟩ R
  simp only[has]at hh
  obtain⟨h10,h1,h2,h3,-⟩:=hh
  simp only[↓aj,ak,simprocAttr,aa,h10,h1,h2,h3]
  refine bB 48 (fun i env rows=>has env [(5,.raw (it ((16+i:Nat):Int))),(1,.ptr (.ar 64 L8) 0 [0]),(2,.ptr (.ar 64 dk) 1 [0]),(3,.ptr (.ar 64 dk) 2 [0])]∧
   rows=[some ⟨.ar 64 L8,[.agg (.ar 64 L8) (bs b)]⟩,some ⟨.ar 64 dk,[z]⟩,some ⟨.ar 64 dk,[.agg (.ar 64 dk) (us (fill (yS i (words 16 b)) 64))]⟩]) ?_ ?_ ⟨?_,rfl⟩
  ·rintro i hi env rows ⟨hh,rfl⟩ R hR
   simp only[has]at hh
   obtain⟨h5,h1,h2,h3,-⟩:=hh
   have hlen:(yS i (words 16 b)).length=16+i:=by rw[JR,eX]
   have lz:(fill (yS i (words 16 b)) 64).length=64:=Mn (by omega)
   have e0:(((16+i:Nat):Int)<64)=True:=eq_true (by omega)
   have a1:wz (((16+i:Nat):Int)-15)=((16+i-15:Nat):Int):=by rw[bf (by omega)];omega
   have a2:wz (((16+i:Nat):Int)-2)=((16+i-2:Nat):Int):=by rw[bf (by omega)];omega
   have a3:wz (((16+i:Nat):Int)-16)=((16+i-16:Nat):Int):=by rw[bf (by omega)];omega
   have a4:wz (((16+i:Nat):Int)-7)=((16+i-7:Nat):Int):=by rw[bf (by omega)];omega
   have b1:∀j:Nat,((0:Int)≤(j:Int))=True:=fun j=>eq_true (by omega)
   have c1:(((16+i-15:Nat):Int)<64)=True:=eq_true (by omega)
   have c2:(((16+i-2:Nat):Int)<64)=True:=eq_true (by omega)
   have c3:(((16+i-16:Nat):Int)<64)=True:=eq_true (by omega)
   have c4:(((16+i-7:Nat):Int)<64)=True:=eq_true (by omega)
   have gg:∀j,j<16+i→(us (fill (yS i (words 16 b)) 64))[j]?=some (.raw (u32 ((yS i (words 16 b)).getD j 0#32))):=fun j hj=>by
    rw[ku (by omega),Xh (by omega)]
   have g1:=gg (16+i-15) (by omega)
   have g2:=gg (16+i-2) (by omega)
   have g3:=gg (16+i-16) (by omega)
   have g4:=gg (16+i-7) (by omega)
   have g5:(us (fill (yS i (words 16 b)) 64))[16+i]?=some (.raw (u32 ((fill (yS i (words 16 b)) 64).getD (16+i) 0#32))):=ku (by omega)
   have r1:=fun rows k x=>Hm rows k x 7 (by decide) (by decide)
   have r2:=fun rows k x=>Hm rows k x 18 (by decide) (by decide)
   have r3:=fun rows k x=>Hm rows k x 17 (by decide) (by decide)
   have r4:=fun rows k x=>Hm rows k x 19 (by decide) (by decide)
   simp only[Int.cast_ofNat_Int]at r1 r2 r3 r4
   have es:(us (fill (yS i (words 16 b)) 64)).set (16+i) (.raw (u32 (nxt (yS i (words 16 b)) (16+i))))=us (fill (yS (i+1) (words 16 b)) 64):=by
    have:=Mo (l:=yS i (words 16 b)) (n:=64) (by omega) (nxt (yS i (words 16 b)) (16+i))
    rw[hlen]at this
    rw[JN,this,yS,hlen]
   have e11:wz (((16+i:Nat):Int)+1)=((16+(i+1):Nat):Int):=by rw[bf (by omega)];omega
   have es':(us (fill (yS i (words 16 b)) 64)).set (16+i) (.raw (u32 ((yS i (words 16 b)).getD (16+i-16) 0#32+(JQ ((yS i (words 16 b)).getD (16+i-15) 0#32) 7^^^JQ ((yS i (words 16 b)).getD (16+i-15) 0#32) 18^^^(yS i (words 16 b)).getD (16+i-15) 0#32>>>3)+(yS i (words 16 b)).getD (16+i-7) 0#32+(JQ ((yS i (words 16 b)).getD (16+i-2) 0#32) 17^^^JQ ((yS i (words 16 b)).getD (16+i-2) 0#32) 19^^^(yS i (words 16 b)).getD (16+i-2) 0#32>>>10))))=us (fill (yS (i+1) (words 16 b)) 64):=es
   simp only[↓aj,ak,simprocAttr,aa,h5,h1,h2,h3,hr,e0,a1,a2,a3,a4,b1,c1,c2,c3,c4,g1,g2,g3,g4,g5,r1,r2,r3,r4,e11,es',decide_true]
   exact hR _ _ ⟨by simp only[has,↓aj,ak,simprocAttr,aa,h1,h2,h3],rfl⟩
  ·rintro env rows ⟨hh,rfl⟩ R
   simp only[has]at hh
   obtain⟨h5,h1,h2,h3,-⟩:=hh
   simp only[↓aj,ak,simprocAttr,aa,h5,h1,h2,h3]
   rw[Ty (by rw[JR,eX])]
   exact .val _ rfl
  ·have:fill (words 16 b) 64=fill (yS 0 (words 16 b)) 64:=rfl
   simp only[has,↓aj,ak,simprocAttr,aa,h1,h2,h3]
 ·simp only[has,↓aj,ak,simprocAttr,aa]
 ·rw[us_rep];rfl
def JT:List (BitVec 32):=[0x6a09e667#32,0xbb67ae85#32,0x3c6ef372#32,0xa54ff53a#32,0x510e527f#32,0x9b05688c#32,0x1f83d9ab#32,0x5be0cd19#32]
def qA:List (BitVec 32):=[
 0x428a2f98#32,0x71374491#32,0xb5c0fbcf#32,0xe9b5dba5#32,0x3956c25b#32,0x59f111f1#32,0x923f82a4#32,0xab1c5ed5#32,
 0xd807aa98#32,0x12835b01#32,0x243185be#32,0x550c7dc3#32,0x72be5d74#32,0x80deb1fe#32,0x9bdc06a7#32,0xc19bf174#32,
 0xe49b69c1#32,0xefbe4786#32,0x0fc19dc6#32,0x240ca1cc#32,0x2de92c6f#32,0x4a7484aa#32,0x5cb0a9dc#32,0x76f988da#32,
 0x983e5152#32,0xa831c66d#32,0xb00327c8#32,0xbf597fc7#32,0xc6e00bf3#32,0xd5a79147#32,0x06ca6351#32,0x14292967#32,
 0x27b70a85#32,0x2e1b2138#32,0x4d2c6dfc#32,0x53380d13#32,0x650a7354#32,0x766a0abb#32,0x81c2c92e#32,0x92722c85#32,
 0xa2bfe8a1#32,0xa81a664b#32,0xc24b8b70#32,0xc76c51a3#32,0xd192e819#32,0xd6990624#32,0xf40e3585#32,0x106aa070#32,
 0x19a4c116#32,0x1e376c08#32,0x2748774c#32,0x34b0bcb5#32,0x391c0cb3#32,0x4ed8aa4a#32,0x5b9cca4f#32,0x682e6ff3#32,
 0x748f82ee#32,0x78a5636f#32,0x84c87814#32,0x8cc70208#32,0x90befffa#32,0xa4506ceb#32,0xbef9a3f7#32,0xc67178f2#32]
def rnd(v:List (BitVec 32))(k w:BitVec 32):List (BitVec 32):=
 match v with
 |[a,b,c,d,e,f,g,h]=>
  let t:=h+(JQ e 6^^^JQ e 11^^^JQ e 25)+(e&&&f^^^~~~e&&&g)+k+w
  [t+(JQ a 2^^^JQ a 13^^^JQ a 22)+(a&&&b^^^a&&&c^^^b&&&c),a,b,c,d+t,e,f,g]
 | _=>v
def w8(ws:List (BitVec 32)):Nat→List (BitVec 32)→List (BitVec 32)
 |0,v=>v
 |n+1,v=>rnd (w8 ws n v) (qA.getD n 0#32) (ws.getD n 0#32)
theorem eight{v:List (BitVec 32)}(h:v.length=8):∃a b c d e f g i,v=[a,b,c,d,e,f,g,i]:=by
 match v,h with
 |[a,b,c,d,e,f,g,i],_=>exact⟨a,b,c,d,e,f,g,i,rfl⟩
theorem rnd_len(v:List (BitVec 32))(k w:BitVec 32)(h:v.length=8):(rnd v k w).length=8:=by
 obtain⟨a,b,c,d,e,f,g,i,rfl⟩:=eight h;rfl
theorem FY(ws:List (BitVec 32))(n:Nat)(v:List (BitVec 32))(h:v.length=8):(w8 ws n v).length=8:=by
 induction n with
 |zero=>exact h
 |succ n ih=>exact rnd_len _ _ _ ih
def OV(x y:List (BitVec 32))(i:Nat):List (BitVec 32):=(List.zipWith (· + ·) x y).take i++x.drop i
theorem mix_len(x y:List (BitVec 32))(i:Nat)(h:x.length=y.length)(hi:i≤x.length):(OV x y i).length=x.length:=by simp[OV];omega
theorem mix_get(x y:List (BitVec 32))(i:Nat)(h:x.length=y.length)(hi:i<x.length):(OV x y i).getD i 0#32=x.getD i 0#32:=by
 have:((List.zipWith (· + ·) x y).take i).length=i:=by simp;omega
 simp only[OV,List.getD]
 rw[List.getElem?_append_right (by omega),this,Nat.sub_self,List.getElem?_drop]
 rfl
theorem mix_set(x y:List (BitVec 32))(i:Nat)(h:x.length=y.length)(hi:i<x.length):(OV x y i).set i (x.getD i 0#32+y.getD i 0#32)=OV x y (i+1):=by
 have hl:((List.zipWith (· + ·) x y).take i).length=i:=by simp;omega
 have e1:x.drop i=x.getD i 0#32::x.drop (i+1):=by
  rw[List.drop_eq_getElem_cons hi];simp[List.getD,hi]
 have e2:(List.zipWith (· + ·) x y).take (i+1)=(List.zipWith (· + ·) x y).take i++[x.getD i 0#32+y.getD i 0#32]:=by
  have hz:i<(List.zipWith (· + ·) x y).length:=by simp;omega
  rw[List.take_succ_eq_append_getElem hz]
  have hy:i<y.length:=by omega
  simp[List.getD,hi,hy]
 rw[OV,OV,e2,List.set_append_right _ _ (by omega),hl,Nat.sub_self,e1]
 simp
theorem mix_all(x y:List (BitVec 32))(h:x.length=y.length):OV x y x.length=List.zipWith (· + ·) x y:=by
 rw[OV,List.drop_length,List.append_nil,List.take_of_length_le (by simp;omega)]
def vM(h:List (BitVec 32))(b:List (BitVec 8)):List (BitVec 32):=List.zipWith (· + ·) h (w8 (oA b) 64 h)
theorem Xi(b:List (BitVec 8)):(oA b).length=64:=by rw[oA,JR,eX]
theorem TA(h:List (BitVec 32))(b:List (BitVec 8))(hh:h.length=8):(vM h b).length=8:=by simp[vM,hh,FY]
noncomputable def JU:Fn:=wS (b8 Tv) (b8 JP) (fun h b=>decide (h.length=8)&&decide (b.length=64)) fun h b=>(Tv (vM h b),[])
theorem kSpread(rows:Rows)(k:D→Rows→Prop)(b:List (BitVec 8))(h:b.length=64):aJ D4 rows k [.agg (.ar 64 L8) (bs b)]=k (.agg (.ar 64 dk) (us (oA b))) rows:=by
 refine(bi (by simp[aN,aQ,Sh.pure]) (r:=(Tw (oA b),[])) ?_).trans ?_
 ·exact ei (bV FX b) (by simp[h])
 ·simp[shift,ae,Tw,Sh.pure]
theorem Xj(C:be)(hC:aI C P)(hg:C.aZ 5=some (Tw qA))(hs:C.fn 202=some D4)(hr:C.fn 203=some Tx):aO C.aZ P 184 (Fn.run JU):=by
 refine aH (Ma C hC) fun ds rows r h=>?_
 obtain⟨d,e,h0,b,rfl,rfl,hd,he,hp,rfl⟩:=dq h
 cases aF hd
 cases aF he
 simp only[Bool.and_eq_true,decide_eq_true_eq]at hp
 obtain⟨hp,hb⟩:=hp
 refine⟨rfl,ag rfl ?_⟩
 clear h hd he
 unfold CM CN
 simp only[Tv,JP,↓aj,ak,simprocAttr,aa,hs]
 refine Eq.mpr (kSpread _ _ _ hb) ?_
 simp only[↓aj,ak,simprocAttr,aa]
 refine bB 64 (fun i env rows=>has env [(17,.raw (it (i:Int))),(16,.agg (.ar 64 dk) (us (oA b))),(2,.ptr (.ar 8 dk) 0 [0]),(4,.ptr (.ar 8 dk) 2 [0]),(5,.ptr (.ar 8 dk) 3 [0])]∧
  ∃z y,rows=[some ⟨.ar 8 dk,[.agg (.ar 8 dk) (us h0)]⟩,some y,some ⟨.ar 8 dk,[z]⟩,some ⟨.ar 8 dk,[.agg (.ar 8 dk) (us (w8 (oA b) i h0))]⟩]) ?_ ?_ ⟨?_,_,_,rfl⟩
 ·rintro i hi env rows ⟨hh,z,y,rfl⟩ R hR
  simp only[has]at hh
  obtain⟨h17,h16,h2,h4,h5,-⟩:=hh
  obtain⟨va,vb,vc,vd,ve,vf,vg,vh,hv⟩:=eight (FY (oA b) i h0 hp)
  have e0:((i:Int)<64)=True:=eq_true (by omega)
  have e1:((0:Int)≤(i:Int))=True:=eq_true (by omega)
  have e2:=cE i (by omega)
  have g1:(us (oA b))[i]?=some (.raw (u32 ((oA b).getD i 0#32))):=ku (by rw[Xi];omega)
  have g2:(us qA)[i]?=some (.raw (u32 (qA.getD i 0#32))):=ku (by simp[qA];omega)
  have r1:=fun rows k x=>Hm rows k x 6 (by decide) (by decide)
  have r2:=fun rows k x=>Hm rows k x 11 (by decide) (by decide)
  have r3:=fun rows k x=>Hm rows k x 25 (by decide) (by decide)
  have r4:=fun rows k x=>Hm rows k x 2 (by decide) (by decide)
  have r5:=fun rows k x=>Hm rows k x 13 (by decide) (by decide)
  have r6:=fun rows k x=>Hm rows k x 22 (by decide) (by decide)
  simp only[Int.cast_ofNat_Int]at r1 r2 r3 r4 r5 r6
  have hn:us (w8 (oA b) (i+1) h0)=us (rnd [va,vb,vc,vd,ve,vf,vg,vh] (qA.getD i 0#32) ((oA b).getD i 0#32)):=by rw[w8,hv]
  rw[hv]
  have hu:us [va,vb,vc,vd,ve,vf,vg,vh]=[.raw (u32 va),.raw (u32 vb),.raw (u32 vc),.raw (u32 vd),.raw (u32 ve),.raw (u32 vf),.raw (u32 vg),.raw (u32 vh)]:=rfl
  simp only[↓aj,ak,simprocAttr,aa,Tw,h17,h16,h2,h4,h5,hr,hg,e0,e1,e2,g1,g2,r1,r2,r3,r4,r5,r6,hu,decide_true]
  exact hR _ _ ⟨by simp only[has,↓aj,ak,simprocAttr,aa,h16,h2,h4,h5],z,y,by rw[hn];rfl⟩
 ·rintro env rows ⟨hh,z,y,rfl⟩ R
  simp only[has]at hh
  obtain⟨h17,h16,h2,h4,h5,-⟩:=hh
  simp only[↓aj,ak,simprocAttr,aa,h17,h16,h2,h4,h5]
  have hv:=FY (oA b) 64 h0 hp
  have hq:h0.length=(w8 (oA b) 64 h0).length:=by omega
  refine bB 8 (fun i env rows=>has env [(107,.raw (it (i:Int))),(2,.ptr (.ar 8 dk) 0 [0]),(4,.ptr (.ar 8 dk) 2 [0]),(5,.ptr (.ar 8 dk) 3 [0])]∧
   rows=[some ⟨.ar 8 dk,[.agg (.ar 8 dk) (us (OV h0 (w8 (oA b) 64 h0) i))]⟩,some y,some ⟨.ar 8 dk,[z]⟩,some ⟨.ar 8 dk,[.agg (.ar 8 dk) (us (w8 (oA b) 64 h0))]⟩]) ?_ ?_ ⟨?_,by rfl⟩
  ·rintro i hi env rows ⟨hh,rfl⟩ R hR
   simp only[has]at hh
   obtain⟨h7,h2,h4,h5,-⟩:=hh
   have e0:((i:Int)<8)=True:=eq_true (by omega)
   have e1:((0:Int)≤(i:Int))=True:=eq_true (by omega)
   have e2:=cE i (by omega)
   have g1:(us (OV h0 (w8 (oA b) 64 h0) i))[i]?=some (.raw (u32 (h0.getD i 0#32))):=by
    rw[ku (by rw[mix_len _ _ _ hq (by omega)];omega),mix_get _ _ _ hq (by omega)]
   have g2:(us (w8 (oA b) 64 h0))[i]?=some (.raw (u32 ((w8 (oA b) 64 h0).getD i 0#32))):=ku (by omega)
   have es:(us (OV h0 (w8 (oA b) 64 h0) i)).set i (.raw (u32 (h0.getD i 0#32+(w8 (oA b) 64 h0).getD i 0#32)))=us (OV h0 (w8 (oA b) 64 h0) (i+1)):=by
    rw[JN,mix_set _ _ _ hq (by omega)]
   simp only[↓aj,ak,simprocAttr,aa,h7,h2,h4,h5,e0,e1,e2,g1,g2,es,decide_true]
   exact hR _ _ ⟨by simp only[has,↓aj,ak,simprocAttr,aa,h2,h4,h5],rfl⟩
  ·rintro env rows ⟨hh,rfl⟩ R
   simp only[has]at hh
   obtain⟨h7,h2,h4,h5,-⟩:=hh
   simp only[↓aj,ak,simprocAttr,aa,h7,h2,h4,h5]
   have:OV h0 (w8 (oA b) 64 h0) 8=vM h0 b:=by rw[←hp,mix_all _ _ hq];rfl
   rw[this]
   exact .val _ rfl
  ·simp only[has,↓aj,ak,simprocAttr,aa,h2,h4,h5]
 ·simp only[has,↓aj,ak,simprocAttr,aa]
theorem TB{l:List (BitVec 32)}{i:Nat}(h:i<l.length):l.take (i+1)=l.take i++[l.getD i 0#32]:=oV h
theorem BC(l x:List (BitVec 8))(off:Nat):a9 (bs l) off (bs x)=bs (a9 l off x):=by
 simp[a9,bs]
theorem Mp{rows:Rows}{r i off len:Nat}{p:List Nat}{ex:Bool}{row:Row}{l src:List (BitVec 8)}{u:Sh}{els:List D}{k:D→Rows→Prop}(hl:live rows r=some row)(hg:cP row.els (i::p)=some (.agg u (bs l)))(hn:off+len≤l.length)
  (hs:kg row.els (i::p) (.agg u (bs (a9 l off (src.take (min src.length len)))))=some els):nc rows L8 (.sl L8 r (i::p) off len ex) (bs src) k=k (.raw (it ((min src.length len:Nat):Int))) (rows.set r (some ⟨row.sh,els⟩)):=by
 unfold nc
 simp only[hl,hg,bd,aC,ey,BC,hs,hn,true_and]
 rfl
theorem BD{rows:Rows}{r n off len:Nat}{ex:Bool}{l src:List (BitVec 8)}{k:D→Rows→Prop}(hl:live rows r=some ⟨.ar n L8,[.agg (.ar n L8) (bs l)]⟩)(hn:off+len≤l.length):
  nc rows L8 (.sl L8 r [0] off len ex) (bs src) k=k (.raw (it ((min src.length len:Nat):Int))) (rows.set r (some ⟨.ar n L8,[.agg (.ar n L8) (bs (a9 l off (src.take (min src.length len))))]⟩)):=
 Mp hl rfl hn rfl
def jQ(w:List (BitVec 32)):List (BitVec 8):=(w.map bC).flatten
theorem wC(x:BitVec 32):(bC x).length=4:=rfl
theorem nC(w:List (BitVec 32)):(jQ w).length=4*w.length:=by
 induction w with
 |nil=>rfl
 |cons x w ih=>simp only[jQ,List.map_cons,List.flatten_cons,List.length_append,List.length_cons]at ih⊢;rw[ih,wC];omega
theorem Mq(a b:List (BitVec 32)):jQ (a++b)=jQ a++jQ b:=by simp[jQ]
def pA(l:List (BitVec 8))(n:Nat):List (BitVec 8):=l++List.replicate (n-l.length) 0#8
theorem BE{l:List (BitVec 8)}{n:Nat}(h:l.length≤n):(pA l n).length=n:=by simp[pA];omega
theorem tv{l x:List (BitVec 8)}{n:Nat}(h:l.length+x.length≤n):a9 (pA l n) l.length x=pA (l++x) n:=by
 unfold a9 pA
 have h1:(l++List.replicate (n-l.length) 0#8).take l.length=l:=by simp
 have h2:(l++List.replicate (n-l.length) 0#8).drop (l.length+x.length)=List.replicate (n-(l++x).length) 0#8:=by
  rw[List.drop_append,List.drop_eq_nil_of_le (by omega),List.nil_append,List.drop_replicate]
  congr 1;simp;omega
 rw[h1,h2]
theorem OW{l:List (BitVec 8)}{n:Nat}(h:l.length=n):pA l n=l:=by simp[pA,h]
noncomputable def An:Fn:=lE (b8 Tv) (fun b=>decide (b.length=8)) fun b=>(aW (jQ b),[])
theorem TC(C:be)(hC:aI C P):aO C.aZ P 185 (Fn.run An):=by
 refine aH (JI C hC) fun ds rows r h=>?_
 obtain⟨d,w,rfl,rfl,hd,hp,rfl⟩:=a8 h
 cases aF hd
 simp only[decide_eq_true_eq]at hp
 refine⟨rfl,ag rfl ?_⟩
 clear h hd
 unfold z9 Aa
 simp only[Tv,↓aj,ak,simprocAttr,aa]
 refine bB 8 (fun i env rows=>has env [(7,.raw (it (i:Int))),(6,.agg (.ar 8 dk) (us w)),(1,.ptr (.ar 8 dk) 0 [0]),(2,.ptr (.ar 32 L8) 1 [0]),(3,.ptr (.ar 32 L8) 2 [0])]∧
  (∃z,live rows 1=some ⟨.ar 32 L8,[z]⟩)∧live rows 2=some ⟨.ar 32 L8,[.agg (.ar 32 L8) (bs (pA (jQ (w.take i)) 32))]⟩) ?_ ?_ ⟨?_,⟨_,rfl⟩,?_⟩
 ·rintro i hi env rows ⟨hh,⟨z,r1⟩,r2⟩ R hR
  simp only[has]at hh
  obtain⟨h7,h6,h1,h2,h3,-⟩:=hh
  have e0:((i:Int)<8)=True:=eq_true (by omega)
  have e1:((0:Int)≤4*(i:Int))=True:=eq_true (by omega)
  have e2:wz (4*(i:Int))=4*(i:Int):=bf (by omega)
  have e5:(4*(i:Int)≤32)=True:=eq_true (by omega)
  have e6:(4*(i:Int)).toNat=4*i:=by omega
  have e9:((0:Int)≤(i:Int))=True:=eq_true (by omega)
  have e11:=cE i (by omega)
  have eg:(us w)[i]?=some (.raw (u32 (w.getD i 0#32))):=ku (by omega)
  have hl:(jQ (w.take i)).length=4*i:=by rw[nC,List.length_take];omega
  have hsp:a9 (pA (jQ (w.take i)) 32) (4*i) ((bC (w.getD i 0#32)).take (min 4 (32-4*i)))=pA (jQ (w.take (i+1))) 32:=by
   have:=tv (l:=jQ (w.take i)) (x:=bC (w.getD i 0#32)) (n:=32) (by rw[hl,wC];omega)
   rw[hl]at this
   have ht:(bC (w.getD i 0#32)).take (min 4 (32-4*i))=bC (w.getD i 0#32):=List.take_of_length_le (by rw[wC];omega)
   rw[ht,this,TB (by omega),Mq]
   simp[jQ]
  simp only[↓aj,ak,simprocAttr,aa,aX,h7,h6,h1,h2,h3,e0,e1,e2,e5,e6,e9,e11,eg,decide_true]
  refine Eq.mpr (BD (src:=bC (w.getD i 0#32)) (bJ r2) (by rw[BE (by omega)];omega)) ?_
  rw[wC,hsp]
  have hr1:∀x y:Rows,live ((rows++x).set 2 (some ⟨.ar 32 L8,[.agg (.ar 32 L8) (bs (pA (jQ (w.take (i+1))) 32))]⟩)) 1=some ⟨.ar 32 L8,[z]⟩:=fun x y=>(aE (by decide)).trans (bJ r1)
  simp only[↓aj,ak,simprocAttr,aa,h7,h6,h1,h2,h3,e11]
  exact hR _ _ ⟨by simp only[has,↓aj,ak,simprocAttr,aa,h6,h1,h2,h3],⟨z,hr1 _ []⟩,mV (bJ r2)⟩
 ·rintro env rows ⟨hh,⟨z,r1⟩,r2⟩ R
  simp only[has]at hh
  obtain⟨h7,h6,h1,h2,h3,-⟩:=hh
  have s1:∀x,live (rows.set 1 (some x)) 1=some x:=fun x=>mV r1
  simp only[↓aj,ak,simprocAttr,aa,h7,h6,h1,h2,h3,r1,r2,s1]
  have:pA (jQ (w.take 8)) 32=jQ w:=by rw[List.take_of_length_le (by omega),OW (by rw[nC];omega)]
  rw[this]
  exact .val _ rfl
 ·simp only[has,↓aj,ak,simprocAttr,aa]
 ·rfl
theorem QI(rows:Rows)(k:D→Rows→Prop)(w:List (BitVec 32))(h:w.length=8):aJ An rows k [.agg (.ar 8 dk) (us w)]=k (.agg (.ar 32 L8) (bs (jQ w))) rows:=by
 refine(bi (by simp[aN,aQ,Sh.pure]) (r:=(aW (jQ w),[])) ?_).trans ?_
 ·exact ei (bV QF w) (by simp[h])
 ·simp[shift,ae,aW,Sh.pure]
def pB(n:BitVec 64):Nat:=((119#64-n %64#64) %64#64).toNat
def Xk(m:BitVec 64)(i:Nat):List (BitVec 8):=(List.range i).map fun j=>(m>>>(56-8*j)).setWidth 8
theorem Xl(m:BitVec 64)(i:Nat):Xk m (i+1)=Xk m i++[(m>>>(56-8*i)).setWidth 8]:=by simp[Xk,List.range_succ]
theorem be8_len(m:BitVec 64)(i:Nat):(Xk m i).length=i:=by simp[Xk]
def OX(n:BitVec 64):List (BitVec 8):=[128#8]++List.replicate (pB n) 0#8++Xk (n<<<3) 8
theorem TD(n:BitVec 64):pB n<64:=by
 unfold pB;rw[BitVec.toNat_umod];exact Nat.mod_lt _ (by decide)
def fPad:Fn:=lE Ot (fun _=>true) fun n=>ez (OX n) false
theorem pad_ok(C:be)(hC:aI C P):aO C.aZ P 186 (Fn.run fPad):=by
 refine aH (Tq C hC) fun ds rows r h=>?_
 obtain⟨d,n,rfl,rfl,hd,hp,rfl⟩:=a8 h
 cases rD hd
 refine⟨rfl,ag rfl ?_⟩
 clear h hd
 have hz:=TD n
 have h0:((0:Int)≤((((119#64-n %64#64) %64#64).toNat:Nat):Int))=True:=eq_true (by omega)
 have hzn:((119#64-n %64#64) %64#64).toNat=pB n:=rfl
 rw[hzn]at h0
 unfold If Ig
 simp only[↓aj,ak,simprocAttr,aa,hzn,h0,List.length_replicate]
 refine⟨by omega,by omega,?_⟩
 have e:bs ([128#8]++List.replicate (pB n) 0#8++Xk (n<<<3) 0)= .raw (u8 128#8)::List.replicate (pB n) (.raw (u8 0#8)):=by
  simp[Xk,bs]
 have how0:iK L8 (.sl L8 1 [] 0 (1+pB n) false) [none,some ⟨L8,.raw (u8 128#8)::List.replicate (pB n) (.raw (u8 0#8))⟩] (bs ([128#8]++List.replicate (pB n) 0#8++Xk (n<<<3) 0)):=by
  rw[e]
  refine .inr ⟨1,false,?_,rfl⟩
  rw[List.length_cons,List.length_replicate,Nat.add_comm]
 refine bB 8 (fun i env rows=>∃x,has env [(0,.raw (u64 n)),(3,x),(4,.raw (it (56-8*(i:Int))))]∧iK L8 x rows (bs ([128#8]++List.replicate (pB n) 0#8++Xk (n<<<3) i))) ?_ ?_ ⟨_,?_,how0⟩
 ·rintro i hi env rows ⟨x,hh,how⟩ R hR
  simp only[has]at hh
  obtain⟨h0,h3,h4,-⟩:=hh
  have e0:((0:Int)≤56-8*(i:Int))=True:=eq_true (by omega)
  have e1:(56-8*(i:Int)).toNat=56-8*i:=by omega
  have e2:wz (56-8*(i:Int)-8)=56-8*((i+1:Nat):Int):=by rw[bf (by omega)];omega
  have hl:(bs ([128#8]++List.replicate (pB n) 0#8++Xk (n<<<3) i)).length≤100:=by
   rw[aC,List.length_append,List.length_append,be8_len,List.length_replicate];simp only[List.length_cons,List.length_nil];omega
  simp only[↓aj,ak,simprocAttr,aa,h0,h3,h4,e0,e1,decide_true]
  refine iX how.push (by simp only[List.length_cons,List.length_nil];unfold most;omega) (by simp only[List.length_cons,List.length_nil];unfold most;omega) ?_
  intro x' ab how' _ _ _
  simp only[↓aj,ak,simprocAttr,aa,h0,h3,h4,e2]
  refine hR _ _ ⟨x',by simp only[has,↓aj,ak,simprocAttr,aa,h0],?_⟩
  rw[Xl,←List.append_assoc,Qz]
  exact how'
 ·rintro env rows ⟨x,hh,how⟩ R
  simp only[has]at hh
  obtain⟨h0,h3,h4,-⟩:=hh
  have e0:((0:Int)≤56-8*((8:Nat):Int))=False:=eq_false (by omega)
  simp only[↓aj,ak,simprocAttr,aa,h0,h3,h4,e0,decide_false,how.mI]
  exact how.Jl
 ·simp only[has,↓aj,ak,simprocAttr,aa]
theorem kPad(rows:Rows)(k:D→Rows→Prop)(n:BitVec 64):aJ fPad rows k [.raw (u64 n)]=k (.sl L8 (0+rows.length) [] 0 (OX n).length false) (rows++[some ⟨L8,bs (OX n)⟩]):=by
 refine(bi rfl (r:=ez (OX n) false) ?_).trans ?_
 ·exact ei (D0 n) rfl
 ·simp[ez,shift,ae,Sh.pure]
structure St where
 h:List (BitVec 32)
 rest:List (BitVec 8)
 n:BitVec 64
def rY(s:St):D:= .agg KM [.agg (.ar 8 dk) (us s.h),.agg (.ar 64 L8) (bs s.rest),.raw (u64 s.n)]
theorem D5(x y:St)(h:rY x=rY y):x=y:=by
 obtain⟨a,b,c⟩:=x
 obtain⟨a',b',c'⟩:=y
 simp only[rY,D.agg.injEq,List.cons.injEq,true_and,and_true,D.raw.injEq]at h
 obtain⟨h1,h2,h3⟩:=h
 rw[Xf h1,tu h2,u64_inj.1 h3]
def St.ok(s:St):Bool:=decide (s.h.length=8)&&decide (s.rest.length=64)
def JV:List (BitVec 8):=List.replicate 64 0#8
def FZ(s:St)(b:BitVec 8):St:=
 if s.n.toNat %64+1=64 then⟨vM s.h (s.rest.set (s.n.toNat %64) b),JV,s.n+1#64⟩else⟨s.h,s.rest.set (s.n.toNat %64) b,s.n+1#64⟩
def feed(s:St)(p:List (BitVec 8)):St:=p.foldl FZ s
theorem eC(s:St)(p q:List (BitVec 8)):feed s (p++q)=feed (feed s p) q:=List.foldl_append
theorem Xm(s:St)(b:BitVec 8)(h:s.ok=true):(FZ s b).ok=true:=by
 simp only[St.ok,Bool.and_eq_true,decide_eq_true_eq]at h
 unfold FZ
 split
 ·simp[St.ok,TA _ _ h.1,JV]
 ·simp[St.ok,h.1,h.2]
theorem eD(p:List (BitVec 8)):∀(s:St),s.ok=true→(feed s p).ok=true:=by
 induction p with
 |nil=>exact fun s h=>h
 |cons b p ih=>exact fun s h=>ih _ (Xm s b h)
theorem Xn(n:BitVec 64)(j:Nat)(h:n.toNat %64+j<64):(n+BitVec.ofNat 64 j).toNat %64=n.toNat %64+j:=by
 simp only[BitVec.toNat_add,BitVec.toNat_ofNat]
 omega
theorem CU(l x:List (BitVec 8))(o:Nat)(b:BitVec 8)(h:o+x.length<l.length):(a9 l o x).set (o+x.length) b=a9 l o (x++[b]):=by
 unfold a9
 have e1:l.drop (o+x.length)=l.getD (o+x.length) 0#8::l.drop (o+x.length+1):=by
  rw[List.drop_eq_getElem_cons h];simp[List.getD,h]
 have e2:(l.take o++x).length=o+x.length:=by simp;omega
 rw[List.set_append_right _ _ (by omega),e2,Nat.sub_self,e1]
 simp[Nat.add_assoc]
theorem F0(l:List (BitVec 8))(o:Nat):a9 l o []=l:=by simp[a9]
theorem BF(s:St)(hs:s.rest.length=64):∀(j:Nat) (x:List (BitVec 8)),x.length=j→s.n.toNat %64+j<64→feed s x=⟨s.h,a9 s.rest (s.n.toNat %64) x,s.n+BitVec.ofNat 64 j⟩
 |0,x,hx,h=>by
  have:x=[]:=List.eq_nil_of_length_eq_zero hx
  subst this
  obtain⟨a,b,c⟩:=s
  simp[feed,F0]
 |j+1,x,hx,h=>by
  obtain⟨y,b,rfl⟩:∃y b,x=y++[b]:=⟨x.dropLast,x.getLast (by intro e;subst e;simp at hx),(List.dropLast_concat_getLast _).symm⟩
  have hy:y.length=j:=by simpa using hx
  rw[eC,BF s hs j y hy (by omega)]
  have ha:=Xn s.n j (by omega)
  show FZ _ b=_
  unfold FZ
  simp only[ha]
  rw[if_neg (by omega)]
  have hl:=CU s.rest y (s.n.toNat %64) b (by omega)
  rw[hy]at hl
  rw[hl]
  congr 1
  apply BitVec.eq_of_toNat_eq
  simp only[BitVec.toNat_add,BitVec.toNat_ofNat]
  omega
theorem TE(s:St)(hs:s.rest.length=64)(x:List (BitVec 8))(h:s.n.toNat %64+x.length=64):feed s x=⟨vM s.h (a9 s.rest (s.n.toNat %64) x),JV,s.n+BitVec.ofNat 64 x.length⟩:=by
 have hlt:s.n.toNat %64<64:=Nat.mod_lt _ (by decide)
 obtain⟨y,b,rfl⟩:∃y b,x=y++[b]:=⟨x.dropLast,x.getLast (by intro e;subst e;simp at h;omega),(List.dropLast_concat_getLast _).symm⟩
 simp only[List.length_append,List.length_cons,List.length_nil]at h
 rw[eC,BF s hs y.length y rfl (by omega)]
 have ha:=Xn s.n y.length (by omega)
 show FZ _ b=_
 unfold FZ
 simp only[ha]
 rw[if_pos (by omega)]
 have hl:=CU s.rest y (s.n.toNat %64) b (by omega)
 rw[hl]
 congr 1
 apply BitVec.eq_of_toNat_eq
 simp only[BitVec.toNat_add,BitVec.toNat_ofNat,List.length_append,List.length_cons,List.length_nil]
 omega
theorem kPress(rows:Rows)(k:D→Rows→Prop)(h:List (BitVec 32))(b:List (BitVec 8))(hh:h.length=8)(hb:b.length=64):aJ JU rows k [.agg (.ar 8 dk) (us h),.agg (.ar 64 L8) (bs b)]=k (.agg (.ar 8 dk) (us (vM h b))) rows:=by
 refine(bi (by simp[aN,aQ,Sh.pure]) (r:=(Tv (vM h b),[])) ?_).trans ?_
 ·exact jP (bV QF h) (bV FX b) (by simp[hh,hb])
 ·simp[shift,ae,Tv,Sh.pure]
noncomputable def qB:Fn:=wS (b8 rY) dN (fun s _=>s.ok) fun s p=>(rY (feed s p),[])
theorem OY(C:be)(hC:aI C P)(hp:C.fn 184=some JU):aO C.aZ P 158 (Fn.run qB):=by
 refine cr (Bu C hC) fun ds rows r h=>?_
 obtain⟨d,e,s0,p0,rfl,rfl,hd,he,hok,rfl⟩:=dq h
 cases aF hd
 obtain⟨x0,hx⟩:=cy he
 refine⟨rfl,_,.cons (.refl _) (.cons hx .nil),ag rfl ?_⟩
 clear h hd he hx
 unfold rS rU
 simp only[rY,↓aj,ak,simprocAttr,aa]
 refine rB (fun m env rows=>∃(s:St) (q:List (BitVec 8)) (ex:Bool) (z:D),m=q.length∧s.ok=true∧feed s q=feed s0 p0∧has env [(1,.cF L8 (bs q) ex),(2,.ptr KM 0 [0]),(4,.ptr KM 1 [0])]∧
  rows=[some ⟨KM,[.agg KM [.agg (.ar 8 dk) (us s.h),.agg (.ar 64 L8) (bs s.rest),.raw (u64 s.n)]]⟩,some ⟨KM,[z]⟩]) ?_ p0.length ⟨s0,p0,x0,_,rfl,hok,rfl,?_,rfl⟩
 ·rintro m env rows ⟨s,q,ex,z,rfl,hs,hf,hh,rfl⟩ R hR
  simp only[has]at hh
  obtain⟨h1,h2,h4,-⟩:=hh
  have fD:=hs
  simp only[St.ok,Bool.and_eq_true,decide_eq_true_eq]at fD
  obtain⟨hs1,tJ⟩:=fD
  by_cases hq:0<q.length
  ·have e0:((0:Int)<(q.length:Int))=True:=eq_true (by omega)
   have hlt:s.n.toNat %64<64:=Nat.mod_lt _ (by decide)
   have m64:(s.n %64#64).toNat=s.n.toNat %64:=by rw[BitVec.toNat_umod];rfl
   generalize ha:s.n.toNat %64=at_ at*
   have e1:wz (at_:Int)=at_:=bf (by omega)
   have e2:((0:Int)≤(at_:Int))=True:=eq_true (by omega)
   have e3:((at_:Int)≤64)=True:=eq_true (by omega)
   have en:(64#64:BitVec 64)≠0:=by decide
   obtain⟨k,hk⟩:∃k,min q.length (64-at_)=k:=⟨_,rfl⟩
   simp only[↓aj,ak,simprocAttr,aa,h1,h2,h4,e0,e1,e2,e3,m64,en,aC,decide_true]
   refine Eq.mpr (Mp (p:=[1]) (u:= .ar 64 L8) (l:=s.rest) rfl rfl (by omega) rfl) ?_
   rw[hk]
   have hk1:k≤q.length:=by omega
   have UU:at_+k≤64:=by omega
   have hk3:0<k:=by omega
   have SC:(q.take k).length=k:=by rw[List.length_take];omega
   have hspl:(a9 s.rest at_ (q.take k)).length=64:=by
    rw[←aC,←BC,xZ (by rw[aC,aC];omega),aC,tJ]
   have hqq:q.take k++q.drop k=q:=List.take_append_drop k q
   have f1:((0:Int)≤(k:Int))=True:=eq_true (by omega)
   have f2:((k:Int)≤(q.length:Int))=True:=eq_true (by omega)
   have f3:(q.drop k).take (q.length-k)=q.drop k:=List.take_of_length_le (by rw[List.length_drop];omega)
   have f4:wz ((at_:Int)+(k:Int))=((at_+k:Nat):Int):=by rw[bf (by omega)];omega
   have f5:BitVec.ofInt 64 (k:Int)=BitVec.ofNat 64 k:=rfl
   by_cases hfull:at_+k=64
   ·have f6:((at_+k:Nat):Int)=64:=by omega
    have iB:=TE s tJ (q.take k) (by rw[ha,SC];exact hfull)
    rw[ha,SC]at iB
    have JW:feed (feed s (q.take k)) (q.drop k)=feed s0 p0:=by rw[←eC,hqq,hf]
    have OZ:=eD (q.take k) s hs
    rw[iB]at JW OZ
    simp only[↓aj,ak,simprocAttr,aa,h1,h2,h4,aC,fw,ey,f1,f2,f3,f4,f5,f6,hp,kPress _ _ _ _ hs1 hspl,decide_true]
    refine hR _ _ _ ?_ ⟨_,q.drop k,oM none q.length q.length q.length ex,z,rfl,OZ,JW,?_,rfl⟩
    ·rw[List.length_drop];omega
    ·simp only[has,↓aj,ak,simprocAttr,aa,h2,h4]
   ·have f6:(((at_+k:Nat):Int)=64)=False:=eq_false (by omega)
    have iB:=BF s tJ k (q.take k) SC (by rw[ha];omega)
    rw[ha]at iB
    have JW:feed (feed s (q.take k)) (q.drop k)=feed s0 p0:=by rw[←eC,hqq,hf]
    have OZ:=eD (q.take k) s hs
    rw[iB]at JW OZ
    simp only[↓aj,ak,simprocAttr,aa,h1,h2,h4,aC,fw,ey,f1,f2,f3,f4,f5,f6,decide_false]
    refine hR _ _ _ ?_ ⟨_,q.drop k,oM none q.length q.length q.length ex,z,rfl,OZ,JW,?_,rfl⟩
    ·rw[List.length_drop];omega
    ·simp only[has,↓aj,ak,simprocAttr,aa,h2,h4]
  ·have e0:((0:Int)<(q.length:Int))=False:=eq_false (by omega)
   have Z4:q=[]:=List.eq_nil_of_length_eq_zero (by omega)
   subst Z4
   simp only[↓aj,ak,simprocAttr,aa,h1,h2,h4,e0,aC,decide_false]
   rw[←hf]
   exact .val _ rfl
 ·simp only[has,↓aj,ak,simprocAttr,aa]
def Xo:D→Option Unit
 | .raw (.slice none 0 0)=>some ()
 | _=>none
theorem O0{d:D}{u:Unit}(h:Xo d=some u):d= .raw (.slice none 0 0):=by
 unfold Xo at h
 split at h
 ·rfl
 ·cases h
theorem F1{rows:Rows}{r off len:Nat}{ex:Bool}{l src:List (BitVec 8)}{k:D→Rows→Prop}(hl:live rows r=some ⟨L8,bs l⟩)(hn:off+len≤l.length):
  nc rows L8 (.sl L8 r [] off len ex) (bs src) k=k (.raw (it ((min src.length len:Nat):Int))) (rows.set r (some ⟨L8,bs (a9 l off (src.take (min src.length len)))⟩)):=by
 unfold nc
 simp only[hl,bd,aC,ey,BC,hn,true_and]
 rfl
def BG:Fn:=wS pz Xo (fun ls _=>Nat.ble ls.length most&&Nat.ble ls.flatten.length most) fun ls _=>ez ls.flatten false
theorem BH(ls:List (List (BitVec 8)))(i:Nat):((ls.take i).flatten).length≤ls.flatten.length:=by
 have:ls=ls.take i++ls.drop i:=(List.take_append_drop _ _).symm
 calc ((ls.take i).flatten).length≤((ls.take i++ls.drop i).flatten).length:=by simp only[List.flatten_append,List.length_append];omega
  _=ls.flatten.length:=by rw[←this]
theorem jr(ls:List (List (BitVec 8)))(i:Nat)(h:i<ls.length):(ls.take (i+1)).flatten=(ls.take i).flatten++ls[i]:=by
 rw[List.take_succ_eq_append_getElem h,List.flatten_append,List.flatten_cons,List.flatten_nil,List.append_nil]
theorem Ip(acc F2 x:List (BitVec 8))(h:x.length≤F2.length):a9 (acc++F2) acc.length x=(acc++x)++F2.drop x.length:=by
 unfold a9
 have h1:(acc++F2).take acc.length=acc:=by simp
 have h2:(acc++F2).drop (acc.length+x.length)=F2.drop x.length:=by
  rw[List.drop_append,List.drop_eq_nil_of_le (by omega),List.nil_append];congr 1;omega
 rw[h1,h2]
theorem Xp(C:be)(hC:aI C P):aO C.aZ P 114 (Fn.run BG):=by
 refine aH (JF C hC) fun ds rows r h=>?_
 obtain⟨d,e0,ls,u,rfl,rfl,hd,he,hp,rfl⟩:=dq h
 obtain⟨l,e,rfl,hl⟩:=tq hd
 cases O0 he
 simp only[Bool.and_eq_true,Nat.ble_eq]at hp
 obtain⟨Mj,sG⟩:=hp
 unfold most at Mj sG
 obtain⟨hlen,jz⟩:=jk hl
 clear h hd he
 refine⟨rfl,ag rfl ?_⟩
 have Nw:∀i (hi:i<ls.length),∃x,l[i]?=some x∧ec x ls[i]:=fun i hi=>by
  have Dn:i<l.length:=by omega
  have hli:l[i]?=some l[i]:=List.getElem?_eq_getElem Dn
  exact⟨_,hli,eU (jz i _ _ hli (List.getElem?_eq_getElem hi))⟩
 have hsrc:∀x y rows,ec x y→n9 rows (.leaf (.int .u8)) x=some (bs y):=by
  intro x y rows hb
  rcases hb with⟨h,h2⟩|⟨e,h⟩
  ·rw[h,h2];rfl
  ·rw[h];simp[n9,Am.eK,Am.elems]
 have hfit:∀x y,ec x y→D.fits x .ref=true:=fun x y hb=>by rcases hb with⟨h,_⟩|⟨e,h⟩<;>rw[h]<;>rfl
 unfold zQ zS
 by_cases h0:ls.length=0
 ·have hls:ls=[]:=List.eq_nil_of_length_eq_zero h0
  have Dq:l=[]:=List.eq_nil_of_length_eq_zero (by omega)
  subst hls Dq
  simp only[↓aj,ak,simprocAttr,aa]
  exact .own _ 0 0 _ true false _ rfl rfl (fun h=>by cases h)
 ·by_cases h1 : ls.length = 1
  ·obtain⟨y,rfl⟩:∃y,ls=[y]:=by
    match ls,h1 with
    |[y],_=>exact⟨y,rfl⟩
   obtain⟨x,hx,hb⟩:=Nw 0 (by simp)
   have EG:ec x y:=hb
   have HE:l.length=1:=by rw[←hlen];rfl
   have hlx:l[0]?=some x:=hx
   simp only[↓aj,ak,simprocAttr,aa,HE,hlx,hfit _ _ EG,hsrc _ _ _ EG,EG.dK,aC,decide_true,decide_false]
   have hyl:y.length≤1099511627776:=by simpa using sG
   refine⟨by omega,hyl,?_⟩
   have e1:[y].flatten=y:=by simp
   rw[e1]
   exact .own _ 0 0 _ false false _ rfl rfl (fun h=>by cases h)
  ·have G1:2≤l.length:=by omega
   have c0:((l.length:Int)=0)=False:=eq_false (by omega)
   have c1:((l.length:Int)=1)=False:=eq_false (by omega)
   simp only[↓aj,ak,simprocAttr,aa,c0,c1,decide_false]
   refine bB l.length (fun i env rows=>has env [(0,.cF .ref l e),(1,.raw (.slice none 0 0)),(42,.cF .ref l e),(43,.raw (it l.length)),(44,.raw (it (i:Int))),(5,.raw (it (((ls.take i).flatten).length:Int)))]∧rows=[]) ?_ ?_ ⟨?_,rfl⟩
   ·rintro i hi env rows ⟨hh,rfl⟩ R hR
    simp only[has]at hh
    obtain⟨q0,q1,q42,q43,q44,q5,-⟩:=hh
    obtain⟨x,hx,hb⟩:=Nw i (by omega)
    have OT:((i:Int)<(l.length:Int))=True:=eq_true (by omega)
    have hw:=cE i (by omega)
    have h0i:((0:Int)≤(i:Int))=True:=eq_true (by omega)
    have s1:=BH ls (i+1)
    have s2:((ls.take (i+1)).flatten).length=((ls.take i).flatten).length+ls[i].length:=by rw[jr ls i (by omega),List.length_append]
    have w1:wz (9223372036854775807-(((ls.take i).flatten).length:Int))=9223372036854775807-(((ls.take i).flatten).length:Int):=bf (by omega)
    have w2:((9223372036854775807-(((ls.take i).flatten).length:Int))<(ls[i].length:Int))=False:=eq_false (by omega)
    have w3:wz ((((ls.take i).flatten).length:Int)+(ls[i].length:Int))=(((ls.take (i+1)).flatten).length:Int):=by rw[bf (by omega)];omega
    simp only[↓aj,ak,simprocAttr,aa,q0,q1,q42,q43,q44,q5,OT,hw,h0i,hx,hfit _ _ hb,hb.dK,w1,w2,w3,decide_true,decide_false]
    exact hR _ _ ⟨by simp only[has,↓aj,ak,simprocAttr,aa,q0,q1,q42,q43],rfl⟩
   ·rintro env rows ⟨hh,rfl⟩ R
    simp only[has]at hh
    obtain⟨q0,q1,q42,q43,q44,q5,-⟩:=hh
    have bY:(ls.take l.length).flatten=ls.flatten:=by rw[←hlen,List.take_length]
    rw[bY]at q5
    obtain⟨N,hN⟩:∃N,ls.flatten.length=N:=⟨_,rfl⟩
    rw[hN]at q5
    have nl:((l.length:Int)<(l.length:Int))=False:=eq_false (by omega)
    have n1:((0:Int)≤(N:Int))=True:=eq_true (by omega)
    have n2:((N:Int)≤1099511627776)=True:=eq_true (by omega)
    have n3:((N:Int)≤(N:Int))=True:=eq_true (by omega)
    have n4:∀q:List (BitVec 8),(q.map fun b=>D.raw (u8 b))=bs q:=fun q=>rfl
    simp only[↓aj,ak,simprocAttr,aa,q0,q1,q42,q43,q44,q5,nl,n1,n2,n3,n4,decide_false,Nat.sub_zero]
    intro F2 hj
    obtain⟨x,hx,hb⟩:=Nw 0 (by omega)
    have hx0:l[0]?=some x:=hx
    have p0:((0:Int)<(l.length:Int))=True:=eq_true (by omega)
    have p1:((1:Int)≤(l.length:Int))=True:=eq_true (by omega)
    simp only[↓aj,ak,simprocAttr,aa,q0,q1,q42,q43,q44,q5,nl,n1,n2,n3,n4,p0,p1,hx0,hfit _ _ hb,hsrc _ _ _ hb,hb.dK,aC,decide_true]
    have Dq:ls[0].length≤N:=by
     have:=BH ls 1
     rw[jr ls 0 (by omega)]at this
     simp only[List.take_zero,List.flatten_nil,List.nil_append]at this
     omega
    refine Eq.mpr (F1 (l:=F2) (src:=ls[0]) rfl (by omega)) ?_
    have t0:ls[0].take (min ls[0].length N)=ls[0]:=List.take_of_length_le (by omega)
    have t1:a9 F2 0 ls[0]=(ls.take 1).flatten++F2.drop ls[0].length:=by
     have:=Ip [] F2 ls[0] (by omega)
     simp only[List.nil_append,List.length_nil]at this
     rw[this,jr ls 0 (by omega)];simp
    have t2:min ls[0].length N=((ls.take 1).flatten).length:=by rw[jr ls 0 (by omega)];simp;omega
    have t3:((l.drop 1).take (l.length-1)).length=l.length-1:=by simp
    rw[t0,t1,t2]
    simp only[↓aj,ak,simprocAttr,aa,q0,q1,q42,q43,q44,q5,p1,n3,t3,decide_true]
    generalize hexx:oM (some (N:Int)) N N N false=exx
    generalize hexy:oM none l.length l.length l.length e=exy
    refine bB (l.length-1) (fun i env rows=>has env [(1,.raw (.slice none 0 0)),(70,.cF .ref ((l.drop 1).take (l.length-1)) exy),(71,.raw (it ((l.length-1:Nat):Int))),(72,.raw (it (i:Int))),(8,.sl L8 0 [] 0 N exx),(9,.raw (it (((ls.take (i+1)).flatten).length:Int)))]∧
     ∃q:List (BitVec 8),rows=[some ⟨L8,bs ((ls.take (i+1)).flatten++q)⟩]∧((ls.take (i+1)).flatten).length+q.length=N) ?_ ?_ ⟨?_,_,rfl,?_⟩
    ·rintro i hi env rows ⟨hh,q,rfl,hq⟩ R hR
     simp only[has]at hh
     obtain⟨q1,q70,q71,q72,q8,q9,-⟩:=hh
     obtain⟨x,hx,hb⟩:=Nw (i+1) (by omega)
     have pS:((l.drop 1).take (l.length-1))[i]?=some x:=by
      rw[List.getElem?_take,if_pos (by omega),List.getElem?_drop,Nat.add_comm];exact hx
     have s1:=BH ls (i+1+1)
     have s0:=jr ls (i+1) (by omega)
     have s2:((ls.take (i+1+1)).flatten).length=((ls.take (i+1)).flatten).length+ls[i+1].length:=by rw[s0,List.length_append]
     generalize hacc:(ls.take (i+1)).flatten=acc at*
     have OT:((i:Int)<((l.length-1:Nat):Int))=True:=eq_true (by omega)
     have hw:=cE i (by omega)
     have h0i:((0:Int)≤(i:Int))=True:=eq_true (by omega)
     have b0:((0:Int)≤(acc.length:Int))=True:=eq_true (by omega)
     have b1:((acc.length:Int)≤(N:Int))=True:=eq_true (by omega)
     have b2:wz ((acc.length:Int)+0)=acc.length:=by rw[Int.add_zero];exact bf (by omega)
     simp only[↓aj,ak,simprocAttr,aa,q1,q70,q71,q72,q8,q9,OT,hw,h0i,pS,t3,hfit _ _ hb,b0,b1,n3,decide_true]
     refine Eq.mpr (F1 (l:=acc++q) (src:=[]) rfl (by rw[List.length_append];omega)) ?_
     have u0:a9 (acc++q) acc.length (([]:List (BitVec 8)).take (min ([]:List (BitVec 8)).length (N-acc.length)))=acc++q:=by rw[List.take_nil,F0]
     have u1:(min ([]:List (BitVec 8)).length (N-acc.length))=0:=by simp
     rw[u0,u1]
     simp only[↓aj,ak,simprocAttr,aa,q1,q70,q71,q72,q8,q9,hw,h0i,hsrc _ _ _ hb,hb.dK,aC,b0,b1,b2,n3,decide_true]
     refine Eq.mpr (F1 (l:=acc++q) (src:=ls[i+1]) rfl (by rw[List.length_append];omega)) ?_
     have u2:ls[i+1].take (min ls[i+1].length (N-acc.length))=ls[i+1]:=List.take_of_length_le (by omega)
     have u3:min ls[i+1].length (N-acc.length)=ls[i+1].length:=by omega
     have u4:wz ((acc.length:Int)+(ls[i+1].length:Int))=(((ls.take (i+1+1)).flatten).length:Int):=by rw[bf (by omega)];omega
     rw[u2,u3,Ip _ _ _ (by omega)]
     simp only[↓aj,ak,simprocAttr,aa,q1,q70,q71,q72,q8,q9,hw,u4]
     exact hR _ _ ⟨by simp only[has,↓aj,ak,simprocAttr,aa,q1,q70,q71,q8],q.drop ls[i+1].length,by rw[s0],by rw[List.length_drop];omega⟩
    ·rintro env rows ⟨hh,q,rfl,hq⟩ R
     simp only[has]at hh
     obtain⟨q1,q70,q71,q72,q8,q9,-⟩:=hh
     have e1:l.length-1+1=ls.length:=by omega
     rw[e1,List.take_length]at hq⊢
     have Z4:q=[]:=List.eq_nil_of_length_eq_zero (by omega)
     have nl2:(((l.length-1:Nat):Int)<((l.length-1:Nat):Int))=False:=eq_false (by omega)
     subst Z4
     simp only[↓aj,ak,simprocAttr,aa,q1,q70,q71,q72,q8,q9,nl2,decide_false,List.append_nil]
     rw[←hN]
     exact .own _ 0 0 _ exx false _ rfl rfl (fun h=>by cases h)
    ·simp only[has,↓aj,ak,simprocAttr,aa,q1]
    ·rw[List.length_drop,←t2];omega
   ·simp only[has,↓aj,ak,simprocAttr,aa,List.flatten_nil]
def Iq:St:=⟨JT,JV,0#64⟩
def oq(s:St):List (BitVec 8):=jQ (feed s (OX s.n)).h
def dU(p:List (BitVec 8)):List (BitVec 8):=oq (feed Iq p)
theorem mO:Iq.ok=true:=rfl
def Mr:Fn
 |[],[]=>some (rY Iq,[])
 | _,_=>none
theorem new_ok(C:be)(hC:aI C P)(hg:C.aZ 2=some (Tv JT)):aO C.aZ P 157 (Fn.run Mr):=by
 refine aH (To C hC) fun ds rows r h=>?_
 unfold Mr at h
 split at h
 ·cases h
  refine⟨rfl,ag rfl ?_⟩
  unfold Ia Ib
  simp only[↓aj,ak,simprocAttr,aa,hg,Tv]
  exact .val _ rfl
 ·cases h
theorem O1(rows:Rows)(k:D→Rows→Prop):aJ Mr rows k []=k (rY Iq) rows:=by
 refine(bi rfl (r:=(rY Iq,[])) rfl).trans ?_
 simp[shift,ae,rY,Sh.pure]
theorem st_ok{s:St}(h:s.ok=true):s.h.length=8∧s.rest.length=64:=by
 simpa[St.ok]using h
theorem jI(rows:Rows)(k:D→Rows→Prop)(s:St)(d:D)(p:List (BitVec 8))(h:bc rows d p)(hs:s.ok=true):aJ qB rows k [rY s,d]=k (rY (feed s p)) rows:=by
 obtain⟨⟨d',je,hb⟩,hn⟩:=h
 have e1:∀d2,dN d2=some p→qB [rY s,d2] []=some (rY (feed s p),[]):=fun d2 h2=>jP (bV D5 s) h2 hs
 have hr:aQ (rY s)=false:=by simp[rY,aQ,Sh.pure]
 have hv:view rows 9 (rY s)=some (rY s):=by simp[rY,view,Sh.pure]
 unfold aJ
 have h1:aN [rY s,d]=aQ d:=by simp[aN,hr]
 rw[h1]
 have hsh:shift rows.length (rY (feed s p))=rY (feed s p):=by simp[rY,shift,Sh.pure]
 have hno:bZ (rY (feed s p))=true:=by simp[rY,bZ,Sh.pure]
 cases hh:aQ d with
 |true=>
  simp only[forall_const,cW,hv,je,bd,e1 _ hb.rd,hno,aS,Bool.and_self,true_and,hsh,ae,List.append_nil]
  simp
 |false=>
  simp only[forall_const,bd,e1 _ (hn hh).rd,hsh,ae,List.append_nil]
  simp
noncomputable def tw:Fn:=lE (b8 rY) (fun s=>s.ok) fun s=>(aW (oq s),[])
theorem Xq(C:be)(hC:aI C P)(h1:C.fn 186=some fPad)(h2:C.fn 158=some qB)(h3:C.fn 185=some An):aO C.aZ P 159 (Fn.run tw):=by
 refine aH (DA C hC) fun ds rows r h=>?_
 obtain⟨d,s,rfl,rfl,hd,hok,rfl⟩:=a8 h
 cases aF hd
 refine⟨rfl,ag rfl ?_⟩
 clear h hd
 have OZ:=eD (OX s.n) s hok
 have e:=st_ok OZ
 unfold tZ ua
 have hst:rY s= .agg KM [.agg (.ar 8 dk) (us s.h),.agg (.ar 64 L8) (bs s.rest),.raw (u64 s.n)]:=rfl
 rw[hst]
 simp only[↓aj,ak,simprocAttr,aa,h1,h2,h3,kPad]
 rw[←hst]
 refine Eq.mpr (jI _ _ _ _ (OX s.n) (bc.own rfl _ rfl) hok) ?_
 simp only[rY,↓aj,ak,simprocAttr,aa,h1,h2,h3]
 rw[QI _ _ _ e.1]
 simp only[↓aj,ak,simprocAttr,aa]
 exact .val _ rfl
theorem yF(rows:Rows)(k:D→Rows→Prop)(s:St)(h:s.ok=true):aJ tw rows k [rY s]=k (.agg (.ar 32 L8) (bs (oq s))) rows:=by
 refine(bi (by simp[aN,aQ,rY,Sh.pure]) (r:=(aW (oq s),[])) ?_).trans ?_
 ·exact ei (bV D5 s) h
 ·simp[shift,ae,aW,Sh.pure]
def BI:Fn:=lE pz (fun ls=>Nat.ble ls.length most&&Nat.ble ls.flatten.length most) fun ls=>(aW (dU ls.flatten),[])
theorem sum_ok (C : be) (hC : aI C P) (h1 : C.fn 157 = some Mr) (h2 : C.fn 158 = some qB) (h3 : C.fn 114 = some BG) (h4 : C.fn 159 = some tw) : aO C.aZ P 95 (Fn.run BI) := by
 refine aH (Tm C hC) fun ds rows r h=>?_
 obtain⟨d,ls,rfl,rfl,hd,hp,rfl⟩:=a8 h
 obtain⟨l,e,rfl,hl⟩:=tq hd
 refine⟨rfl,ag rfl ?_⟩
 have hj : ∀ (rows : Rows) k, aJ BG rows k [.cF .ref l e, .raw (.slice none 0 0)] = k (.sl L8 (0 + rows.length) [] 0 ls.flatten.length false) (rows ++ [some ⟨L8, bs ls.flatten⟩]) := fun rows k => by
  have hnr : aN [.cF .ref l e, .raw (.slice none 0 0)] = false := by
   have : ∀ (l : List D) (ls : List (List (BitVec 8))), cW dN l = some ls → aN l = false := by
    intro l
    induction l with
    |nil=>intro _ _;rfl
    | cons x l ih =>
     intro ls h
     simp only[cW]at h
     split at h
     ·rename_i y hy
      split at h
      ·rename_i ys hys
       have hx:aQ x=false:=by
        rcases eU hy with⟨h,_⟩|⟨e,h⟩<;>rw[h]<;>rfl
       simp[aN,hx,ih _ hys]
      ·cases h
     ·cases h
   simp[aN,aQ,Sh.pure,this l ls hl]
  refine(bi hnr (r:=ez ls.flatten false) ?_).trans ?_
  ·exact jP hd rfl hp
  ·simp[ez,shift,ae,Sh.pure]
 clear h
 have hok:=eD ls.flatten Iq mO
 unfold H6 H7
 simp only[↓aj,ak,simprocAttr,aa,h1,h2,h3,h4,O1,hj]
 refine Eq.mpr (jI _ _ _ _ ls.flatten (bc.own rfl _ rfl) mO) ?_
 simp only[↓aj,ak,simprocAttr,aa,h4]
 rw[yF _ _ _ hok]
 simp only[↓aj,ak,simprocAttr,aa]
 exact .val _ rfl
end iC
end Go.Am
namespace Go.Am
set_option linter.unusedSimpArgs false
set_option linter.unusedVariables false
attribute [local congr] cd bt cg bu bw bO bg bx bz bP a7 bQ bA b9
namespace iC
open Go.Am.F
set_option maxRecDepth 10000
end iC
end Go.Am
namespace Go.Am
set_option linter.unusedSimpArgs false
set_option linter.unusedVariables false
attribute [local congr] cd bt cg bu bw bO bg bx bz bP a7 bQ bA b9
namespace iC
open Go.Am.F
set_option maxRecDepth 10000
theorem view8{rows:Rows}{x:D}{y:List (BitVec 8)}(h:bc rows x y):∃x',view rows 8 x=some x'∧ec x' y:=by
 obtain⟨⟨d',h1,h2⟩,-⟩:=h
 have key : view rows 8 x = some d' := by
  cases x with
  |raw v=>exact h1
  | sl s r p off len e =>
   simp only[view]at h1⊢
   cases he:elems rows (.sl s r p off len e)with
   |none=>rw[he]at h1;cases h1
   | some l =>
    rw[he]at h1
    simp only at h1⊢
    cases hl:(!(l.length==len))with
    |true=>rw[hl]at h1;cases h1
    | false =>
     rw[hl]at h1
     cases hp:s.pure with
     |true=>rw[hp]at h1;exact h1
     | false =>
      rw[hp]at h1
      simp only[cond_false]at h1
      split at h1
      ·cases h1
       rcases h2 with⟨h,_⟩|⟨e2,h⟩
       ·cases h
       ·injection h with hs;subst hs;cases hp
      ·cases h1
  | cF s l e =>
   simp only[view]at h1⊢
   cases hp:s.pure with
   |true=>rw[hp]at h1;exact h1
   | false =>
    rw[hp]at h1
    simp only[cond_false]at h1
    split at h1
    ·cases h1
     rcases h2 with⟨h,_⟩|⟨e2,h⟩
     ·cases h
     ·injection h with hs;subst hs;cases hp
    ·cases h1
  | ptr s r p =>
   simp only[view]at h1
   split at h1
   ·split at h1
    ·cases hp:s.pure<;>rw[hp]at h1
     ·simp only[cond_false]at h1
      split at h1
      ·cases h1;rcases h2 with⟨h,_⟩|⟨e2,h⟩<;>cases h
      ·cases h1
     ·cases h1;rcases h2 with⟨h,_⟩|⟨e2,h⟩<;>cases h
    ·cases h1
   ·cases h1
  | agg s l =>
   simp only[view]at h1
   cases hp:s.pure<;>rw[hp]at h1
   ·simp only[cond_false]at h1
    split at h1
    ·cases h1;rcases h2 with⟨h,_⟩|⟨e2,h⟩<;>cases h
    ·cases h1
   ·cases h1;rcases h2 with⟨h,_⟩|⟨e2,h⟩<;>cases h
  |lF=>simp[view]at h1
  |b5 d=>exact h1
  |cA=>simp[view]at h1
  |om=>exact h1
  |A0=>simp[view]at h1
  |mp r=>
   simp only[view]at h1⊢
   exact h1
 exact⟨d',key,h2⟩
theorem pC{rows:Rows}:∀{l:List D} {ls:List (List (BitVec 8))},aY (fun x y=>bc rows x y) l ls→∃l',cW (view rows 8) l=some l'∧cW dN l'=some ls:=by
 intro l
 induction l with
 |nil=>
  intro ls h
  have:ls=[]:=List.eq_nil_of_length_eq_zero h.len.symm
  subst this
  exact⟨[],rfl,rfl⟩
 | cons x l ih =>
  intro ls h
  match ls,h.len with
  |y::ls,_=>
   obtain⟨x',h1,h2⟩:=view8 h.head
   obtain⟨l',h3,h4⟩:=ih h.tail
   exact⟨x'::l',by simp only[cW,h1,h3],by simp only[cW,h2.rd,h4]⟩
theorem CV{pre:List (List (BitVec 8))→Bool}{out:List (List (BitVec 8))→D×Rows}{rows:Rows}{k:D→Rows→Prop}{r n:Nat}{ex:Bool}{l:List D}{ls:List (List (BitVec 8))}(hl:live rows r=some ⟨.ref,l⟩)(hn:l.length=n)
  (hv:aY (fun x y=>bc rows x y) l ls)(hp:pre ls=true)(hr:(bZ (out ls).1&&aS (out ls).2)=true):aJ (lE pz pre out) rows k [.sl .ref r [] 0 n ex]=k (shift rows.length (out ls).1) (rows++ae rows.length (out ls).2):=by
 obtain⟨l',h1,h2⟩:=pC hv
 have he:elems rows (.sl .ref r [] 0 n ex)=some l:=by simp[elems,hl,←hn]
 have hvw:view rows 9 (.sl .ref r [] 0 n ex)=some (.cF .ref l' ex):=by
  simp only[view,he,hn,beq_self_eq_true,Bool.not_true,cond_false,Sh.pure,h1]
 refine zq (fun d2 yQ=>?_) ⟨_,hvw⟩ (fun hh=>by simp[aQ]at hh) hr
 rw[hvw]at yQ
 cases yQ
 exact ei (by simpa[pz]using h2) hp
theorem O2(rows:Rows)(k:D→Rows→Prop)(r n:Nat)(ex:Bool)(l:List D)(ls:List (List (BitVec 8)))(hl:live rows r=some ⟨.ref,l⟩)(hn:l.length=n)
  (hv:aY (fun x y=>bc rows x y) l ls)(hp:ls.length≤1099511627776)(sG:ls.flatten.length≤1099511627776):aJ BI rows k [.sl .ref r [] 0 n ex]=k (.agg (.ar 32 L8) (bs (dU ls.flatten))) rows:=by
 refine(CV hl hn hv (by simp only[Bool.and_eq_true,Nat.ble_eq];exact⟨hp,sG⟩) (by simp[aW,bZ,aS,Sh.pure])).trans ?_
 simp[aW,shift,ae,Sh.pure]
theorem kJoin(rows:Rows)(k:D→Rows→Prop)(r n:Nat)(ex:Bool)(l:List D)(ls:List (List (BitVec 8)))(hl:live rows r=some ⟨.ref,l⟩)(hn:l.length=n)
  (hv:aY (fun x y=>bc rows x y) l ls)(hp:ls.length≤1099511627776)(sG:ls.flatten.length≤1099511627776):aJ Mi rows k [.sl .ref r [] 0 n ex]=k (.sl L8 (0+rows.length) [] 0 ls.flatten.length false) (rows++[some ⟨L8,bs ls.flatten⟩]):=by
 refine(CV hl hn hv (by simp only[Bool.and_eq_true,Nat.ble_eq];exact⟨hp,sG⟩) (by simp[ez,bZ,aS,Sh.pure])).trans ?_
 simp[ez,shift,ae,Sh.pure]
theorem l5(s:St):D.fits (rY s) KM=true:=by simp[rY,D.fits]
theorem Ir(s:St)(h:s.ok=true):(oq s).length=32:=by
 rw[oq,nC,(st_ok (eD _ _ h)).1]
theorem dh(p:List (BitVec 8)):(dU p).length=32:=Ir _ (eD _ _ mO)
end iC
end Go.Am

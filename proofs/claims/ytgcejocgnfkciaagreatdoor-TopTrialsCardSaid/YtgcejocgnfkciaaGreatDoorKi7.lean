import Derived.Test.YtgcejocgnfkciaaGreatDoorKi6
set_option linter.unusedSimpArgs false
set_option linter.unusedVariables false
set_option maxRecDepth 10000
namespace Go.Am
attribute [local congr] cN bP cO bQ bT ca bC bU bV cb bk cd bW cM
namespace iZ
open Go.Am.F
noncomputable abbrev P:Program:=Go.Proofs.Tryz.prog
def fSame:Fn:=ux dq dq (λa b=>Nat.ble a.length most&&Nat.ble b.length most) λa b=>(.raw (.bool (decide (a=b))),[])
def Ok:Fn:=ux dq s6 (λa n=>Nat.ble a.length 9223372036854775807&&Nat.ble (a.take n.toNat).length most) λa n=>eJ (a.take n.toNat) false
theorem cut_ok(C:aX)(hC:aJ C P):aP C.aY P 17 (Fn.run Ok):=by
 refine aH (N3 C hC) λds rows r h=>?_
 obtain⟨d,e,a,n,rfl,rfl,hd,he,hp,rfl⟩:=dE h
 have ha:=fx hd
 cases bK he
 simp only[aav,abP]at hp
 obtain⟨hp,tZ⟩:=hp
 unfold most at tZ
 rw[aaF]at tZ
 refine⟨rfl,ae rfl ?_⟩
 unfold Ew Ey
 simp only[↓ag,ah,simprocAttr,ha.dP]
 refine s5 (λk env rows=>∃(i:Nat) (x:D),k=a.length-i/\i<=a.length/\has env [(1,.raw (it n)),(8,d),(5,x),(9,.raw (it a.length)),(10,.raw (it i))]/\jg (.leaf v5) x rows (bs ((a.take i).take n.toNat))) ?_ a.length ⟨0,_,by simp,by omega,?_,.inl ⟨by simp[bs],rfl⟩⟩
 ·rintro k env rows ⟨i,x,rfl,hi,hh,how⟩ R hR
  simp only[has]at hh
  obtain⟨h1,h8,h5,h9,h10,-⟩:=hh
  simp only[↓ag,ah,simprocAttr,h1,h8,h5,h9,h10]
  by_cases hlt:(i:Int)<a.length
  ·have hii:i<a.length:=by omega
   have ea:∀(k:D->Rows->Prop) rows,oU (.leaf (.int .u8)) (i:Int) rows k d=k (.b5 (.raw (u8 (a.getD i 0#8)))) rows:=λk rows=>by have:=gP (k:=k) (rows:=rows) (n:=i) ha (by omega);simpa using this
   have hw:wz ((i:Int)+1)=((i+1:Nat):Int):=by rw[be (by omega)];omega
   simp only[↓ag,ah,simprocAttr,hlt,aaG,h1,h8,h5,h9,h10,ea]
   by_cases hin:(i:Int)<n
   ·simp only[↓ag,ah,simprocAttr,hin,aaG,h1,h8,h5,h9,h10,hw]
    have wG:=abg (List.length_take_le' n.toNat (a.take i)) (acj i a)
    refine jG how.push (by rw[aB];simp only[aa0,aba];unfold most;omega) (by rw[aB];simp only[aa0,aba];unfold most;omega) ?_
    intro x' aa how' _ _ _
    simp only[↓ag,ah,simprocAttr,h1,h8,h5,h9,h10,hw]
    refine hR (a.length-(i+1)) _ _ (by omega) ⟨i+1,x',rfl,by omega,?_,?_⟩
    ·simp only[has,↓ag,ah,simprocAttr,h1,h8,h5,h9,h10]
    ·have:bs ((a.take (i+1)).take n.toNat)=bs ((a.take i).take n.toNat)++[.raw (u8 (a.getD i 0#8))]:=by
      have e1:(a.take (i+1)).take n.toNat=a.take (i+1):=aay (by simp;omega)
      have e2:(a.take i).take n.toNat=a.take i:=aay (by simp;omega)
      rw[e1,e2,qd (z:=0#8) hii,Ts]
     rw[this];exact how'
   ·simp only[↓ag,ah,simprocAttr,hin,aaH,h1,h8,h5,h9,h10,hw]
    refine hR (a.length-(i+1)) _ _ (by omega) ⟨i+1,x,rfl,by omega,?_,?_⟩
    ·simp only[has,↓ag,ah,simprocAttr,h1,h8,h5,h9,h10]
    ·have:(a.take (i+1)).take n.toNat=(a.take i).take n.toNat:=by
      rw[acR,acR];congr 1;omega
     rw[this];exact how
  ·have hie:i=a.length:=by omega
   simp only[↓ag,ah,simprocAttr,hlt,aaH,h1,h8,h5,h9,h10,how.oz]
   rw[hie,aa6]at how
   exact how.Li
 ·simp only[has,↓ag,ah,simprocAttr]
def fValue:Fn:=mc dq (λa=>Nat.ble a.length most) λa=>(.raw (u64 (a.foldl (λn b=>256#64*n+b.setWidth 64) 0#64)),[])
def bt(n:BitVec 32):List (BitVec 8):=[(n>>>24).setWidth 8,(n>>>16).setWidth 8,(n>>>8).setWidth 8,n.setWidth 8]
def dt(p:List (BitVec 8)):BitVec 32:=(p.getD 0 0#8).setWidth 32<<<24|||(p.getD 1 0#8).setWidth 32<<<16|||(p.getD 2 0#8).setWidth 32<<<8|||(p.getD 3 0#8).setWidth 32
def qD:D->Option (List (List (BitVec 8)))
 | .cD s l _=>bif s== .ref then dC dq l else none
 | _=>none
theorem uG{d:D}{ls:List (List (BitVec 8))}(h:qD d=some ls):∃l e,d= .cD .ref l e/\dC dq l=some ls:=by
 unfold qD at h
 split at h
 ·rename_i s l e
  cases hb:(s==Sh.ref)with
  |false=>rw[hb]at h;cases h
  |true=>
   rw[hb]at h
   have:s= .ref:=by simpa using hb
   subst this
   exact⟨l,e,rfl,h⟩
 ·cases h
def Ol:Fn:=mc qD (λls=>Nat.ble ls.length most&&Nat.ble ls.flatten.length most) λls=>eJ ls.flatten false
theorem join_ok(C:aX)(hC:aJ C P):aP C.aY P 51 (Fn.run Ol):=by
 refine aH (Lw C hC) λds rows r h=>?_
 obtain⟨d,ls,rfl,rfl,hd,hp,rfl⟩:=aZ h
 obtain⟨l,e,rfl,hl⟩:=uG hd
 simp only[aav,abP]at hp
 obtain⟨Kk,tZ⟩:=hp
 unfold most at Kk tZ
 obtain⟨hlen,kg⟩:=jT hl
 clear h hd
 refine⟨rfl,ae rfl ?_⟩
 unfold Bj Bk
 simp only[↓ag,ah,simprocAttr]
 refine s5 (λk env rows=>∃(i:Nat) (x:D),k=l.length-i/\i<=l.length/\has env [(6,.cD .ref l e),(3,x),(7,.raw (it l.length)),(8,.raw (it i))]/\jg (.leaf v5) x rows (bs (ls.take i).flatten)) ?_ l.length ⟨0,_,by simp,by omega,?_,.inl ⟨by simp[bs],rfl⟩⟩
 ·rintro k env rows ⟨i,x,rfl,hi,hh,how⟩ R hR
  simp only[has]at hh
  obtain⟨h6,h3,h7,h8,-⟩:=hh
  simp only[↓ag,ah,simprocAttr,h6,h3,h7,h8]
  by_cases hlt:i<l.length
  ·have Q7:((i:Int)<(l.length:Int))=True:=aaz (by omega)
   have hlt2:i<ls.length:=by omega
   have hw:wz ((i:Int)+1)=((i+1:Nat):Int):=by rw[be (by omega)];omega
   have hli:l[i]?=some l[i]:=aaw hlt
   have hb:=fx (kg i _ _ hli (aaw hlt2))
   have h0i:((0:Int)<=(i:Int))=True:=aaz (by omega)
   have hfit:D.fits l[i] .ref=true:=by rcases hb with⟨h,_⟩|⟨e,h⟩<;>rw[h]<;>rfl
   have hsrc:∀rows,rk rows (.leaf (.int .u8)) l[i]=some (bs ls[i]):=by
    intro rows
    rcases hb with⟨h,h2⟩|⟨e,h⟩
    ·rw[h,h2];rfl
    ·rw[h];simp[rk,Am.fh,Am.elems]
   simp only[↓ag,ah,simprocAttr,Q7,aaG,h6,h3,h7,h8,hli,h0i,hfit,hsrc,hb.dP,aB]
   have e1:(ls.take (i+1)).flatten=(ls.take i).flatten++ls[i]:=by
    rw[aa2 hlt2,ab5,acn,acx,aa4]
   have e2:((ls.take (i+1)).flatten).length<=ls.flatten.length:=by
    have:ls=ls.take (i+1)++ls.drop (i+1):=(abq _ _).symm
    calc ((ls.take (i+1)).flatten).length<=((ls.take (i+1)++ls.drop (i+1)).flatten).length:=by simp only[ab5,aax];omega
     _=ls.flatten.length:=by rw[<-this]
   have e3:((ls.take (i+1)).flatten).length=((ls.take i).flatten).length+ls[i].length:=by rw[e1,aax]
   refine jG how (by rw[aB,aB];unfold most;omega) (by rw[aB,aB];unfold most;omega) ?_
   intro x' aa how' _ _ _
   simp only[↓ag,ah,simprocAttr,h6,h3,h7,h8,hw]
   refine hR (l.length-(i+1)) _ _ (by omega) ⟨i+1,x',rfl,by omega,?_,?_⟩
   ·simp only[has,↓ag,ah,simprocAttr,h6,h3,h7,h8]
   ·rw[e1,<-oW];exact how'
  ·have hie:i=l.length:=by omega
   have Q7:((i:Int)<(l.length:Int))=False:=aaI (by omega)
   simp only[↓ag,ah,simprocAttr,Q7,aaH,h6,h3,h7,h8,how.oz]
   rw[hie,<-hlen,aa6]at how
   exact how.Li
 ·simp only[has,↓ag,ah,simprocAttr]
theorem bd.sub{rows:Rows}{r off len:Nat}{ex:Bool}{l:List (BitVec 8)}(h:live rows r=some ⟨.leaf v5,bs l⟩)(hle:off+len<=l.length):bd rows (.sl (.leaf v5) r [] off len ex) ((l.drop off).take len):=by
 refine⟨⟨.cD (.leaf v5) (bs ((l.drop off).take len)) ex,?_,.inr ⟨ex,rfl⟩⟩,λh=>by simp[aT]at h⟩
 simp only[Am.view]
 have:Am.elems rows (.sl (.leaf v5) r [] off len ex)=some (bs ((l.drop off).take len)):=by simp only[Am.elems,h];simp[bs]
 rw[this]
 have hl:(bs ((l.drop off).take len)).length=len:=by simp[bs];omega
 simp[Sh.pure,hl]
theorem aC{rows:Rows}{r r':Nat}{x:Option Row}(h:r≠r'):live (rows.set r x) r'=live rows r':=by
 simp only[live,abU h]
theorem bd.push{rows more:Rows}{d:D}{l:List (BitVec 8)}(h:jg (.leaf v5) d rows (bs l)):bd (rows++more) d l:=h.push.to
theorem bd.own{rows:Rows}{r:Nat}{ex:Bool}{l:List (BitVec 8)}(h:live rows r=some ⟨L8,bs l⟩)(n:Nat)(hn:n=l.length):bd rows (.sl L8 r [] 0 n ex) l:=by
 subst hn
 exact jg.to (.inr ⟨r,ex,by rw[aB],h⟩)
theorem LN(a b i:Nat)(h:b<2^i):a<<<i|||b=a*2^i+b:=by
 rw[<-Nat.shiftLeft_add_eq_or_of_lt h,acL]
theorem Om(a b c d:BitVec 8):(dt [a,b,c,d]).toNat=a.toNat*16777216+b.toNat*65536+c.toNat*256+d.toNat:=by
 have ha:=a.isLt
 have hb:=b.isLt
 have hc:=c.isLt
 have hd:=d.isLt
 have e:(dt [a,b,c,d]).toNat=a.toNat<<<24|||b.toNat<<<16|||c.toNat<<<8|||d.toNat:=by
  simp only[dt,List.getD_cons_zero,List.getD_cons_succ,adC,acE,abW,acL]
  rw[abB (a:=a.toNat %2^32*2^24) (by omega),abB (a:=b.toNat %2^32*2^16) (by omega),abB (a:=c.toNat %2^32*2^8) (by omega),
   abB (a:=a.toNat) (by omega),abB (a:=b.toNat) (by omega),abB (a:=c.toNat) (by omega),abB (a:=d.toNat) (by omega)]
 rw[e,Nat.or_assoc,Nat.or_assoc,LN c.toNat d.toNat 8 (by omega),LN b.toNat _ 16 (by omega),LN a.toNat _ 24 (by omega)]
 omega
theorem Zm(a b c d:BitVec 8):bt (dt [a,b,c,d])=[a,b,c,d]:=by
 have h:=Om a b c d
 have ha:=a.isLt
 have hb:=b.isLt
 have hc:=c.isLt
 have hd:=d.isLt
 simp only[bt,abL,aci]
 refine⟨?_,?_,?_,?_⟩<;>apply aaS<;>simp only[abW,ab3,h,abG]<;>omega
theorem pL(p:List (BitVec 8))(n:Nat)(h:4<=n):dt (p.take n)=dt p:=by
 unfold dt
 simp only[aaD]
 rw[abm (by omega),abm (by omega),abm (by omega),abm (by omega)]
theorem Kl(p:List (BitVec 8))(n:Nat):dt (p.drop n)=dt [p.getD n 0#8,p.getD (n+1) 0#8,p.getD (n+2) 0#8,p.getD (n+3) 0#8]:=by
 simp only[dt,aaD,abh,adm,abD,ab7,adj]
def ub(l:List (BitVec 8)):List UInt8:=l.map λb=>UInt8.ofNat b.toNat
theorem Tw(l:List (BitVec 8)):dC toByte (bs l)=some (ub l):=by
 induction l with
 |nil=>rfl
 | cons a l ih =>
  have h1:toByte (.raw (u8 a))=some (UInt8.ofNat a.toNat):=by
   simp only[u8,toByte,aaK]
  simp only[bs,abw,dC,h1]at ih⊢
  rw[ih]
  rfl
theorem ub_inj(a b:List (BitVec 8)):ub a=ub b↔a=b:=by
 constructor
 ·intro h
  refine(adp λx y hxy=>?_).1 h
  have h2:=abt UInt8.toNat hxy
  have hx:=x.isLt
  have hy:=y.isLt
  rw[UInt8.toNat_ofNat',UInt8.toNat_ofNat']at h2
  exact aaS (by omega)
 ·rintro rfl;rfl
theorem Zn(a b:List (BitVec 8)):(ub a==ub b)=decide (a=b):=by
 by_cases h:a=b
 ·subst h;simp
 ·have:ub a≠ub b:=λe=>h ((ub_inj a b).1 e)
  simp[h,this]
def aggO(off len:Nat):D->Option (List D)
 | .agg _ l=>some ((l.drop off).take len)
 | _=>none
theorem On(off len s l):aggO off len (.agg s l)=some ((l.drop off).take len):=aaJ rfl rfl
theorem el_sp(rows:Rows)(s r i p off len ex):elems rows (.sl s r (i::p) off len ex)=(live rows r).bind λrow=>(cF row.els (i::p)).bind (aggO off len):=by
 simp only[elems]
 cases live rows r with
 |none=>rfl
 |some row=>
  simp only[abf]
  cases cF row.els (i::p)with
  |none=>rfl
  |some d=>cases d<;>rfl
def us(l:List (BitVec 32)):List D:=l.map λx=> .raw (u32 x)
theorem n9(l:List (BitVec 32)):(us l).length=l.length:=by simp[us]
theorem lh{l:List (BitVec 32)}{i:Nat}(h:i<l.length):(us l)[i]?=some (.raw (u32 (l.getD i 0#32))):=by
 simp[us,abl,h]
theorem LO(l:List (BitVec 32))(i:Nat)(x:BitVec 32):(us l).set i (.raw (u32 x))=us (l.set i x):=by simp[us,acP]
theorem Zo{a b:List (BitVec 32)}(h:us a=us b):a=b:=(adp λx y hxy=>by cases(D.raw.inj hxy:u32 x=u32 y)|>A9.1;rfl).1 h
theorem Q8(a b:List (BitVec 32)):us a++us b=us (a++b):=by simp[us]
theorem us_rep(n:Nat)(x:BitVec 32):List.replicate n (D.raw (u32 x))=us (List.replicate n x):=by simp[us]
theorem Zp(n:Nat)(x:BitVec 8):List.replicate n (D.raw (u8 x))=bs (List.replicate n x):=by simp[bs]
theorem qE{a b:List (BitVec 8)}(h:bs a=bs b):a=b:=(adp λx y hxy=>by cases(D.raw.inj hxy:u8 x=u8 y)|>Y7.1;rfl).1 h
def VL(l:List (BitVec 32)):D:= .agg (.ar 8 dk) (us l)
def VM(l:List (BitVec 32)):D:= .agg (.ar 64 dk) (us l)
def LP(l:List (BitVec 8)):D:= .agg (.ar 64 L8) (bs l)
def aU(l:List (BitVec 8)):D:= .agg (.ar 32 L8) (bs l)
theorem Tx(x y:List (BitVec 32))(h:VL x=VL y):x=y:=by unfold VL at h;injection h with _ h;exact Zo h
theorem HO(x y:List (BitVec 8))(h:LP x=LP y):x=y:=by unfold LP at h;injection h with _ h;exact qE h
theorem xz(x y:List (BitVec 8))(h:aU x=aU y):x=y:=by unfold aU at h;injection h with _ h;exact qE h
def LQ(x:BitVec 32)(n:Nat):BitVec 32:=x>>>n|||x<<<(32-n)
def VN:Fn:=ux qc s6 (λ_ k=>decide (-32<k)&&decide (k<0)) λx k=>(.raw (u32 (LQ x (-k).toNat)),[])
theorem rot_ok(C:aX)(hC:aJ C P):aP C.aY P 203 (Fn.run VN):=by
 refine aH (sx C hC) λds rows r h=>?_
 obtain⟨d,e,x,k,rfl,rfl,hd,he,hp,rfl⟩:=dE h
 cases eh hd
 cases bK he
 simp only[aav,aaA]at hp
 obtain⟨n,hn⟩:=aaO (by omega:0≤-k)
 obtain rfl:k=-(n:Int):=by omega
 refine⟨rfl,ae rfl ?_⟩
 unfold lH lI
 have e1:BitVec.ofInt 64 (-(n:Int))&&&31#64=BitVec.ofNat 64 (32-n):=by
  have:∀m:Fin 32,0<m.val->BitVec.ofInt 64 (-(m.val:Int))&&&31#64=BitVec.ofNat 64 (32-m.val):=by decide
  exact this ⟨n,by omega⟩ (by simp;omega)
 have e2:(BitVec.ofNat 64 (32-n)).toNat=32-n:=by simp;omega
 have e3:(32#64-BitVec.ofNat 64 (32-n)).toNat=n:=by
  rw[adU];simp;omega
 simp only[↓ag,ah,simprocAttr,e1,e2,e3]
 have:x<<<(32-n)|||x>>>n=LQ x n:=by rw[LQ,BitVec.or_comm]
 rw[this]
 simp only[Int.neg_neg,aaK]
 exact .val _ rfl
theorem Jm(rows:Rows)(k:D->Rows->Prop)(x:BitVec 32)(n:Nat)(h0:0<n)(h1:n<32):aK VN rows k [.raw (u32 x),.raw (it (-(n:Int)))]=k (.raw (u32 (LQ x n))) rows:=by
 refine(bh rfl (r:=(.raw (u32 (LQ x n)),[])) ?_).trans ?_
 ·rw[VN,lg (gA x) (oV _) (by simp;omega)];simp
 ·simp[shift,ab]
def Ty:Fn:=mc dq (λa=>Nat.ble 4 a.length) λa=>(.raw (u32 (dt a)),[])
theorem word_ok(C:aX)(hC:aJ C P):aP C.aY P 212 (Fn.run Ty):=by
 refine aH (Q5 C hC) λds rows r h=>?_
 obtain⟨d,a,rfl,rfl,hd,hp,rfl⟩:=aZ h
 have ha:=fx hd
 simp only[abP]at hp
 refine⟨rfl,ae rfl ?_⟩
 unfold HJ HK
 have e0:∀(k:D->Rows->Prop) rows,oU (.leaf (.int .u8)) 0 rows k d=k (.b5 (.raw (u8 (a.getD 0 0#8)))) rows:=λk rows=>by have:=gP (k:=k) (rows:=rows) (n:=0) ha (by omega);simpa using this
 have e1:∀(k:D->Rows->Prop) rows,oU (.leaf (.int .u8)) 1 rows k d=k (.b5 (.raw (u8 (a.getD 1 0#8)))) rows:=λk rows=>by have:=gP (k:=k) (rows:=rows) (n:=1) ha (by omega);simpa using this
 have e2:∀(k:D->Rows->Prop) rows,oU (.leaf (.int .u8)) 2 rows k d=k (.b5 (.raw (u8 (a.getD 2 0#8)))) rows:=λk rows=>by have:=gP (k:=k) (rows:=rows) (n:=2) ha (by omega);simpa using this
 have e3:∀(k:D->Rows->Prop) rows,oU (.leaf (.int .u8)) 3 rows k d=k (.b5 (.raw (u8 (a.getD 3 0#8)))) rows:=λk rows=>by have:=gP (k:=k) (rows:=rows) (n:=3) ha (by omega);simpa using this
 simp only[↓ag,ah,simprocAttr,e0,e1,e2,e3]
 exact .val _ rfl
theorem bd.arr{rows:Rows}{r n off len:Nat}{e:Bool}{l:List (BitVec 8)}(h:live rows r=some ⟨.ar n L8,[.agg (.ar n L8) (bs l)]⟩)(hle:off+len<=l.length):bd rows (.sl L8 r [0] off len e) ((l.drop off).take len):=by
 refine⟨⟨.cD L8 (bs ((l.drop off).take len)) e,?_,.inr ⟨e,rfl⟩⟩,λh=>by simp[aT]at h⟩
 have h2:Am.elems rows (.sl L8 r [0] off len e)=some (bs ((l.drop off).take len)):=by
  simp only[elems,h,cF]
  simp[bs,D.get]
 simp only[Am.view]
 rw[h2]
 have hl:(bs ((l.drop off).take len)).length=len:=by simp[bs];omega
 simp[Sh.pure,hl]
theorem kWord(rows:Rows)(k:D->Rows->Prop)(d:D)(a:List (BitVec 8))(h:bd rows d a)(hl:4<=a.length):aK Ty rows k [d]=k (.raw (u32 (dt a))) rows:=by
 refine(s9 h (by simpa using hl) rfl).trans ?_
 simp[shift,ab]
def sg0(a:BitVec 32):BitVec 32:=LQ a 7^^^LQ a 18^^^a>>>3
def sg1(a:BitVec 32):BitVec 32:=LQ a 17^^^LQ a 19^^^a>>>10
def nxt(w:List (BitVec 32))(i:Nat):BitVec 32:=w.getD (i-16) 0#32+sg0 (w.getD (i-15) 0#32)+w.getD (i-7) 0#32+sg1 (w.getD (i-2) 0#32)
def words(n:Nat)(b:List (BitVec 8)):List (BitVec 32):=(List.range n).map λi=>dt ((b.drop (4*i)).take 4)
def AH:Nat->List (BitVec 32)->List (BitVec 32)
 |0,w=>w
 |n+1,w=>AH n w++[nxt (AH n w) (AH n w).length]
theorem LU(n:Nat)(w:List (BitVec 32)):(AH n w).length=w.length+n:=by
 induction n with
 |zero=>rfl
 |succ n ih=>simp[AH,ih];omega
theorem fA(n:Nat)(b:List (BitVec 8)):(words n b).length=n:=by simp[words]
theorem As(n:Nat)(b:List (BitVec 8)):words (n+1) b=words n b++[dt ((b.drop (4*n)).take 4)]:=by simp[words,abM]
def pC(b:List (BitVec 8)):List (BitVec 32):=AH 48 (words 16 b)
def fill(l:List (BitVec 32))(n:Nat):List (BitVec 32):=l++List.replicate (n-l.length) 0#32
theorem Oo{l:List (BitVec 32)}{n:Nat}(h:l.length<=n):(fill l n).length=n:=by simp[fill];omega
theorem Zq{l:List (BitVec 32)}{n i:Nat}(h:i<l.length):(fill l n).getD i 0#32=l.getD i 0#32:=by
 simp[fill,List.getD,aaQ h]
theorem Oq{l:List (BitVec 32)}{n:Nat}(h:l.length<n)(x:BitVec 32):(fill l n).set l.length x=fill (l++[x]) n:=by
 obtain⟨k,hk⟩:∃k,n-l.length=k+1:=⟨n-l.length-1,by omega⟩
 have h2:n-(l++[x]).length=k:=by simp;omega
 rw[fill,fill,hk,h2,ad3,acp _ _ (aaL _)]
 simp
theorem VO{l:List (BitVec 32)}{n:Nat}(h:l.length=n):fill l n=l:=by simp[fill,h]
noncomputable def FQ:Fn:=mc (bE LP) (λb=>decide (b.length=64)) λb=>(VM (pC b),[])
theorem VP(C:aX)(hC:aJ C P)(hw:C.fn 212=some Ty)(hr:C.fn 203=some VN):aP C.aY P 202 (Fn.run FQ):=by
 refine aH (LM C hC) λds rows r h=>?_
 obtain⟨d,b,rfl,rfl,hd,hp,rfl⟩:=aZ h
 cases aF hd
 simp only[aaA]at hp
 refine⟨rfl,ae rfl ?_⟩
 clear h hd
 unfold BS BT
 have hb:(bs b).length=64:=by rw[aB,hp]
 simp only[LP,↓ag,ah,simprocAttr]
 refine bg 16 (λi env rows=>has env [(10,.raw (it (i:Int))),(1,.ptr (.ar 64 L8) 0 [0]),(2,.ptr (.ar 64 dk) 1 [0]),(3,.ptr (.ar 64 dk) 2 [0])]/\
  ∃z,rows=[some ⟨.ar 64 L8,[.agg (.ar 64 L8) (bs b)]⟩,some ⟨.ar 64 dk,[z]⟩,some ⟨.ar 64 dk,[.agg (.ar 64 dk) (us (fill (words i b) 64))]⟩]) ?_ ?_ ⟨?_,.agg (.ar 64 dk) (List.replicate 64 (.raw (u32 0#32))),?_⟩
 ·rintro i hi env rows ⟨hh,z,rfl⟩ R hR
  simp only[has]at hh
  obtain⟨h10,h1,h2,h3,-⟩:=hh
  have e0:((i:Int)<16)=True:=aaz (by omega)
  have e1:((0:Int)<=4*(i:Int))=True:=aaz (by omega)
  have e2:wz (4*(i:Int))=4*(i:Int):=be (by omega)
  have e3:wz (4*(i:Int)+4)=4*(i:Int)+4:=be (by omega)
  have e4:(4*(i:Int)<=4*(i:Int)+4)=True:=aaz (by omega)
  have e5:(4*(i:Int)+4<=64)=True:=aaz (by omega)
  have e6:(4*(i:Int)).toNat=4*i:=by omega
  have e7:(4*(i:Int)+4).toNat=4*i+4:=by omega
  have e8:4*i+4-4*i=4:=by omega
  have e9:((0:Int)<=(i:Int))=True:=aaz (by omega)
  have e10:((i:Int)<64)=True:=aaz (by omega)
  have e11:=cj i (by omega)
  simp only[↓ag,ah,simprocAttr,h10,h1,h2,h3,hw,e0,e1,e2,e3,e4,e5,e6,e7,e8,aaG]
  refine Eq.mpr (kWord _ _ _ _ (bd.arr rfl (by omega)) (by rw[aaF,aaB];omega)) ?_
  have eg:(us (fill (words i b) 64))[i]?=some (.raw (u32 ((fill (words i b) 64).getD i 0#32))):=lh (by rw[Oo (by rw[fA];omega)];omega)
  have es:(us (fill (words i b) 64)).set i (.raw (u32 (dt ((b.drop (4*i)).take 4))))=us (fill (words (i+1) b) 64):=by
   have:=Oq (l:=words i b) (n:=64) (by rw[fA];omega) (dt ((b.drop (4*i)).take 4))
   rw[fA]at this
   rw[LO,this,<-As]
  simp only[↓ag,ah,simprocAttr,h10,h1,h2,h3,e9,e10,e11,eg,es]
  exact hR _ _ ⟨by simp only[has,↓ag,ah,simprocAttr,h1,h2,h3],z,rfl⟩
 ·rintro env rows ⟨hh,z,rfl⟩ R
  simp only[has]at hh
  obtain⟨h10,h1,h2,h3,-⟩:=hh
  simp only[↓ag,ah,simprocAttr,h10,h1,h2,h3]
  refine bg 48 (λi env rows=>has env [(5,.raw (it ((16+i:Nat):Int))),(1,.ptr (.ar 64 L8) 0 [0]),(2,.ptr (.ar 64 dk) 1 [0]),(3,.ptr (.ar 64 dk) 2 [0])]/\
   rows=[some ⟨.ar 64 L8,[.agg (.ar 64 L8) (bs b)]⟩,some ⟨.ar 64 dk,[z]⟩,some ⟨.ar 64 dk,[.agg (.ar 64 dk) (us (fill (AH i (words 16 b)) 64))]⟩]) ?_ ?_ ⟨?_,rfl⟩
  ·rintro i hi env rows ⟨hh,rfl⟩ R hR
   simp only[has]at hh
   obtain⟨h5,h1,h2,h3,-⟩:=hh
   have hlen:(AH i (words 16 b)).length=16+i:=by rw[LU,fA]
   have my:(fill (AH i (words 16 b)) 64).length=64:=Oo (by omega)
   have e0:(((16+i:Nat):Int)<64)=True:=aaz (by omega)
   have a1:wz (((16+i:Nat):Int)-15)=((16+i-15:Nat):Int):=by rw[be (by omega)];omega
   have a2:wz (((16+i:Nat):Int)-2)=((16+i-2:Nat):Int):=by rw[be (by omega)];omega
   have a3:wz (((16+i:Nat):Int)-16)=((16+i-16:Nat):Int):=by rw[be (by omega)];omega
   have a4:wz (((16+i:Nat):Int)-7)=((16+i-7:Nat):Int):=by rw[be (by omega)];omega
   have b1:∀j:Nat,((0:Int)<=(j:Int))=True:=λj=>aaz (by omega)
   have c1:(((16+i-15:Nat):Int)<64)=True:=aaz (by omega)
   have c2:(((16+i-2:Nat):Int)<64)=True:=aaz (by omega)
   have c3:(((16+i-16:Nat):Int)<64)=True:=aaz (by omega)
   have c4:(((16+i-7:Nat):Int)<64)=True:=aaz (by omega)
   have gg:∀j,j<16+i->(us (fill (AH i (words 16 b)) 64))[j]?=some (.raw (u32 ((AH i (words 16 b)).getD j 0#32))):=λj hj=>by
    rw[lh (by omega),Zq (by omega)]
   have g1:=gg (16+i-15) (by omega)
   have g2:=gg (16+i-2) (by omega)
   have g3:=gg (16+i-16) (by omega)
   have g4:=gg (16+i-7) (by omega)
   have g5:(us (fill (AH i (words 16 b)) 64))[16+i]?=some (.raw (u32 ((fill (AH i (words 16 b)) 64).getD (16+i) 0#32))):=lh (by omega)
   have r1:=λrows k x=>Jm rows k x 7 (by decide) (by decide)
   have r2:=λrows k x=>Jm rows k x 18 (by decide) (by decide)
   have r3:=λrows k x=>Jm rows k x 17 (by decide) (by decide)
   have r4:=λrows k x=>Jm rows k x 19 (by decide) (by decide)
   simp only[adH]at r1 r2 r3 r4
   have es:(us (fill (AH i (words 16 b)) 64)).set (16+i) (.raw (u32 (nxt (AH i (words 16 b)) (16+i))))=us (fill (AH (i+1) (words 16 b)) 64):=by
    have:=Oq (l:=AH i (words 16 b)) (n:=64) (by omega) (nxt (AH i (words 16 b)) (16+i))
    rw[hlen]at this
    rw[LO,this,AH,hlen]
   have e11:wz (((16+i:Nat):Int)+1)=((16+(i+1):Nat):Int):=by rw[be (by omega)];omega
   have es':(us (fill (AH i (words 16 b)) 64)).set (16+i) (.raw (u32 ((AH i (words 16 b)).getD (16+i-16) 0#32+(LQ ((AH i (words 16 b)).getD (16+i-15) 0#32) 7^^^LQ ((AH i (words 16 b)).getD (16+i-15) 0#32) 18^^^(AH i (words 16 b)).getD (16+i-15) 0#32>>>3)+(AH i (words 16 b)).getD (16+i-7) 0#32+(LQ ((AH i (words 16 b)).getD (16+i-2) 0#32) 17^^^LQ ((AH i (words 16 b)).getD (16+i-2) 0#32) 19^^^(AH i (words 16 b)).getD (16+i-2) 0#32>>>10))))=us (fill (AH (i+1) (words 16 b)) 64):=es
   simp only[↓ag,ah,simprocAttr,h5,h1,h2,h3,hr,e0,a1,a2,a3,a4,b1,c1,c2,c3,c4,g1,g2,g3,g4,g5,r1,r2,r3,r4,e11,es',aaG]
   exact hR _ _ ⟨by simp only[has,↓ag,ah,simprocAttr,h1,h2,h3],rfl⟩
  ·rintro env rows ⟨hh,rfl⟩ R
   simp only[has]at hh
   obtain⟨h5,h1,h2,h3,-⟩:=hh
   simp only[↓ag,ah,simprocAttr,h5,h1,h2,h3]
   rw[VO (by rw[LU,fA])]
   exact .val _ rfl
  ·have:fill (words 16 b) 64=fill (AH 0 (words 16 b)) 64:=rfl
   simp only[has,↓ag,ah,simprocAttr,h1,h2,h3]
 ·simp only[has,↓ag,ah,simprocAttr]
 ·rw[us_rep];rfl
def LV:List (BitVec 32):=[0x6a09e667#32,0xbb67ae85#32,0x3c6ef372#32,0xa54ff53a#32,0x510e527f#32,0x9b05688c#32,0x1f83d9ab#32,0x5be0cd19#32]
def rQ:List (BitVec 32):=[
 0x428a2f98#32,0x71374491#32,0xb5c0fbcf#32,0xe9b5dba5#32,0x3956c25b#32,0x59f111f1#32,0x923f82a4#32,0xab1c5ed5#32,
 0xd807aa98#32,0x12835b01#32,0x243185be#32,0x550c7dc3#32,0x72be5d74#32,0x80deb1fe#32,0x9bdc06a7#32,0xc19bf174#32,
 0xe49b69c1#32,0xefbe4786#32,0x0fc19dc6#32,0x240ca1cc#32,0x2de92c6f#32,0x4a7484aa#32,0x5cb0a9dc#32,0x76f988da#32,
 0x983e5152#32,0xa831c66d#32,0xb00327c8#32,0xbf597fc7#32,0xc6e00bf3#32,0xd5a79147#32,0x06ca6351#32,0x14292967#32,
 0x27b70a85#32,0x2e1b2138#32,0x4d2c6dfc#32,0x53380d13#32,0x650a7354#32,0x766a0abb#32,0x81c2c92e#32,0x92722c85#32,
 0xa2bfe8a1#32,0xa81a664b#32,0xc24b8b70#32,0xc76c51a3#32,0xd192e819#32,0xd6990624#32,0xf40e3585#32,0x106aa070#32,
 0x19a4c116#32,0x1e376c08#32,0x2748774c#32,0x34b0bcb5#32,0x391c0cb3#32,0x4ed8aa4a#32,0x5b9cca4f#32,0x682e6ff3#32,
 0x748f82ee#32,0x78a5636f#32,0x84c87814#32,0x8cc70208#32,0x90befffa#32,0xa4506ceb#32,0xbef9a3f7#32,0xc67178f2#32]
def rnd(v:List (BitVec 32))(k w:BitVec 32):List (BitVec 32):=
 match v with
 |[a,b,c,d,e,f,g,h]=>
  let t:=h+(LQ e 6^^^LQ e 11^^^LQ e 25)+(e&&&f^^^~~~e&&&g)+k+w
  [t+(LQ a 2^^^LQ a 13^^^LQ a 22)+(a&&&b^^^a&&&c^^^b&&&c),a,b,c,d+t,e,f,g]
 | _=>v
def yQ(ws:List (BitVec 32)):Nat->List (BitVec 32)->List (BitVec 32)
 |0,v=>v
 |n+1,v=>rnd (yQ ws n v) (rQ.getD n 0#32) (ws.getD n 0#32)
theorem eight{v:List (BitVec 32)}(h:v.length=8):∃a b c d e f g i,v=[a,b,c,d,e,f,g,i]:=by
 match v,h with
 |[a,b,c,d,e,f,g,i],_=>exact⟨a,b,c,d,e,f,g,i,rfl⟩
theorem rnd_len(v:List (BitVec 32))(k w:BitVec 32)(h:v.length=8):(rnd v k w).length=8:=by
 obtain⟨a,b,c,d,e,f,g,i,rfl⟩:=eight h;rfl
theorem HP(ws:List (BitVec 32))(n:Nat)(v:List (BitVec 32))(h:v.length=8):(yQ ws n v).length=8:=by
 induction n with
 |zero=>exact h
 |succ n ih=>exact rnd_len _ _ _ ih
def Q9(x y:List (BitVec 32))(i:Nat):List (BitVec 32):=(List.zipWith (· + ·) x y).take i++x.drop i
theorem mix_len(x y:List (BitVec 32))(i:Nat)(h:x.length=y.length)(hi:i<=x.length):(Q9 x y i).length=x.length:=by simp[Q9];omega
theorem mix_get(x y:List (BitVec 32))(i:Nat)(h:x.length=y.length)(hi:i<x.length):(Q9 x y i).getD i 0#32=x.getD i 0#32:=by
 have:((List.zipWith (· + ·) x y).take i).length=i:=by simp;omega
 simp only[Q9,List.getD]
 rw[aaT (by omega),this,acr,abh]
 rfl
theorem mix_set(x y:List (BitVec 32))(i:Nat)(h:x.length=y.length)(hi:i<x.length):(Q9 x y i).set i (x.getD i 0#32+y.getD i 0#32)=Q9 x y (i+1):=by
 have hl:((List.zipWith (· + ·) x y).take i).length=i:=by simp;omega
 have e1:x.drop i=x.getD i 0#32::x.drop (i+1):=by
  rw[abF hi];simp[List.getD,hi]
 have e2:(List.zipWith (· + ·) x y).take (i+1)=(List.zipWith (· + ·) x y).take i++[x.getD i 0#32+y.getD i 0#32]:=by
  have hz:i<(List.zipWith (· + ·) x y).length:=by simp;omega
  rw[aa2 hz]
  have hy:i<y.length:=by omega
  simp[List.getD,hi,hy]
 rw[Q9,Q9,e2,acp _ _ (by omega),hl,acr,e1]
 simp
theorem mix_all(x y:List (BitVec 32))(h:x.length=y.length):Q9 x y x.length=List.zipWith (· + ·) x y:=by
 rw[Q9,List.drop_length,aa4,aay (by simp;omega)]
def xA(h:List (BitVec 32))(b:List (BitVec 8)):List (BitVec 32):=List.zipWith (· + ·) h (yQ (pC b) 64 h)
theorem Zr(b:List (BitVec 8)):(pC b).length=64:=by rw[pC,LU,fA]
theorem VQ(h:List (BitVec 32))(b:List (BitVec 8))(hh:h.length=8):(xA h b).length=8:=by simp[xA,hh,HP]
noncomputable def LW:Fn:=ux (bE VL) (bE LP) (λh b=>decide (h.length=8)&&decide (b.length=64)) λh b=>(VL (xA h b),[])
theorem kSpread(rows:Rows)(k:D->Rows->Prop)(b:List (BitVec 8))(h:b.length=64):aK FQ rows k [.agg (.ar 64 L8) (bs b)]=k (.agg (.ar 64 dk) (us (pC b))) rows:=by
 refine(bh (by simp[aV,aT,Sh.pure]) (r:=(VM (pC b),[])) ?_).trans ?_
 ·exact eQ (bA HO b) (by simp[h])
 ·simp[shift,ab,VM,Sh.pure]
theorem Zs(C:aX)(hC:aJ C P)(hg:C.aY 5=some (VM rQ))(hs:C.fn 202=some FQ)(hr:C.fn 203=some VN):aP C.aY P 184 (Fn.run LW):=by
 refine aH (Od C hC) λds rows r h=>?_
 obtain⟨d,e,h0,b,rfl,rfl,hd,he,hp,rfl⟩:=dE h
 cases aF hd
 cases aF he
 simp only[aav,aaA]at hp
 obtain⟨hp,hb⟩:=hp
 refine⟨rfl,ae rfl ?_⟩
 clear h hd he
 unfold EJ EK
 simp only[VL,LP,↓ag,ah,simprocAttr,hs]
 refine Eq.mpr (kSpread _ _ _ hb) ?_
 simp only[↓ag,ah,simprocAttr]
 refine bg 64 (λi env rows=>has env [(17,.raw (it (i:Int))),(16,.agg (.ar 64 dk) (us (pC b))),(2,.ptr (.ar 8 dk) 0 [0]),(4,.ptr (.ar 8 dk) 2 [0]),(5,.ptr (.ar 8 dk) 3 [0])]/\
  ∃z y,rows=[some ⟨.ar 8 dk,[.agg (.ar 8 dk) (us h0)]⟩,some y,some ⟨.ar 8 dk,[z]⟩,some ⟨.ar 8 dk,[.agg (.ar 8 dk) (us (yQ (pC b) i h0))]⟩]) ?_ ?_ ⟨?_,_,_,rfl⟩
 ·rintro i hi env rows ⟨hh,z,y,rfl⟩ R hR
  simp only[has]at hh
  obtain⟨h17,h16,h2,h4,h5,-⟩:=hh
  obtain⟨va,vb,vc,vd,ve,vf,vg,vh,hv⟩:=eight (HP (pC b) i h0 hp)
  have e0:((i:Int)<64)=True:=aaz (by omega)
  have e1:((0:Int)<=(i:Int))=True:=aaz (by omega)
  have e2:=cj i (by omega)
  have g1:(us (pC b))[i]?=some (.raw (u32 ((pC b).getD i 0#32))):=lh (by rw[Zr];omega)
  have g2:(us rQ)[i]?=some (.raw (u32 (rQ.getD i 0#32))):=lh (by simp[rQ];omega)
  have r1:=λrows k x=>Jm rows k x 6 (by decide) (by decide)
  have r2:=λrows k x=>Jm rows k x 11 (by decide) (by decide)
  have r3:=λrows k x=>Jm rows k x 25 (by decide) (by decide)
  have r4:=λrows k x=>Jm rows k x 2 (by decide) (by decide)
  have r5:=λrows k x=>Jm rows k x 13 (by decide) (by decide)
  have r6:=λrows k x=>Jm rows k x 22 (by decide) (by decide)
  simp only[adH]at r1 r2 r3 r4 r5 r6
  have hn:us (yQ (pC b) (i+1) h0)=us (rnd [va,vb,vc,vd,ve,vf,vg,vh] (rQ.getD i 0#32) ((pC b).getD i 0#32)):=by rw[yQ,hv]
  rw[hv]
  have hu:us [va,vb,vc,vd,ve,vf,vg,vh]=[.raw (u32 va),.raw (u32 vb),.raw (u32 vc),.raw (u32 vd),.raw (u32 ve),.raw (u32 vf),.raw (u32 vg),.raw (u32 vh)]:=rfl
  simp only[↓ag,ah,simprocAttr,VM,h17,h16,h2,h4,h5,hr,hg,e0,e1,e2,g1,g2,r1,r2,r3,r4,r5,r6,hu,aaG]
  exact hR _ _ ⟨by simp only[has,↓ag,ah,simprocAttr,h16,h2,h4,h5],z,y,by rw[hn];rfl⟩
 ·rintro env rows ⟨hh,z,y,rfl⟩ R
  simp only[has]at hh
  obtain⟨h17,h16,h2,h4,h5,-⟩:=hh
  simp only[↓ag,ah,simprocAttr,h17,h16,h2,h4,h5]
  have hv:=HP (pC b) 64 h0 hp
  have hq:h0.length=(yQ (pC b) 64 h0).length:=by omega
  refine bg 8 (λi env rows=>has env [(107,.raw (it (i:Int))),(2,.ptr (.ar 8 dk) 0 [0]),(4,.ptr (.ar 8 dk) 2 [0]),(5,.ptr (.ar 8 dk) 3 [0])]/\
   rows=[some ⟨.ar 8 dk,[.agg (.ar 8 dk) (us (Q9 h0 (yQ (pC b) 64 h0) i))]⟩,some y,some ⟨.ar 8 dk,[z]⟩,some ⟨.ar 8 dk,[.agg (.ar 8 dk) (us (yQ (pC b) 64 h0))]⟩]) ?_ ?_ ⟨?_,by rfl⟩
  ·rintro i hi env rows ⟨hh,rfl⟩ R hR
   simp only[has]at hh
   obtain⟨h7,h2,h4,h5,-⟩:=hh
   have e0:((i:Int)<8)=True:=aaz (by omega)
   have e1:((0:Int)<=(i:Int))=True:=aaz (by omega)
   have e2:=cj i (by omega)
   have g1:(us (Q9 h0 (yQ (pC b) 64 h0) i))[i]?=some (.raw (u32 (h0.getD i 0#32))):=by
    rw[lh (by rw[mix_len _ _ _ hq (by omega)];omega),mix_get _ _ _ hq (by omega)]
   have g2:(us (yQ (pC b) 64 h0))[i]?=some (.raw (u32 ((yQ (pC b) 64 h0).getD i 0#32))):=lh (by omega)
   have es:(us (Q9 h0 (yQ (pC b) 64 h0) i)).set i (.raw (u32 (h0.getD i 0#32+(yQ (pC b) 64 h0).getD i 0#32)))=us (Q9 h0 (yQ (pC b) 64 h0) (i+1)):=by
    rw[LO,mix_set _ _ _ hq (by omega)]
   simp only[↓ag,ah,simprocAttr,h7,h2,h4,h5,e0,e1,e2,g1,g2,es,aaG]
   exact hR _ _ ⟨by simp only[has,↓ag,ah,simprocAttr,h2,h4,h5],rfl⟩
  ·rintro env rows ⟨hh,rfl⟩ R
   simp only[has]at hh
   obtain⟨h7,h2,h4,h5,-⟩:=hh
   simp only[↓ag,ah,simprocAttr,h7,h2,h4,h5]
   have:Q9 h0 (yQ (pC b) 64 h0) 8=xA h0 b:=by rw[<-hp,mix_all _ _ hq];rfl
   rw[this]
   exact .val _ rfl
  ·simp only[has,↓ag,ah,simprocAttr,h2,h4,h5]
 ·simp only[has,↓ag,ah,simprocAttr]
theorem VS{l:List (BitVec 32)}{i:Nat}(h:i<l.length):l.take (i+1)=l.take i++[l.getD i 0#32]:=qd h
theorem DC(l x:List (BitVec 8))(off:Nat):a7 (bs l) off (bs x)=bs (a7 l off x):=by
 simp[a7,bs]
theorem Ot{rows:Rows}{r i off len:Nat}{p:List Nat}{ex:Bool}{row:Row}{l src:List (BitVec 8)}{u:Sh}{els:List D}{k:D->Rows->Prop}(hl:live rows r=some row)(hg:cF row.els (i::p)=some (.agg u (bs l)))(hn:off+len<=l.length)
  (hs:lO row.els (i::p) (.agg u (bs (a7 l off (src.take (min src.length len)))))=some els):ou rows L8 (.sl L8 r (i::p) off len ex) (bs src) k=k (.raw (it ((min src.length len:Nat):Int))) (rows.set r (some ⟨row.sh,els⟩)):=by
 unfold ou
 simp only[hl,hg,bf,aB,eK,DC,hs,hn,aa9]
 rfl
theorem DD{rows:Rows}{r n off len:Nat}{ex:Bool}{l src:List (BitVec 8)}{k:D->Rows->Prop}(hl:live rows r=some ⟨.ar n L8,[.agg (.ar n L8) (bs l)]⟩)(hn:off+len<=l.length):
  ou rows L8 (.sl L8 r [0] off len ex) (bs src) k=k (.raw (it ((min src.length len:Nat):Int))) (rows.set r (some ⟨.ar n L8,[.agg (.ar n L8) (bs (a7 l off (src.take (min src.length len))))]⟩)):=
 Ot hl rfl hn rfl
def lj(w:List (BitVec 32)):List (BitVec 8):=(w.map bt).flatten
theorem yg(x:BitVec 32):(bt x).length=4:=rfl
theorem oH(w:List (BitVec 32)):(lj w).length=4*w.length:=by
 induction w with
 |nil=>rfl
 |cons x w ih=>simp only[lj,abw,acn,aax,aa0]at ih⊢;rw[ih,yg];omega
theorem Ou(a b:List (BitVec 32)):lj (a++b)=lj a++lj b:=by simp[lj]
def qF(l:List (BitVec 8))(n:Nat):List (BitVec 8):=l++List.replicate (n-l.length) 0#8
theorem DE{l:List (BitVec 8)}{n:Nat}(h:l.length<=n):(qF l n).length=n:=by simp[qF];omega
theorem uH{l x:List (BitVec 8)}{n:Nat}(h:l.length+x.length<=n):a7 (qF l n) l.length x=qF (l++x) n:=by
 unfold a7 qF
 have h1:(l++List.replicate (n-l.length) 0#8).take l.length=l:=by simp
 have h2:(l++List.replicate (n-l.length) 0#8).drop (l.length+x.length)=List.replicate (n-(l++x).length) 0#8:=by
  rw[aen,acC (by omega),abr,ad5]
  congr 1;simp;omega
 rw[h1,h2]
theorem Ra{l:List (BitVec 8)}{n:Nat}(h:l.length=n):qF l n=l:=by simp[qF,h]
noncomputable def BV:Fn:=mc (bE VL) (λb=>decide (b.length=8)) λb=>(aU (lj b),[])
theorem VT(C:aX)(hC:aJ C P):aP C.aY P 185 (Fn.run BV):=by
 refine aH (LJ C hC) λds rows r h=>?_
 obtain⟨d,w,rfl,rfl,hd,hp,rfl⟩:=aZ h
 cases aF hd
 simp only[aaA]at hp
 refine⟨rfl,ae rfl ?_⟩
 clear h hd
 unfold BJ BK
 simp only[VL,↓ag,ah,simprocAttr]
 refine bg 8 (λi env rows=>has env [(7,.raw (it (i:Int))),(6,.agg (.ar 8 dk) (us w)),(1,.ptr (.ar 8 dk) 0 [0]),(2,.ptr (.ar 32 L8) 1 [0]),(3,.ptr (.ar 32 L8) 2 [0])]/\
  (∃z,live rows 1=some ⟨.ar 32 L8,[z]⟩)/\live rows 2=some ⟨.ar 32 L8,[.agg (.ar 32 L8) (bs (qF (lj (w.take i)) 32))]⟩) ?_ ?_ ⟨?_,⟨_,rfl⟩,?_⟩
 ·rintro i hi env rows ⟨hh,⟨z,r1⟩,r2⟩ R hR
  simp only[has]at hh
  obtain⟨h7,h6,h1,h2,h3,-⟩:=hh
  have e0:((i:Int)<8)=True:=aaz (by omega)
  have e1:((0:Int)<=4*(i:Int))=True:=aaz (by omega)
  have e2:wz (4*(i:Int))=4*(i:Int):=be (by omega)
  have e5:(4*(i:Int)<=32)=True:=aaz (by omega)
  have e6:(4*(i:Int)).toNat=4*i:=by omega
  have e9:((0:Int)<=(i:Int))=True:=aaz (by omega)
  have e11:=cj i (by omega)
  have eg:(us w)[i]?=some (.raw (u32 (w.getD i 0#32))):=lh (by omega)
  have hl:(lj (w.take i)).length=4*i:=by rw[oH,aaF];omega
  have hsp:a7 (qF (lj (w.take i)) 32) (4*i) ((bt (w.getD i 0#32)).take (min 4 (32-4*i)))=qF (lj (w.take (i+1))) 32:=by
   have:=uH (l:=lj (w.take i)) (x:=bt (w.getD i 0#32)) (n:=32) (by rw[hl,yg];omega)
   rw[hl]at this
   have ht:(bt (w.getD i 0#32)).take (min 4 (32-4*i))=bt (w.getD i 0#32):=aay (by rw[yg];omega)
   rw[ht,this,VS (by omega),Ou]
   simp[lj]
  simp only[↓ag,ah,simprocAttr,aQ,h7,h6,h1,h2,h3,e0,e1,e2,e5,e6,e9,e11,eg,aaG]
  refine Eq.mpr (DD (src:=bt (w.getD i 0#32)) (bG r2) (by rw[DE (by omega)];omega)) ?_
  rw[yg,hsp]
  have Tz:∀x y:Rows,live ((rows++x).set 2 (some ⟨.ar 32 L8,[.agg (.ar 32 L8) (bs (qF (lj (w.take (i+1))) 32))]⟩)) 1=some ⟨.ar 32 L8,[z]⟩:=λx y=>(aC (by decide)).trans (bG r1)
  simp only[↓ag,ah,simprocAttr,h7,h6,h1,h2,h3,e11]
  exact hR _ _ ⟨by simp only[has,↓ag,ah,simprocAttr,h6,h1,h2,h3],⟨z,Tz _ []⟩,od (bG r2)⟩
 ·rintro env rows ⟨hh,⟨z,r1⟩,r2⟩ R
  simp only[has]at hh
  obtain⟨h7,h6,h1,h2,h3,-⟩:=hh
  have s1:∀x,live (rows.set 1 (some x)) 1=some x:=λx=>od r1
  simp only[↓ag,ah,simprocAttr,h7,h6,h1,h2,h3,r1,r2,s1]
  have:qF (lj (w.take 8)) 32=lj w:=by rw[aay (by omega),Ra (by rw[oH];omega)]
  rw[this]
  exact .val _ rfl
 ·simp only[has,↓ag,ah,simprocAttr]
 ·rfl
theorem TA(rows:Rows)(k:D->Rows->Prop)(w:List (BitVec 32))(h:w.length=8):aK BV rows k [.agg (.ar 8 dk) (us w)]=k (.agg (.ar 32 L8) (bs (lj w))) rows:=by
 refine(bh (by simp[aV,aT,Sh.pure]) (r:=(aU (lj w),[])) ?_).trans ?_
 ·exact eQ (bA Tx w) (by simp[h])
 ·simp[shift,ab,aU,Sh.pure]
def qG(n:BitVec 64):Nat:=((119#64-n %64#64) %64#64).toNat
def Zt(m:BitVec 64)(i:Nat):List (BitVec 8):=(List.range i).map λj=>(m>>>(56-8*j)).setWidth 8
theorem Zu(m:BitVec 64)(i:Nat):Zt m (i+1)=Zt m i++[(m>>>(56-8*i)).setWidth 8]:=by simp[Zt,abM]
theorem be8_len(m:BitVec 64)(i:Nat):(Zt m i).length=i:=by simp[Zt]
def Rb(n:BitVec 64):List (BitVec 8):=[128#8]++List.replicate (qG n) 0#8++Zt (n<<<3) 8
theorem VU(n:BitVec 64):qG n<64:=by
 unfold qG;rw[acm];exact ade _ (by decide)
def fPad:Fn:=mc QF (λ_=>true) λn=>eJ (Rb n) false
theorem pad_ok(C:aX)(hC:aJ C P):aP C.aY P 186 (Fn.run fPad):=by
 refine aH (VH C hC) λds rows r h=>?_
 obtain⟨d,n,rfl,rfl,hd,hp,rfl⟩:=aZ h
 cases s7 hd
 refine⟨rfl,ae rfl ?_⟩
 clear h hd
 have hz:=VU n
 have h0:((0:Int)<=((((119#64-n %64#64) %64#64).toNat:Nat):Int))=True:=aaz (by omega)
 have hzn:((119#64-n %64#64) %64#64).toNat=qG n:=rfl
 rw[hzn]at h0
 unfold Kc Kd
 simp only[↓ag,ah,simprocAttr,hzn,h0,aaV]
 refine⟨by omega,by omega,?_⟩
 have e:bs ([128#8]++List.replicate (qG n) 0#8++Zt (n<<<3) 0)= .raw (u8 128#8)::List.replicate (qG n) (.raw (u8 0#8)):=by
  simp[Zt,bs]
 have how0:jg L8 (.sl L8 1 [] 0 (1+qG n) false) [none,some ⟨L8,.raw (u8 128#8)::List.replicate (qG n) (.raw (u8 0#8))⟩] (bs ([128#8]++List.replicate (qG n) 0#8++Zt (n<<<3) 0)):=by
  rw[e]
  refine .inr ⟨1,false,?_,rfl⟩
  rw[aa0,aaV,aep]
 refine bg 8 (λi env rows=>∃x,has env [(0,.raw (u64 n)),(3,x),(4,.raw (it (56-8*(i:Int))))]/\jg L8 x rows (bs ([128#8]++List.replicate (qG n) 0#8++Zt (n<<<3) i))) ?_ ?_ ⟨_,?_,how0⟩
 ·rintro i hi env rows ⟨x,hh,how⟩ R hR
  simp only[has]at hh
  obtain⟨h0,h3,h4,-⟩:=hh
  have e0:((0:Int)<=56-8*(i:Int))=True:=aaz (by omega)
  have e1:(56-8*(i:Int)).toNat=56-8*i:=by omega
  have e2:wz (56-8*(i:Int)-8)=56-8*((i+1:Nat):Int):=by rw[be (by omega)];omega
  have hl:(bs ([128#8]++List.replicate (qG n) 0#8++Zt (n<<<3) i)).length<=100:=by
   rw[aB,aax,aax,be8_len,aaV];simp only[aa0,aba];omega
  simp only[↓ag,ah,simprocAttr,h0,h3,h4,e0,e1,aaG]
  refine jG how.push (by simp only[aa0,aba];unfold most;omega) (by simp only[aa0,aba];unfold most;omega) ?_
  intro x' aa how' _ _ _
  simp only[↓ag,ah,simprocAttr,h0,h3,h4,e2]
  refine hR _ _ ⟨x',by simp only[has,↓ag,ah,simprocAttr,h0],?_⟩
  rw[Zu,<-aaP,Ts]
  exact how'
 ·rintro env rows ⟨x,hh,how⟩ R
  simp only[has]at hh
  obtain⟨h0,h3,h4,-⟩:=hh
  have e0:((0:Int)<=56-8*((8:Nat):Int))=False:=aaI (by omega)
  simp only[↓ag,ah,simprocAttr,h0,h3,h4,e0,aaH,how.oz]
  exact how.Li
 ·simp only[has,↓ag,ah,simprocAttr]
theorem kPad(rows:Rows)(k:D->Rows->Prop)(n:BitVec 64):aK fPad rows k [.raw (u64 n)]=k (.sl L8 (0+rows.length) [] 0 (Rb n).length false) (rows++[some ⟨L8,bs (Rb n)⟩]):=by
 refine(bh rfl (r:=eJ (Rb n) false) ?_).trans ?_
 ·exact eQ (FP n) rfl
 ·simp[eJ,shift,ab,Sh.pure]
structure St where
 h:List (BitVec 32)
 rest:List (BitVec 8)
 n:BitVec 64
def tF(s:St):D:= .agg M2 [.agg (.ar 8 dk) (us s.h),.agg (.ar 64 L8) (bs s.rest),.raw (u64 s.n)]
theorem FR(x y:St)(h:tF x=tF y):x=y:=by
 obtain⟨a,b,c⟩:=x
 obtain⟨a',b',c'⟩:=y
 simp only[tF,D.agg.injEq,abL,aa9,aci,D.raw.injEq]at h
 obtain⟨h1,h2,h3⟩:=h
 rw[Zo h1,qE h2,u64_inj.1 h3]
def St.ok(s:St):Bool:=decide (s.h.length=8)&&decide (s.rest.length=64)
def LX:List (BitVec 8):=List.replicate 64 0#8
def HQ(s:St)(b:BitVec 8):St:=
 if s.n.toNat %64+1=64 then⟨xA s.h (s.rest.set (s.n.toNat %64) b),LX,s.n+1#64⟩else⟨s.h,s.rest.set (s.n.toNat %64) b,s.n+1#64⟩
def feed(s:St)(p:List (BitVec 8)):St:=p.foldl HQ s
theorem eY(s:St)(p q:List (BitVec 8)):feed s (p++q)=feed (feed s p) q:=List.foldl_append
theorem Zv(s:St)(b:BitVec 8)(h:s.ok=true):(HQ s b).ok=true:=by
 simp only[St.ok,aav,aaA]at h
 unfold HQ
 split
 ·simp[St.ok,VQ _ _ h.1,LX]
 ·simp[St.ok,h.1,h.2]
theorem eZ(p:List (BitVec 8)):∀(s:St),s.ok=true->(feed s p).ok=true:=by
 induction p with
 |nil=>exact λs h=>h
 |cons b p ih=>exact λs h=>ih _ (Zv s b h)
theorem Zw(n:BitVec 64)(j:Nat)(h:n.toNat %64+j<64):(n+BitVec.ofNat 64 j).toNat %64=n.toNat %64+j:=by
 simp only[ach,aa7]
 omega
theorem EP(l x:List (BitVec 8))(o:Nat)(b:BitVec 8)(h:o+x.length<l.length):(a7 l o x).set (o+x.length) b=a7 l o (x++[b]):=by
 unfold a7
 have e1:l.drop (o+x.length)=l.getD (o+x.length) 0#8::l.drop (o+x.length+1):=by
  rw[abF h];simp[List.getD,h]
 have e2:(l.take o++x).length=o+x.length:=by simp;omega
 rw[acp _ _ (by omega),e2,acr,e1]
 simp[acN]
theorem HR(l:List (BitVec 8))(o:Nat):a7 l o []=l:=by simp[a7]
theorem DF(s:St)(hs:s.rest.length=64):∀(j:Nat) (x:List (BitVec 8)),x.length=j->s.n.toNat %64+j<64->feed s x=⟨s.h,a7 s.rest (s.n.toNat %64) x,s.n+BitVec.ofNat 64 j⟩
 |0,x,hx,h=>by
  have:x=[]:=aaN hx
  subst this
  obtain⟨a,b,c⟩:=s
  simp[feed,HR]
 |j+1,x,hx,h=>by
  obtain⟨y,b,rfl⟩:∃y b,x=y++[b]:=⟨x.dropLast,x.getLast (by intro e;subst e;simp at hx),(ad1 _).symm⟩
  have hy:y.length=j:=by simpa using hx
  rw[eY,DF s hs j y hy (by omega)]
  have ha:=Zw s.n j (by omega)
  show HQ _ b=_
  unfold HQ
  simp only[ha]
  rw[aaE (by omega)]
  have hl:=EP s.rest y (s.n.toNat %64) b (by omega)
  rw[hy]at hl
  rw[hl]
  congr 1
  apply aaS
  simp only[ach,aa7]
  omega
theorem VV(s:St)(hs:s.rest.length=64)(x:List (BitVec 8))(h:s.n.toNat %64+x.length=64):feed s x=⟨xA s.h (a7 s.rest (s.n.toNat %64) x),LX,s.n+BitVec.ofNat 64 x.length⟩:=by
 have hlt:s.n.toNat %64<64:=ade _ (by decide)
 obtain⟨y,b,rfl⟩:∃y b,x=y++[b]:=⟨x.dropLast,x.getLast (by intro e;subst e;simp at h;omega),(ad1 _).symm⟩
 simp only[aax,aa0,aba]at h
 rw[eY,DF s hs y.length y rfl (by omega)]
 have ha:=Zw s.n y.length (by omega)
 show HQ _ b=_
 unfold HQ
 simp only[ha]
 rw[aaM (by omega)]
 have hl:=EP s.rest y (s.n.toNat %64) b (by omega)
 rw[hl]
 congr 1
 apply aaS
 simp only[ach,aa7,aax,aa0,aba]
 omega
theorem kPress(rows:Rows)(k:D->Rows->Prop)(h:List (BitVec 32))(b:List (BitVec 8))(hh:h.length=8)(hb:b.length=64):aK LW rows k [.agg (.ar 8 dk) (us h),.agg (.ar 64 L8) (bs b)]=k (.agg (.ar 8 dk) (us (xA h b))) rows:=by
 refine(bh (by simp[aV,aT,Sh.pure]) (r:=(VL (xA h b),[])) ?_).trans ?_
 ·exact lg (bA Tx h) (bA HO b) (by simp[hh,hb])
 ·simp[shift,ab,VL,Sh.pure]
noncomputable def rS:Fn:=ux (bE tF) dq (λs _=>s.ok) λs p=>(tF (feed s p),[])
theorem Rc(C:aX)(hC:aJ C P)(hp:C.fn 184=some LW):aP C.aY P 158 (Fn.run rS):=by
 refine cv (Du C hC) λds rows r h=>?_
 obtain⟨d,e,s0,p0,rfl,rfl,hd,he,hok,rfl⟩:=dE h
 cases aF hd
 obtain⟨x0,hx⟩:=cy he
 refine⟨rfl,_,.cons (.refl _) (.cons hx .nil),ae rfl ?_⟩
 clear h hd he hx
 unfold tB tC
 simp only[tF,↓ag,ah,simprocAttr]
 refine s5 (λm env rows=>∃(s:St) (q:List (BitVec 8)) (ex:Bool) (z:D),m=q.length/\s.ok=true/\feed s q=feed s0 p0/\has env [(1,.cD L8 (bs q) ex),(2,.ptr M2 0 [0]),(4,.ptr M2 1 [0])]/\
  rows=[some ⟨M2,[.agg M2 [.agg (.ar 8 dk) (us s.h),.agg (.ar 64 L8) (bs s.rest),.raw (u64 s.n)]]⟩,some ⟨M2,[z]⟩]) ?_ p0.length ⟨s0,p0,x0,_,rfl,hok,rfl,?_,rfl⟩
 ·rintro m env rows ⟨s,q,ex,z,rfl,hs,hf,hh,rfl⟩ R hR
  simp only[has]at hh
  obtain⟨h1,h2,h4,-⟩:=hh
  have gh:=hs
  simp only[St.ok,aav,aaA]at gh
  obtain⟨Xt,uZ⟩:=gh
  by_cases hq:0<q.length
  ·have e0:((0:Int)<(q.length:Int))=True:=aaz (by omega)
   have hlt:s.n.toNat %64<64:=ade _ (by decide)
   have m64:(s.n %64#64).toNat=s.n.toNat %64:=by rw[acm];rfl
   generalize ha:s.n.toNat %64=at_ at*
   have e1:wz (at_:Int)=at_:=be (by omega)
   have e2:((0:Int)<=(at_:Int))=True:=aaz (by omega)
   have e3:((at_:Int)<=64)=True:=aaz (by omega)
   have en:(64#64:BitVec 64)≠0:=by decide
   obtain⟨k,hk⟩:∃k,min q.length (64-at_)=k:=⟨_,rfl⟩
   simp only[↓ag,ah,simprocAttr,h1,h2,h4,e0,e1,e2,e3,m64,en,aB,aaG]
   refine Eq.mpr (Ot (p:=[1]) (u:= .ar 64 L8) (l:=s.rest) rfl rfl (by omega) rfl) ?_
   rw[hk]
   have hk1:k<=q.length:=by omega
   have Qc:at_+k<=64:=by omega
   have hk3:0<k:=by omega
   have Vg:(q.take k).length=k:=by rw[aaF];omega
   have hspl:(a7 s.rest at_ (q.take k)).length=64:=by
    rw[<-aB,<-DC,zN (by rw[aB,aB];omega),aB,uZ]
   have hqq:q.take k++q.drop k=q:=abq k q
   have f1:((0:Int)<=(k:Int))=True:=aaz (by omega)
   have f2:((k:Int)<=(q.length:Int))=True:=aaz (by omega)
   have f3:(q.drop k).take (q.length-k)=q.drop k:=aay (by rw[aaB];omega)
   have f4:wz ((at_:Int)+(k:Int))=((at_+k:Nat):Int):=by rw[be (by omega)];omega
   have f5:BitVec.ofInt 64 (k:Int)=BitVec.ofNat 64 k:=rfl
   by_cases hfull:at_+k=64
   ·have f6:((at_+k:Nat):Int)=64:=by omega
    have iE:=VV s uZ (q.take k) (by rw[ha,Vg];exact hfull)
    rw[ha,Vg]at iE
    have LY:feed (feed s (q.take k)) (q.drop k)=feed s0 p0:=by rw[<-eY,hqq,hf]
    have Rd:=eZ (q.take k) s hs
    rw[iE]at LY Rd
    simp only[↓ag,ah,simprocAttr,h1,h2,h4,aB,fH,eK,f1,f2,f3,f4,f5,f6,hp,kPress _ _ _ _ Xt hspl,aaG]
    refine hR _ _ _ ?_ ⟨_,q.drop k,po none q.length q.length q.length ex,z,rfl,Rd,LY,?_,rfl⟩
    ·rw[aaB];omega
    ·simp only[has,↓ag,ah,simprocAttr,h2,h4]
   ·have f6:(((at_+k:Nat):Int)=64)=False:=aaI (by omega)
    have iE:=DF s uZ k (q.take k) Vg (by rw[ha];omega)
    rw[ha]at iE
    have LY:feed (feed s (q.take k)) (q.drop k)=feed s0 p0:=by rw[<-eY,hqq,hf]
    have Rd:=eZ (q.take k) s hs
    rw[iE]at LY Rd
    simp only[↓ag,ah,simprocAttr,h1,h2,h4,aB,fH,eK,f1,f2,f3,f4,f5,f6,aaH]
    refine hR _ _ _ ?_ ⟨_,q.drop k,po none q.length q.length q.length ex,z,rfl,Rd,LY,?_,rfl⟩
    ·rw[aaB];omega
    ·simp only[has,↓ag,ah,simprocAttr,h2,h4]
  ·have e0:((0:Int)<(q.length:Int))=False:=aaI (by omega)
   have M3:q=[]:=aaN (by omega)
   subst M3
   simp only[↓ag,ah,simprocAttr,h1,h2,h4,e0,aB,aaH]
   rw[<-hf]
   exact .val _ rfl
 ·simp only[has,↓ag,ah,simprocAttr]
def Zx:D->Option Unit
 | .raw (.slice none 0 0)=>some ()
 | _=>none
theorem Re{d:D}{u:Unit}(h:Zx d=some u):d= .raw (.slice none 0 0):=by
 unfold Zx at h
 split at h
 ·rfl
 ·cases h
theorem HT{rows:Rows}{r off len:Nat}{ex:Bool}{l src:List (BitVec 8)}{k:D->Rows->Prop}(hl:live rows r=some ⟨L8,bs l⟩)(hn:off+len<=l.length):
  ou rows L8 (.sl L8 r [] off len ex) (bs src) k=k (.raw (it ((min src.length len:Nat):Int))) (rows.set r (some ⟨L8,bs (a7 l off (src.take (min src.length len)))⟩)):=by
 unfold ou
 simp only[hl,bf,aB,eK,DC,hn,aa9]
 rfl
def DH:Fn:=ux qD Zx (λls _=>Nat.ble ls.length most&&Nat.ble ls.flatten.length most) λls _=>eJ ls.flatten false
theorem DI(ls:List (List (BitVec 8)))(i:Nat):((ls.take i).flatten).length<=ls.flatten.length:=by
 have:ls=ls.take i++ls.drop i:=(abq _ _).symm
 calc ((ls.take i).flatten).length<=((ls.take i++ls.drop i).flatten).length:=by simp only[ab5,aax];omega
  _=ls.flatten.length:=by rw[<-this]
theorem j3(ls:List (List (BitVec 8)))(i:Nat)(h:i<ls.length):(ls.take (i+1)).flatten=(ls.take i).flatten++ls[i]:=by
 rw[aa2 h,ab5,acn,acx,aa4]
theorem Km(acc HU x:List (BitVec 8))(h:x.length<=HU.length):a7 (acc++HU) acc.length x=(acc++x)++HU.drop x.length:=by
 unfold a7
 have h1:(acc++HU).take acc.length=acc:=by simp
 have h2:(acc++HU).drop (acc.length+x.length)=HU.drop x.length:=by
  rw[aen,acC (by omega),abr];congr 1;omega
 rw[h1,h2]
theorem Zy(C:aX)(hC:aJ C P):aP C.aY P 114 (Fn.run DH):=by
 refine aH (LF C hC) λds rows r h=>?_
 obtain⟨d,e0,ls,u,rfl,rfl,hd,he,hp,rfl⟩:=dE h
 obtain⟨l,e,rfl,hl⟩:=uG hd
 cases Re he
 simp only[aav,abP]at hp
 obtain⟨Kk,tZ⟩:=hp
 unfold most at Kk tZ
 obtain⟨hlen,kg⟩:=jT hl
 clear h hd he
 refine⟨rfl,ae rfl ?_⟩
 have PK:∀i (hi:i<ls.length),∃x,l[i]?=some x/\eB x ls[i]:=λi hi=>by
  have En:i<l.length:=by omega
  have hli:l[i]?=some l[i]:=aaw En
  exact⟨_,hli,fx (kg i _ _ hli (aaw hi))⟩
 have hsrc:∀x y rows,eB x y->rk rows (.leaf (.int .u8)) x=some (bs y):=by
  intro x y rows hb
  rcases hb with⟨h,h2⟩|⟨e,h⟩
  ·rw[h,h2];rfl
  ·rw[h];simp[rk,Am.fh,Am.elems]
 have hfit:∀x y,eB x y->D.fits x .ref=true:=λx y hb=>by rcases hb with⟨h,_⟩|⟨e,h⟩<;>rw[h]<;>rfl
 unfold By Bz
 by_cases h0:ls.length=0
 ·have hls:ls=[]:=aaN h0
  have Er:l=[]:=aaN (by omega)
  subst hls Er
  simp only[↓ag,ah,simprocAttr]
  exact .own _ 0 0 _ true false _ rfl rfl (λh=>by cases h)
 ·by_cases h1 : ls.length = 1
  ·obtain⟨y,rfl⟩:∃y,ls=[y]:=by
    match ls,h1 with
    |[y],_=>exact⟨y,rfl⟩
   obtain⟨x,hx,hb⟩:=PK 0 (by simp)
   have Gr:eB x y:=hb
   have Gp:l.length=1:=by rw[<-hlen];rfl
   have hlx:l[0]?=some x:=hx
   simp only[↓ag,ah,simprocAttr,Gp,hlx,hfit _ _ Gr,hsrc _ _ _ Gr,Gr.dP,aB,aaG,aaH]
   have hyl:y.length<=1099511627776:=by simpa using tZ
   refine⟨by omega,hyl,?_⟩
   have e1:[y].flatten=y:=by simp
   rw[e1]
   exact .own _ 0 0 _ false false _ rfl rfl (λh=>by cases h)
  ·have Gu:2<=l.length:=by omega
   have c0:((l.length:Int)=0)=False:=aaI (by omega)
   have c1:((l.length:Int)=1)=False:=aaI (by omega)
   simp only[↓ag,ah,simprocAttr,c0,c1,aaH]
   refine bg l.length (λi env rows=>has env [(0,.cD .ref l e),(1,.raw (.slice none 0 0)),(42,.cD .ref l e),(43,.raw (it l.length)),(44,.raw (it (i:Int))),(5,.raw (it (((ls.take i).flatten).length:Int)))]/\rows=[]) ?_ ?_ ⟨?_,rfl⟩
   ·rintro i hi env rows ⟨hh,rfl⟩ R hR
    simp only[has]at hh
    obtain⟨q0,q1,q42,q43,q44,q5,-⟩:=hh
    obtain⟨x,hx,hb⟩:=PK i (by omega)
    have Q7:((i:Int)<(l.length:Int))=True:=aaz (by omega)
    have hw:=cj i (by omega)
    have h0i:((0:Int)<=(i:Int))=True:=aaz (by omega)
    have s1:=DI ls (i+1)
    have s2:((ls.take (i+1)).flatten).length=((ls.take i).flatten).length+ls[i].length:=by rw[j3 ls i (by omega),aax]
    have w1:wz (9223372036854775807-(((ls.take i).flatten).length:Int))=9223372036854775807-(((ls.take i).flatten).length:Int):=be (by omega)
    have w2:((9223372036854775807-(((ls.take i).flatten).length:Int))<(ls[i].length:Int))=False:=aaI (by omega)
    have w3:wz ((((ls.take i).flatten).length:Int)+(ls[i].length:Int))=(((ls.take (i+1)).flatten).length:Int):=by rw[be (by omega)];omega
    simp only[↓ag,ah,simprocAttr,q0,q1,q42,q43,q44,q5,Q7,hw,h0i,hx,hfit _ _ hb,hb.dP,w1,w2,w3,aaG,aaH]
    exact hR _ _ ⟨by simp only[has,↓ag,ah,simprocAttr,q0,q1,q42,q43],rfl⟩
   ·rintro env rows ⟨hh,rfl⟩ R
    simp only[has]at hh
    obtain⟨q0,q1,q42,q43,q44,q5,-⟩:=hh
    have bN:(ls.take l.length).flatten=ls.flatten:=by rw[<-hlen,aa6]
    rw[bN]at q5
    obtain⟨N,hN⟩:∃N,ls.flatten.length=N:=⟨_,rfl⟩
    rw[hN]at q5
    have nl:((l.length:Int)<(l.length:Int))=False:=aaI (by omega)
    have n1:((0:Int)<=(N:Int))=True:=aaz (by omega)
    have n2:((N:Int)<=1099511627776)=True:=aaz (by omega)
    have n3:((N:Int)<=(N:Int))=True:=aaz (by omega)
    have n4:∀q:List (BitVec 8),(q.map λb=>D.raw (u8 b))=bs q:=λq=>rfl
    simp only[↓ag,ah,simprocAttr,q0,q1,q42,q43,q44,q5,nl,n1,n2,n3,n4,aaH,acO]
    intro HU hj
    obtain⟨x,hx,hb⟩:=PK 0 (by omega)
    have hx0:l[0]?=some x:=hx
    have p0:((0:Int)<(l.length:Int))=True:=aaz (by omega)
    have p1:((1:Int)<=(l.length:Int))=True:=aaz (by omega)
    simp only[↓ag,ah,simprocAttr,q0,q1,q42,q43,q44,q5,nl,n1,n2,n3,n4,p0,p1,hx0,hfit _ _ hb,hsrc _ _ _ hb,hb.dP,aB,aaG]
    have Er:ls[0].length<=N:=by
     have:=DI ls 1
     rw[j3 ls 0 (by omega)]at this
     simp only[acq,acx,abr]at this
     omega
    refine Eq.mpr (HT (l:=HU) (src:=ls[0]) rfl (by omega)) ?_
    have t0:ls[0].take (min ls[0].length N)=ls[0]:=aay (by omega)
    have t1:a7 HU 0 ls[0]=(ls.take 1).flatten++HU.drop ls[0].length:=by
     have:=Km [] HU ls[0] (by omega)
     simp only[abr,aba]at this
     rw[this,j3 ls 0 (by omega)];simp
    have t2:min ls[0].length N=((ls.take 1).flatten).length:=by rw[j3 ls 0 (by omega)];simp;omega
    have t3:((l.drop 1).take (l.length-1)).length=l.length-1:=by simp
    rw[t0,t1,t2]
    simp only[↓ag,ah,simprocAttr,q0,q1,q42,q43,q44,q5,p1,n3,t3,aaG]
    generalize hexx:po (some (N:Int)) N N N false=exx
    generalize hexy:po none l.length l.length l.length e=exy
    refine bg (l.length-1) (λi env rows=>has env [(1,.raw (.slice none 0 0)),(70,.cD .ref ((l.drop 1).take (l.length-1)) exy),(71,.raw (it ((l.length-1:Nat):Int))),(72,.raw (it (i:Int))),(8,.sl L8 0 [] 0 N exx),(9,.raw (it (((ls.take (i+1)).flatten).length:Int)))]/\
     ∃q:List (BitVec 8),rows=[some ⟨L8,bs ((ls.take (i+1)).flatten++q)⟩]/\((ls.take (i+1)).flatten).length+q.length=N) ?_ ?_ ⟨?_,_,rfl,?_⟩
    ·rintro i hi env rows ⟨hh,q,rfl,hq⟩ R hR
     simp only[has]at hh
     obtain⟨q1,q70,q71,q72,q8,q9,-⟩:=hh
     obtain⟨x,hx,hb⟩:=PK (i+1) (by omega)
     have qV:((l.drop 1).take (l.length-1))[i]?=some x:=by
      rw[abA,aaM (by omega),abh,aep];exact hx
     have s1:=DI ls (i+1+1)
     have s0:=j3 ls (i+1) (by omega)
     have s2:((ls.take (i+1+1)).flatten).length=((ls.take (i+1)).flatten).length+ls[i+1].length:=by rw[s0,aax]
     generalize hacc:(ls.take (i+1)).flatten=acc at*
     have Q7:((i:Int)<((l.length-1:Nat):Int))=True:=aaz (by omega)
     have hw:=cj i (by omega)
     have h0i:((0:Int)<=(i:Int))=True:=aaz (by omega)
     have b0:((0:Int)<=(acc.length:Int))=True:=aaz (by omega)
     have b1:((acc.length:Int)<=(N:Int))=True:=aaz (by omega)
     have b2:wz ((acc.length:Int)+0)=acc.length:=by rw[Int.add_zero];exact be (by omega)
     simp only[↓ag,ah,simprocAttr,q1,q70,q71,q72,q8,q9,Q7,hw,h0i,qV,t3,hfit _ _ hb,b0,b1,n3,aaG]
     refine Eq.mpr (HT (l:=acc++q) (src:=[]) rfl (by rw[aax];omega)) ?_
     have u0:a7 (acc++q) acc.length (([]:List (BitVec 8)).take (min ([]:List (BitVec 8)).length (N-acc.length)))=acc++q:=by rw[List.take_nil,HR]
     have u1:(min ([]:List (BitVec 8)).length (N-acc.length))=0:=by simp
     rw[u0,u1]
     simp only[↓ag,ah,simprocAttr,q1,q70,q71,q72,q8,q9,hw,h0i,hsrc _ _ _ hb,hb.dP,aB,b0,b1,b2,n3,aaG]
     refine Eq.mpr (HT (l:=acc++q) (src:=ls[i+1]) rfl (by rw[aax];omega)) ?_
     have u2:ls[i+1].take (min ls[i+1].length (N-acc.length))=ls[i+1]:=aay (by omega)
     have u3:min ls[i+1].length (N-acc.length)=ls[i+1].length:=by omega
     have u4:wz ((acc.length:Int)+(ls[i+1].length:Int))=(((ls.take (i+1+1)).flatten).length:Int):=by rw[be (by omega)];omega
     rw[u2,u3,Km _ _ _ (by omega)]
     simp only[↓ag,ah,simprocAttr,q1,q70,q71,q72,q8,q9,hw,u4]
     exact hR _ _ ⟨by simp only[has,↓ag,ah,simprocAttr,q1,q70,q71,q8],q.drop ls[i+1].length,by rw[s0],by rw[aaB];omega⟩
    ·rintro env rows ⟨hh,q,rfl,hq⟩ R
     simp only[has]at hh
     obtain⟨q1,q70,q71,q72,q8,q9,-⟩:=hh
     have e1:l.length-1+1=ls.length:=by omega
     rw[e1,aa6]at hq⊢
     have M3:q=[]:=aaN (by omega)
     have nl2:(((l.length-1:Nat):Int)<((l.length-1:Nat):Int))=False:=aaI (by omega)
     subst M3
     simp only[↓ag,ah,simprocAttr,q1,q70,q71,q72,q8,q9,nl2,aaH,aa4]
     rw[<-hN]
     exact .own _ 0 0 _ exx false _ rfl rfl (λh=>by cases h)
    ·simp only[has,↓ag,ah,simprocAttr,q1]
    ·rw[aaB,<-t2];omega
   ·simp only[has,↓ag,ah,simprocAttr,acx]
def FT:St:=⟨LV,LX,0#64⟩
def pi(s:St):List (BitVec 8):=lj (feed s (Rb s.n)).h
def eu(p:List (BitVec 8)):List (BitVec 8):=pi (feed FT p)
theorem oa:FT.ok=true:=rfl
def Ov:Fn
 |[],[]=>some (tF FT,[])
 | _,_=>none
theorem new_ok(C:aX)(hC:aJ C P)(hg:C.aY 2=some (VL LV)):aP C.aY P 157 (Fn.run Ov):=by
 refine aH (VF C hC) λds rows r h=>?_
 unfold Ov at h
 split at h
 ·cases h
  refine⟨rfl,ae rfl ?_⟩
  unfold J8 J9
  simp only[↓ag,ah,simprocAttr,hg,VL]
  exact .val _ rfl
 ·cases h
theorem Rf(rows:Rows)(k:D->Rows->Prop):aK Ov rows k []=k (tF FT) rows:=by
 refine(bh rfl (r:=(tF FT,[])) rfl).trans ?_
 simp[shift,ab,tF,Sh.pure]
theorem st_ok{s:St}(h:s.ok=true):s.h.length=8/\s.rest.length=64:=by
 simpa[St.ok]using h
theorem kU(rows:Rows)(k:D->Rows->Prop)(s:St)(d:D)(p:List (BitVec 8))(h:bd rows d p)(hs:s.ok=true):aK rS rows k [tF s,d]=k (tF (feed s p)) rows:=by
 obtain⟨⟨d',jP,hb⟩,hn⟩:=h
 have e1:∀d2,dq d2=some p->rS [tF s,d2] []=some (tF (feed s p),[]):=λd2 h2=>lg (bA FR s) h2 hs
 have hr:aT (tF s)=false:=by simp[tF,aT,Sh.pure]
 have hv:view rows 9 (tF s)=some (tF s):=by simp[tF,view,Sh.pure]
 unfold aK
 have h1:aV [tF s,d]=aT d:=by simp[aV,hr]
 rw[h1]
 have hsh:shift rows.length (tF (feed s p))=tF (feed s p):=by simp[tF,shift,Sh.pure]
 have hno:b8 (tF (feed s p))=true:=by simp[tF,b8,Sh.pure]
 cases hh:aT d with
 |true=>
  simp only[acF,dC,hv,jP,bf,e1 _ hb.rd,hno,a8,acZ,aa9,hsh,ab,aa4]
  simp
 |false=>
  simp only[acF,bf,e1 _ (hn hh).rd,hsh,ab,aa4]
  simp
noncomputable def uI:Fn:=mc (bE tF) (λs=>s.ok) λs=>(aU (pi s),[])
theorem Zz(C:aX)(hC:aJ C P)(h1:C.fn 186=some fPad)(h2:C.fn 158=some rS)(h3:C.fn 185=some BV):aP C.aY P 159 (Fn.run uI):=by
 refine aH (Ft C hC) λds rows r h=>?_
 obtain⟨d,s,rfl,rfl,hd,hok,rfl⟩:=aZ h
 cases aF hd
 refine⟨rfl,ae rfl ?_⟩
 clear h hd
 have Rd:=eZ (Rb s.n) s hok
 have e:=st_ok Rd
 unfold vA vB
 have hst:tF s= .agg M2 [.agg (.ar 8 dk) (us s.h),.agg (.ar 64 L8) (bs s.rest),.raw (u64 s.n)]:=rfl
 rw[hst]
 simp only[↓ag,ah,simprocAttr,h1,h2,h3,kPad]
 rw[<-hst]
 refine Eq.mpr (kU _ _ _ _ (Rb s.n) (bd.own rfl _ rfl) hok) ?_
 simp only[tF,↓ag,ah,simprocAttr,h1,h2,h3]
 rw[TA _ _ _ e.1]
 simp only[↓ag,ah,simprocAttr]
 exact .val _ rfl
theorem Au(rows:Rows)(k:D->Rows->Prop)(s:St)(h:s.ok=true):aK uI rows k [tF s]=k (.agg (.ar 32 L8) (bs (pi s))) rows:=by
 refine(bh (by simp[aV,aT,tF,Sh.pure]) (r:=(aU (pi s),[])) ?_).trans ?_
 ·exact eQ (bA FR s) h
 ·simp[shift,ab,aU,Sh.pure]
def DJ:Fn:=mc qD (λls=>Nat.ble ls.length most&&Nat.ble ls.flatten.length most) λls=>(aU (eu ls.flatten),[])
theorem sum_ok (C : aX) (hC : aJ C P) (h1 : C.fn 157 = some Ov) (h2 : C.fn 158 = some rS) (h3 : C.fn 114 = some DH) (h4 : C.fn 159 = some uI) : aP C.aY P 95 (Fn.run DJ) := by
 refine aH (VD C hC) λds rows r h=>?_
 obtain⟨d,ls,rfl,rfl,hd,hp,rfl⟩:=aZ h
 obtain⟨l,e,rfl,hl⟩:=uG hd
 refine⟨rfl,ae rfl ?_⟩
 have hj : ∀ (rows : Rows) k, aK DH rows k [.cD .ref l e, .raw (.slice none 0 0)] = k (.sl L8 (0 + rows.length) [] 0 ls.flatten.length false) (rows ++ [some ⟨L8, bs ls.flatten⟩]) := λrows k => by
  have hnr : aV [.cD .ref l e, .raw (.slice none 0 0)] = false := by
   have : ∀ (l : List D) (ls : List (List (BitVec 8))), dC dq l = some ls -> aV l = false := by
    intro l
    induction l with
    |nil=>intro _ _;rfl
    | cons x l ih =>
     intro ls h
     simp only[dC]at h
     split at h
     ·rename_i y hy
      split at h
      ·rename_i ys hys
       have hx:aT x=false:=by
        rcases fx hy with⟨h,_⟩|⟨e,h⟩<;>rw[h]<;>rfl
       simp[aV,hx,ih _ hys]
      ·cases h
     ·cases h
   simp[aV,aT,Sh.pure,this l ls hl]
  refine(bh hnr (r:=eJ ls.flatten false) ?_).trans ?_
  ·exact lg hd rfl hp
  ·simp[eJ,shift,ab,Sh.pure]
 clear h
 have hok:=eZ ls.flatten FT oa
 unfold J4 J5
 simp only[↓ag,ah,simprocAttr,h1,h2,h3,h4,Rf,hj]
 refine Eq.mpr (kU _ _ _ _ ls.flatten (bd.own rfl _ rfl) oa) ?_
 simp only[↓ag,ah,simprocAttr,h4]
 rw[Au _ _ _ hok]
 simp only[↓ag,ah,simprocAttr]
 exact .val _ rfl
end iZ
end Go.Am
namespace Go.Am
attribute [local congr] cN bP cO bQ bT ca bC bU bV cb bk cd bW cM
namespace iZ
open Go.Am.F
end iZ
end Go.Am
namespace Go.Am
attribute [local congr] cN bP cO bQ bT ca bC bU bV cb bk cd bW cM
namespace iZ
open Go.Am.F
theorem view8{rows:Rows}{x:D}{y:List (BitVec 8)}(h:bd rows x y):∃x',view rows 8 x=some x'/\eB x' y:=by
 obtain⟨⟨d',h1,h2⟩,-⟩:=h
 have key : view rows 8 x = some d' := by
  cases x with
  |raw v=>exact h1
  | sl s r p off len e =>
   simp only[view]at h1⊢
   cases he:elems rows (.sl s r p off len e)with
   |none=>rw[he]at h1;cases h1
   | some l =>
    rw[he]at h1
    simp only at h1⊢
    cases hl:(!(l.length==len))with
    |true=>rw[hl]at h1;cases h1
    | false =>
     rw[hl]at h1
     cases hp:s.pure with
     |true=>rw[hp]at h1;exact h1
     | false =>
      rw[hp]at h1
      simp only[aaR]at h1
      split at h1
      ·cases h1
       rcases h2 with⟨h,_⟩|⟨e2,h⟩
       ·cases h
       ·injection h with hs;subst hs;cases hp
      ·cases h1
  | cD s l e =>
   simp only[view]at h1⊢
   cases hp:s.pure with
   |true=>rw[hp]at h1;exact h1
   | false =>
    rw[hp]at h1
    simp only[aaR]at h1
    split at h1
    ·cases h1
     rcases h2 with⟨h,_⟩|⟨e2,h⟩
     ·cases h
     ·injection h with hs;subst hs;cases hp
    ·cases h1
  | ptr s r p =>
   simp only[view]at h1
   split at h1
   ·split at h1
    ·cases hp:s.pure<;>rw[hp]at h1
     ·simp only[aaR]at h1
      split at h1
      ·cases h1;rcases h2 with⟨h,_⟩|⟨e2,h⟩<;>cases h
      ·cases h1
     ·cases h1;rcases h2 with⟨h,_⟩|⟨e2,h⟩<;>cases h
    ·cases h1
   ·cases h1
  | agg s l =>
   simp only[view]at h1
   cases hp:s.pure<;>rw[hp]at h1
   ·simp only[aaR]at h1
    split at h1
    ·cases h1;rcases h2 with⟨h,_⟩|⟨e2,h⟩<;>cases h
    ·cases h1
   ·cases h1;rcases h2 with⟨h,_⟩|⟨e2,h⟩<;>cases h
  |nk=>simp[view]at h1
  |b5 d=>exact h1
  |cB=>simp[view]at h1
  |om=>exact h1
  |Ed=>simp[view]at h1
  |mp r=>
   simp only[view]at h1⊢
   exact h1
 exact⟨d',key,h2⟩
theorem qH{rows:Rows}:∀{l:List D} {ls:List (List (BitVec 8))},aW (λx y=>bd rows x y) l ls->∃l',dC (view rows 8) l=some l'/\dC dq l'=some ls:=by
 intro l
 induction l with
 |nil=>
  intro ls h
  have:ls=[]:=aaN h.len.symm
  subst this
  exact⟨[],rfl,rfl⟩
 | cons x l ih =>
  intro ls h
  match ls,h.len with
  |y::ls,_=>
   obtain⟨x',h1,h2⟩:=view8 h.head
   obtain⟨l',h3,h4⟩:=ih h.tail
   exact⟨x'::l',by simp only[dC,h1,h3],by simp only[dC,h2.rd,h4]⟩
theorem EQ{pre:List (List (BitVec 8))->Bool}{out:List (List (BitVec 8))->D×Rows}{rows:Rows}{k:D->Rows->Prop}{r n:Nat}{ex:Bool}{l:List D}{ls:List (List (BitVec 8))}(hl:live rows r=some ⟨.ref,l⟩)(hn:l.length=n)
  (hv:aW (λx y=>bd rows x y) l ls)(hp:pre ls=true)(hr:(b8 (out ls).1&&a8 (out ls).2)=true):aK (mc qD pre out) rows k [.sl .ref r [] 0 n ex]=k (shift rows.length (out ls).1) (rows++ab rows.length (out ls).2):=by
 obtain⟨l',h1,h2⟩:=qH hv
 have he:elems rows (.sl .ref r [] 0 n ex)=some l:=by simp[elems,hl,<-hn]
 have hvw:view rows 9 (.sl .ref r [] 0 n ex)=some (.cD .ref l' ex):=by
  simp only[view,he,hn,adh,abn,aaR,Sh.pure,h1]
 refine Ba (λd2 AF=>?_) ⟨_,hvw⟩ (λhh=>by simp[aT]at hh) hr
 rw[hvw]at AF
 cases AF
 exact eQ (by simpa[qD]using h2) hp
theorem Rg(rows:Rows)(k:D->Rows->Prop)(r n:Nat)(ex:Bool)(l:List D)(ls:List (List (BitVec 8)))(hl:live rows r=some ⟨.ref,l⟩)(hn:l.length=n)
  (hv:aW (λx y=>bd rows x y) l ls)(hp:ls.length<=1099511627776)(tZ:ls.flatten.length<=1099511627776):aK DJ rows k [.sl .ref r [] 0 n ex]=k (.agg (.ar 32 L8) (bs (eu ls.flatten))) rows:=by
 refine(EQ hl hn hv (by simp only[aav,abP];exact⟨hp,tZ⟩) (by simp[aU,b8,a8,Sh.pure])).trans ?_
 simp[aU,shift,ab,Sh.pure]
theorem kJoin(rows:Rows)(k:D->Rows->Prop)(r n:Nat)(ex:Bool)(l:List D)(ls:List (List (BitVec 8)))(hl:live rows r=some ⟨.ref,l⟩)(hn:l.length=n)
  (hv:aW (λx y=>bd rows x y) l ls)(hp:ls.length<=1099511627776)(tZ:ls.flatten.length<=1099511627776):aK Ol rows k [.sl .ref r [] 0 n ex]=k (.sl L8 (0+rows.length) [] 0 ls.flatten.length false) (rows++[some ⟨L8,bs ls.flatten⟩]):=by
 refine(EQ hl hn hv (by simp only[aav,abP];exact⟨hp,tZ⟩) (by simp[eJ,b8,a8,Sh.pure])).trans ?_
 simp[eJ,shift,ab,Sh.pure]
theorem m9(s:St):D.fits (tF s) M2=true:=by simp[tF,D.fits]
theorem Kn(s:St)(h:s.ok=true):(pi s).length=32:=by
 rw[pi,oH,(st_ok (eZ _ _ h)).1]
theorem du(p:List (BitVec 8)):(eu p).length=32:=Kn _ (eZ _ _ oa)
theorem tG{s:Sh}{d:D}{rows:Rows}{els news:List D}{bytes:Nat}{k:D->Rows->Prop}(h:jg s d rows els)(hb:(els.length+news.length)*bytes<=most)(JH:els.length+news.length<=most)
  (hk:∀aa,live aa rows.length=some ⟨s,els++news⟩->(∀r x,live rows r=some x->(∀ex n,d≠ .sl s r [] 0 n ex)->live aa r=some x)->aa.length=rows.length+1->k (.sl s rows.length [] 0 (els.length+news.length) false) aa):wj rows s bytes d news k:=by
 unfold wj
 rw[h.elems,h.dP]
 refine⟨h.fh,rfl,hb,JH,?_⟩
 rcases h with⟨rfl,rfl⟩|⟨r,ex,rfl,hl⟩
 ·simp only[isNil,adN,aaY,kill]
  exact hk _ wI (λr x hx _=>bG hx) (by simp)
 ·simp only[isNil,owned,acA,aaY,kill]
  have h1:(rows.set r none).length=rows.length:=by simp
  refine hk _ (by rw[<-h1];exact wI) (λr' x hx hne=>?_) (by simp)
  have hr:r≠r':=λe=>hne ex _ (by rw[e])
  refine bG ?_
  unfold live at hx⊢
  rw[abU hr];exact hx
theorem aE{rows:Rows}{r:Nat}{x y:Row}(h:live rows r=some x):live (rows.set r (some y)) r=some y:=by
 have:=a9 h
 simp[live,this]
theorem cE{rows:Rows}{r q:Nat}{x y:Row}(h:live rows r=some x)(hn:q≠r):live (rows.set q (some y)) r=some x:=by
 unfold live at h⊢
 rw[abU hn];exact h
theorem gQ{s s':Sh}{d:D}{rows:Rows}{els els':List D}{r:Nat}(h:jg s d rows els)(hl:live rows r=some ⟨s',els'⟩)(hs:s'≠s):∀ex n,d≠ .sl s r [] 0 n ex:=by
 intro ex n e
 rcases h with⟨-,rfl⟩|⟨r2,I7,rfl,Gu⟩
 ·cases e
 ·injection e with _ e
  subst e
  rw[Gu]at hl
  injection hl with hl
  injection hl with h1 h2
  exact hs h1.symm
theorem Ko{s:Sh}{d:D}{rows:Rows}{els:List D}(h:jg s d rows els):D.fits d .ref=true:=by
 rcases h with⟨-,rfl⟩|⟨r,ex,rfl,-⟩<;>rfl
theorem LZ{β:Type}{Fy:D->Option β}{y:β}{pre:List (BitVec 8)->β->Bool}{out:List (BitVec 8)->β->D×Rows}{rows:Rows}{k:D->Rows->Prop}{d:D}{v:Value}{a:List (BitVec 8)}(h:bd rows d a)(h2:Fy (.raw v)=some y)(hp:pre a y=true)
  (hr:(b8 (out a y).1&&a8 (out a y).2)=true):aK (ux dq Fy pre out) rows k [d,.raw v]=k (shift rows.length (out a y).1) (rows++ab rows.length (out a y).2):=by
 obtain⟨⟨d',jP,hb⟩,hn⟩:=h
 have hv:view rows 9 (.raw v)=some (.raw v):=rfl
 unfold aK
 simp only[dC,jP,hv,bf,lg hb.rd h2 hp,hr,aa9]
 cases hh:aV [d,.raw v]with
 |true=>simp
 |false=>
  simp[aV]at hh
  simp only[lg (hn hh.1).rd h2 hp]
  simp
def uJ:Fn:=mc dq (λa=>Nat.ble a.length most) λa=>eJ a false
theorem Ow(C:aX)(hC:aJ C P):aP C.aY P 73 (Fn.run uJ):=by
 refine cv (Jf C hC) λds rows r h=>?_
 obtain⟨d,a,rfl,rfl,hd,hp,rfl⟩:=aZ h
 obtain⟨x,hx⟩:=cy hd
 refine⟨rfl,_,.cons hx .nil,ae rfl ?_⟩
 simp only[abP]at hp
 clear h hx hd
 unfold ze zf
 simp only[↓ag,ah,simprocAttr,aB]
 unfold most at hp
 refine⟨λh0=>?_,by omega,by omega,.own L8 1 0 a.length false false _ rfl rfl id⟩
 cases a with
 |nil=>exact .YD L8
 |cons b l=>simp at h0
theorem L3(rows:Rows)(k:D->Rows->Prop)(d:D)(p:List (BitVec 8))(h:bd rows d p)(hp:p.length<=1099511627776):aK uJ rows k [d]=k (.sl L8 (0+rows.length) [] 0 p.length false) (rows++[some ⟨L8,bs p⟩]):=by
 refine(s9 h (by simpa[most]using hp) rfl).trans ?_
 rfl
end iZ
end Go.Am
namespace Go.Am
namespace iZ
def bF{α:Type}(rows:Rows)(rd:D->Option α)(d:D)(a:α):Prop:=(∃d',view rows 9 d=some d'/\rd d'=some a)/\(aT d=false->rd d=some a)
theorem bF.raw{α:Type}{rows:Rows}{rd:D->Option α}{v:Value}{a:α}(h:rd (.raw v)=some a):bF rows rd (.raw v) a:=⟨⟨_,rfl,h⟩,λ_=>h⟩
theorem bF.int{rows:Rows}(n:Int):bF rows s6 (.raw (it n)) n:= .raw (oV n)
theorem bF.agg{α:Type}{rows:Rows}{rd:D->Option α}{s:Sh}{l:List D}{a:α}(hs:s.pure=true)(h:rd (.agg s l)=some a):bF rows rd (.agg s l) a:=⟨⟨.agg s l,by simp[view,hs],h⟩,λ_=>h⟩
theorem bF.bs{rows:Rows}{d:D}{l:List (BitVec 8)}(h:bd rows d l):bF rows dq d l:=by
 obtain⟨⟨d',jP,hb⟩,hn⟩:=h
 exact⟨⟨d',jP,hb.rd⟩,λhh=>(hn hh).rd⟩
theorem bF.parts{rows:Rows}{r n:Nat}{ex:Bool}{l:List D}{ls:List (List (BitVec 8))}(hl:live rows r=some ⟨.ref,l⟩)(hn:l.length=n)
  (hv:aW (λx y=>bd rows x y) l ls):bF rows qD (.sl .ref r [] 0 n ex) ls:=by
 obtain⟨l',h1,h2⟩:=qH hv
 have he:elems rows (.sl .ref r [] 0 n ex)=some l:=by simp[elems,hl,<-hn]
 have hvw:view rows 9 (.sl .ref r [] 0 n ex)=some (.cD .ref l' ex):=by
  simp only[view,he,hn,adh,abn,aaR,Sh.pure,h1]
 exact⟨⟨_,hvw,by simpa[qD]using h2⟩,λh=>by simp[aT]at h⟩
theorem tH{A:Fn}{rows:Rows}{k:D->Rows->Prop}{ds ds':List D}{r:D×Rows}(hv:dC (view rows 9) ds=some ds')(hA:A ds' []=some r)(hn:aV ds=false->A ds []=some r)(hr:(b8 r.1&&a8 r.2)=true):
  aK A rows k ds=k (shift rows.length r.1) (rows++ab rows.length r.2):=by
 unfold aK
 cases hh:aV ds with
 |true=>simp[bf,hv,hA,hr]
 |false=>simp[bf,hn hh]
theorem cw{α:Type}{rd:D->Option α}{pre:α->Bool}{out:α->D×Rows}{rows:Rows}{d:D}{a:α}(h:bF rows rd d a)(hp:pre a=true)(hr:(b8 (out a).1&&a8 (out a).2)=true)(k:D->Rows->Prop):
  aK (mc rd pre out) rows k [d]=k (shift rows.length (out a).1) (rows++ab rows.length (out a).2):=by
 obtain⟨⟨x,hx,hx'⟩,hn⟩:=h
 refine tH (ds':=[x]) (by simp only[dC,hx]) (eQ hx' hp) (λhh=>?_) hr
 simp only[aV,acy,aci]at hh
 exact eQ (hn hh) hp
theorem kn{α β:Type}{rd:D->Option α}{rd':D->Option β}{pre:α->β->Bool}{out:α->β->D×Rows}{rows:Rows}{d e:D}{a:α}{b:β}(h:bF rows rd d a)(h':bF rows rd' e b)(hp:pre a b=true)
  (hr:(b8 (out a b).1&&a8 (out a b).2)=true)(k:D->Rows->Prop):
  aK (ux rd rd' pre out) rows k [d,e]=k (shift rows.length (out a b).1) (rows++ab rows.length (out a b).2):=by
 obtain⟨⟨x,hx,hx'⟩,hn⟩:=h
 obtain⟨⟨y,hy,hy'⟩,hm⟩:=h'
 refine tH (ds':=[x,y]) (by simp only[dC,hx,hy]) (lg hx' hy' hp) (λhh=>?_) hr
 simp only[aV,acy,aci]at hh
 exact lg (hn hh.1) (hm hh.2) hp
theorem gI{α β γ:Type}{rd:D->Option α}{rd':D->Option β}{Fy:D->Option γ}{pre:α->β->γ->Bool}{out:α->β->γ->D×Rows}{rows:Rows}{d e f:D}{a:α}{b:β}{c:γ}(h:bF rows rd d a)(h':bF rows rd' e b)(h2:bF rows Fy f c)(hp:pre a b c=true)
  (hr:(b8 (out a b c).1&&a8 (out a b c).2)=true)(k:D->Rows->Prop):
  aK (I0 rd rd' Fy pre out) rows k [d,e,f]=k (shift rows.length (out a b c).1) (rows++ab rows.length (out a b c).2):=by
 obtain⟨⟨x,hx,hx'⟩,hn⟩:=h
 obtain⟨⟨y,hy,hy'⟩,hm⟩:=h'
 obtain⟨⟨z,hz,K2⟩,ho⟩:=h2
 refine tH (ds':=[x,y,z]) (by simp only[dC,hx,hy,hz]) (by simp only[Ar,hx',hy',K2,abf,hp,aaY]) (λhh=>?_) hr
 simp only[aV,acy,aci]at hh
 simp only[Ar,hn hh.1,hm hh.2.1,ho hh.2.2,abf,hp,aaY]
end iZ
end Go.Am
namespace Go.Am
attribute [local congr] cN bP cO bQ bT ca bC bU bV cb bk cd bW cM
namespace iZ
open Go.Am.F
theorem tI{l:List (List (BitVec 8))}(h:∀x∈l,x.length=32):l.flatten.length=32*l.length:=by
 induction l with
 |nil=>rfl
 |cons x l ih=>rw[acn,aax,ih (λy hy=>h y (by simp[hy])),h x (by simp),aa0];omega
theorem bd.at{rows:Rows}{r n i off len:Nat}{q:List Nat}{e:Bool}{row:Row}{l:List (BitVec 8)}(h:live rows r=some row)(hg:cF row.els (i::q)=some (.agg (.ar n L8) (bs l)))(hle:off+len<=l.length):bd rows (.sl L8 r (i::q) off len e) ((l.drop off).take len):=by
 refine⟨⟨.cD L8 (bs ((l.drop off).take len)) e,?_,.inr ⟨e,rfl⟩⟩,λh=>by simp[aT]at h⟩
 have h2:Am.elems rows (.sl L8 r (i::q) off len e)=some (bs ((l.drop off).take len)):=by
  simp only[elems,h,hg]
  simp[bs]
 simp only[Am.view]
 rw[h2]
 have hl:(bs ((l.drop off).take len)).length=len:=by simp[bs];omega
 simp[Sh.pure,hl]
theorem pM{rows:Rows}{r n i len:Nat}{q:List Nat}{e:Bool}{row:Row}{l:List (BitVec 8)}(h:live rows r=some row)(hg:cF row.els (i::q)=some (.agg (.ar n L8) (bs l)))(hl:l.length=len):Am.elems rows (.sl L8 r (i::q) 0 len e)=some (bs l):=by
 simp only[elems,h,hg]
 simp[bs,<-hl,aay]
theorem bd.tJ{rows:Rows}{r n i len:Nat}{q:List Nat}{e:Bool}{row:Row}{l:List (BitVec 8)}(h:live rows r=some row)(hg:cF row.els (i::q)=some (.agg (.ar n L8) (bs l)))(hl:l.length=len):bd rows (.sl L8 r (i::q) 0 len e) l:=by
 have:=bd.at (off:=0) (len:=len) (e:=e) h hg (by omega)
 rwa [abu,aay (by omega)]at this
def uc:List (BitVec 8):=List.replicate 32 0#8
theorem eG:List.replicate 32 (D.raw (u8 0#8))=bs uc:=rfl
theorem inj_id(x y:List (BitVec 8))(h:D.agg (.ar 16 L8) (bs x)= .agg (.ar 16 L8) (bs y)):x=y:=by
 injection h with _ h;exact qE h
def zv(l:List (BitVec 8)):D:= .agg (.ar 16 L8) (bs l)
theorem FU{rows:Rows}(x:List (BitVec 8)):bF rows (bE zv) (.agg (.ar 16 L8) (bs x)) x:=bF.agg rfl (bA inj_id x)
def HV(l:List (List (BitVec 8))):Bool:=l.all λx=>decide (x.length=32)
theorem tK{l:List (List (BitVec 8))}:HV l=true↔∀x∈l,x.length=32:=by simp[HV]
theorem ju{rows:Rows}(x:List (BitVec 8)):bF rows (bE aU) (.agg (.ar 32 L8) (bs x)) x:=bF.agg rfl (bA xz x)
theorem TB:∀(a b:List (BitVec 8)),a.length=b.length->CR (bs a) (bs b)=some (decide (a=b))
 |[],[],_=>rfl
 | x :: a, y :: b, h => by
  have e1:zG (.raw (u8 x)) (.raw (u8 y))=some (decide (x=y)):=by
   simp only[zG,jA,u8]
   by_cases h:x=y
   ·subst h;simp
   ·have:¬(x.toNat:Int)=(y.toNat:Int):=λe=>h (aaS (by omega))
    simp[h,this]
  show CR (.raw (u8 x)::bs a) (.raw (u8 y)::bs b)=_
  rw[eL_c,e1,TB a b (by simpa using h)]
  by_cases h1:x=y<;>by_cases h2:a=b<;>simp[h1,h2]
theorem L4(a b:List (BitVec 8))(ha:a.length=32)(hb:b.length=32):eqA (.ar 32 L8) (.agg (.ar 32 L8) (bs a)) (.agg (.ar 32 L8) (bs b))=some (decide (a=b)):=by
 have:=TB a b (by omega)
 simp[eqA,this]
end iZ
end Go.Am
namespace Go.Am
namespace iZ
def wN(T i:Nat):Nat:=(T>>>i) %4294967296
def ZA(l:List (BitVec 8)):Nat:=l.foldl (λn b=>n*256+b.toNat) 0
theorem VW(a b c d:BitVec 8):ZA [a,b,c,d]=(dt [a,b,c,d]).toNat:=by
 have ha:=a.isLt
 have hb:=b.isLt
 have hc:=c.isLt
 have hd:=d.isLt
 have e:∀(x:BitVec 8) (k:Nat),k<=24->(x.setWidth 32<<<k).toNat=x.toNat*2^k:=by
  intro x k hk
  have hx:=x.isLt
  rw[acE,abW,acL,abB (a:=x.toNat) (by omega)]
  apply abB
  calc x.toNat*2^k<2^8*2^k:=Nat.mul_lt_mul_of_pos_right hx (Nat.pow_pos (by decide))
   _<=2^8*2^24:=Nat.mul_le_mul_left _ (abT (by decide) hk)
   _=2^32:=by decide
 have e8:∀(x:BitVec 8),(x.setWidth 32).toNat=x.toNat:=λx=>by
  have:=x.isLt
  rw[abW,abB (by omega)]
 have o:∀(x y k:Nat),y<2^k->(x*2^k)|||y=x*2^k+y:=λx y k h=>by
  rw[ado,<-Nat.two_pow_add_eq_or_of_lt h]
 show ZA [a,b,c,d]=(a.setWidth 32<<<24|||b.setWidth 32<<<16|||c.setWidth 32<<<8|||d.setWidth 32).toNat
 rw[adC,adC,adC,e a 24 (by decide),e b 16 (by decide),e c 8 (by decide),e8 d,o _ (b.toNat*2^16) 24 (by omega)]
 rw[show a.toNat*2^24+b.toNat*2^16=(a.toNat*256+b.toNat)*2^16 by omega,o _ (c.toNat*2^8) 16 (by omega)]
 rw[show(a.toNat*256+b.toNat)*2^16+c.toNat*2^8=((a.toNat*256+b.toNat)*256+c.toNat)*2^8 by omega,o _ d.toNat 8 (by omega)]
 simp only[ZA,ad0,List.foldl_nil]
 omega
theorem Rh(x:BitVec 32):ZA (bt x)=x.toNat:=by
 have hx:=x.isLt
 simp only[bt,ZA,ad0,List.foldl_nil,abW,ab3,abG]
 omega
def ud(n:Nat):List (BitVec 8):=[BitVec.ofNat 8 (n/256),BitVec.ofNat 8 n]
def zw(id:List (BitVec 8))(q:BitVec 32)(i j:Nat)(x:List (BitVec 8)):List (BitVec 8):=eu (id++bt q++ud i++[BitVec.ofNat 8 j]++x)
theorem pN(id:List (BitVec 8))(q:BitVec 32)(i j:Nat)(x:List (BitVec 8)):(zw id q i j x).length=32:=du _
def HX(id:List (BitVec 8))(q:BitVec 32)(i:Nat):Nat->Nat->List (BitVec 8)->List (BitVec 8)
 |0,_,x=>x
 |n+1,a,x=>HX id q i n (a+1) (zw id q i a x)
theorem yh(id:List (BitVec 8))(q:BitVec 32)(i:Nat):∀(n a:Nat) (x:List (BitVec 8)),x.length=32->(HX id q i n a x).length=32
 |0,_,x,h=>h
 |n+1,a,x,_=>yh id q i n (a+1) _ (pN _ _ _ _ _)
theorem L5(id:List (BitVec 8))(q:BitVec 32)(i m:Nat):∀(n a:Nat) (x:List (BitVec 8)),HX id q i (n+m) a x=HX id q i m (a+n) (HX id q i n a x)
 |0,a,x=>by rw[abO];rfl
 |n+1,a,x=>by
  rw[show n+1+m=(n+m)+1 by omega]
  show HX id q i (n+m) (a+1) (zw id q i a x)=HX id q i m (a+(n+1)) (HX id q i n (a+1) (zw id q i a x))
  rw[L5 id q i m n (a+1),show a+1+n=a+(n+1) by omega]
theorem ZB(id:List (BitVec 8))(q:BitVec 32)(i n a:Nat)(x:List (BitVec 8)):HX id q i (n+1) a x=zw id q i (a+n) (HX id q i n a x):=L5 id q i 1 n a x
def BW(id:List (BitVec 8))(q:BitVec 32)(i:Nat)(aI:List (BitVec 8)):List (BitVec 8):=zw id q i 255 aI
def ER(id:List (BitVec 8))(q:BitVec 32)(l:List (List (BitVec 8))):List (BitVec 8):=eu (id++bt q++ud 32896++l.flatten)
def xB(id:List (BitVec 8))(q:BitVec 32)(aI:List (BitVec 8))(e n:Nat):List (List (BitVec 8)):=(List.range n).map λi=>HX id q i e 0 (BW id q i aI)
theorem ZC(id:List (BitVec 8))(q:BitVec 32)(aI:List (BitVec 8))(e n:Nat):∀x∈xB id q aI e n,x.length=32:=by
 intro x hx
 obtain⟨i,-,rfl⟩:=ac6.1 hx
 exact yh _ _ _ _ _ _ (pN _ _ _ _ _)
def Xu{α β γ δ:Type}(r0:D->Option α)(r1:D->Option β)(r2:D->Option γ)(r3:D->Option δ)(pre:α->β->γ->δ->Bool)(out:α->β->γ->δ->D×Rows):Fn
 |[d0,d1,d2,d3],[]=>match r0 d0,r1 d1,r2 d2,r3 d3 with
  |some x0,some x1,some x2,some x3=>bif pre x0 x1 x2 x3 then some (out x0 x1 x2 x3)else none
  | _,_,_,_=>none
 | _,_=>none
theorem tL{α β γ δ:Type}{r0:D->Option α}{r1:D->Option β}{r2:D->Option γ}{r3:D->Option δ}{pre:α->β->γ->δ->Bool}{out:α->β->γ->δ->D×Rows}{ds:List D}{rows:Rows}{r:D×Rows}(h:Xu r0 r1 r2 r3 pre out ds rows=some r):
  ∃d0 d1 d2 d3 x0 x1 x2 x3,ds=[d0,d1,d2,d3]/\rows=[]/\r0 d0=some x0/\r1 d1=some x1/\r2 d2=some x2/\r3 d3=some x3/\pre x0 x1 x2 x3=true/\r=out x0 x1 x2 x3:=by
 unfold Xu at h
 split at h
 ·rename_i d0 d1 d2 d3
  split at h
  ·rename_i x0 x1 x2 x3 h0 h1 h2 h3
   cases hp:pre x0 x1 x2 x3 with
   |false=>rw[hp]at h;cases h
   |true=>rw[hp]at h;cases h;exact⟨d0,d1,d2,d3,x0,x1,x2,x3,rfl,rfl,h0,h1,h2,h3,hp,rfl⟩
  ·cases h
 ·cases h
theorem Ri{α β γ δ:Type}{r0:D->Option α}{r1:D->Option β}{r2:D->Option γ}{r3:D->Option δ}{pre:α->β->γ->δ->Bool}{out:α->β->γ->δ->D×Rows}{d0 d1 d2 d3:D}{x0:α}{x1:β}{x2:γ}{x3:δ}(h0:r0 d0=some x0)(h1:r1 d1=some x1)(h2:r2 d2=some x2)(h3:r3 d3=some x3)(hp:pre x0 x1 x2 x3=true):
  Xu r0 r1 r2 r3 pre out [d0,d1,d2,d3] []=some (out x0 x1 x2 x3):=by
 simp[Xu,h0,h1,h2,h3,hp]
theorem xC{α β γ δ:Type}{r0:D->Option α}{r1:D->Option β}{r2:D->Option γ}{r3:D->Option δ}{pre:α->β->γ->δ->Bool}{out:α->β->γ->δ->D×Rows}{rows:Rows}{d0 d1 d2 d3:D}{x0:α}{x1:β}{x2:γ}{x3:δ}(h0:bF rows r0 d0 x0)(h1:bF rows r1 d1 x1)(h2:bF rows r2 d2 x2)(h3:bF rows r3 d3 x3)(hp:pre x0 x1 x2 x3=true)
  (hr:(b8 (out x0 x1 x2 x3).1&&a8 (out x0 x1 x2 x3).2)=true)(k:D->Rows->Prop):
  aK (Xu r0 r1 r2 r3 pre out) rows k [d0,d1,d2,d3]=k (shift rows.length (out x0 x1 x2 x3).1) (rows++ab rows.length (out x0 x1 x2 x3).2):=by
 obtain⟨⟨y0,a0,b0⟩,c0⟩:=h0
 obtain⟨⟨y1,a1,b1⟩,c1⟩:=h1
 obtain⟨⟨y2,a2,b2⟩,c2⟩:=h2
 obtain⟨⟨y3,a3,b3⟩,c3⟩:=h3
 refine tH (ds':=[y0,y1,y2,y3]) (by simp only[dC,a0,a1,a2,a3]) (Ri b0 b1 b2 b3 hp) (λhh=>?_) hr
 simp only[aV,acy,aci]at hh
 exact Ri (c0 hh.1) (c1 hh.2.1) (c2 hh.2.2.1) (c3 hh.2.2.2) hp
def gn5{α β γ δ ε:Type}(r0:D->Option α)(r1:D->Option β)(r2:D->Option γ)(r3:D->Option δ)(r4:D->Option ε)(pre:α->β->γ->δ->ε->Bool)(out:α->β->γ->δ->ε->D×Rows):Fn
 |[d0,d1,d2,d3,d4],[]=>match r0 d0,r1 d1,r2 d2,r3 d3,r4 d4 with
  |some x0,some x1,some x2,some x3,some x4=>bif pre x0 x1 x2 x3 x4 then some (out x0 x1 x2 x3 x4)else none
  | _,_,_,_,_=>none
 | _,_=>none
theorem Ox{α β γ δ ε:Type}{r0:D->Option α}{r1:D->Option β}{r2:D->Option γ}{r3:D->Option δ}{r4:D->Option ε}{pre:α->β->γ->δ->ε->Bool}{out:α->β->γ->δ->ε->D×Rows}{ds:List D}{rows:Rows}{r:D×Rows}(h:gn5 r0 r1 r2 r3 r4 pre out ds rows=some r):
  ∃d0 d1 d2 d3 d4 x0 x1 x2 x3 x4,ds=[d0,d1,d2,d3,d4]/\rows=[]/\r0 d0=some x0/\r1 d1=some x1/\r2 d2=some x2/\r3 d3=some x3/\r4 d4=some x4/\pre x0 x1 x2 x3 x4=true/\r=out x0 x1 x2 x3 x4:=by
 unfold gn5 at h
 split at h
 ·rename_i d0 d1 d2 d3 d4
  split at h
  ·rename_i x0 x1 x2 x3 x4 h0 h1 h2 h3 h4
   cases hp:pre x0 x1 x2 x3 x4 with
   |false=>rw[hp]at h;cases h
   |true=>rw[hp]at h;cases h;exact⟨d0,d1,d2,d3,d4,x0,x1,x2,x3,x4,rfl,rfl,h0,h1,h2,h3,h4,hp,rfl⟩
  ·cases h
 ·cases h
theorem ZD{α β γ δ ε:Type}{r0:D->Option α}{r1:D->Option β}{r2:D->Option γ}{r3:D->Option δ}{r4:D->Option ε}{pre:α->β->γ->δ->ε->Bool}{out:α->β->γ->δ->ε->D×Rows}{d0 d1 d2 d3 d4:D}{x0:α}{x1:β}{x2:γ}{x3:δ}{x4:ε}(h0:r0 d0=some x0)(h1:r1 d1=some x1)(h2:r2 d2=some x2)(h3:r3 d3=some x3)(h4:r4 d4=some x4)(hp:pre x0 x1 x2 x3 x4=true):
  gn5 r0 r1 r2 r3 r4 pre out [d0,d1,d2,d3,d4] []=some (out x0 x1 x2 x3 x4):=by
 simp[gn5,h0,h1,h2,h3,h4,hp]
theorem Oy{α β γ δ ε:Type}{r0:D->Option α}{r1:D->Option β}{r2:D->Option γ}{r3:D->Option δ}{r4:D->Option ε}{pre:α->β->γ->δ->ε->Bool}{out:α->β->γ->δ->ε->D×Rows}{rows:Rows}{d0 d1 d2 d3 d4:D}{x0:α}{x1:β}{x2:γ}{x3:δ}{x4:ε}(h0:bF rows r0 d0 x0)(h1:bF rows r1 d1 x1)(h2:bF rows r2 d2 x2)(h3:bF rows r3 d3 x3)(h4:bF rows r4 d4 x4)(hp:pre x0 x1 x2 x3 x4=true)
  (hr:(b8 (out x0 x1 x2 x3 x4).1&&a8 (out x0 x1 x2 x3 x4).2)=true)(k:D->Rows->Prop):
  aK (gn5 r0 r1 r2 r3 r4 pre out) rows k [d0,d1,d2,d3,d4]=k (shift rows.length (out x0 x1 x2 x3 x4).1) (rows++ab rows.length (out x0 x1 x2 x3 x4).2):=by
 obtain⟨⟨y0,a0,b0⟩,c0⟩:=h0
 obtain⟨⟨y1,a1,b1⟩,c1⟩:=h1
 obtain⟨⟨y2,a2,b2⟩,c2⟩:=h2
 obtain⟨⟨y3,a3,b3⟩,c3⟩:=h3
 obtain⟨⟨y4,a4,b4⟩,c4⟩:=h4
 refine tH (ds':=[y0,y1,y2,y3,y4]) (by simp only[dC,a0,a1,a2,a3,a4]) (ZD b0 b1 b2 b3 b4 hp) (λhh=>?_) hr
 simp only[aV,acy,aci]at hh
 exact ZD (c0 hh.1) (c1 hh.2.1) (c2 hh.2.2.1) (c3 hh.2.2.2.1) (c4 hh.2.2.2.2) hp
end iZ
end Go.Am
namespace Go.Am
attribute [local congr] cN bP cO bQ bT ca bC bU bV cb bk cd bW cM
namespace iZ
open Go.Am.F
abbrev qI:Sh:= .cons LI (.cons LI (.cons LI .nil))
theorem pO{x y:BitVec 32}(h:u32 x=u32 y):x=y:=by
 injection h with _ h
 exact aaS (by omega)
def wT(t:Nat):Nat:=if t=1 then 1 else if t=2 then 2 else if t=3 then 4 else if t=4 then 8 else 0
def pT(t:Nat):Nat:=if t=1 then 265 else if t=2 then 133 else if t=3 then 67 else if t=4 then 34 else 0
def lT(t:Nat):Nat:=if t=1 then 7 else if t=2 then 6 else if t=3 then 4 else 0
def tM(t:Nat):Bool:=decide (1<=t)&&decide (t<=4)
theorem Kp{t:BitVec 32}(h:tM t.toNat=true):t=1#32\/t=2#32\/t=3#32\/t=4#32:=by
 simp only[tM,aav,aaA]at h
 have:t.toNat=1\/t.toNat=2\/t.toNat=3\/t.toNat=4:=by omega
 rcases this with h|h|h|h
 ·exact .inl (aaS h)
 ·exact .inr (.inl (aaS h))
 ·exact .inr (.inr (.inl (aaS h)))
 ·exact .inr (.inr (.inr (aaS h)))
theorem okT_not{t:Nat}(h:tM t=false):wT t=0/\pT t=0/\lT t=0:=by
 simp only[tM,Bool.and_eq_false_iff,abX]at h
 refine⟨?_,?_,?_⟩<;>simp only[wT,pT,lT]<;>(repeat' split)<;>omega
structure Par where
 w:Nat
 p:Nat
 l:Nat
def jx(x:Par):D:= .agg qI [.raw (it (x.w:Int)),.raw (it (x.p:Int)),.raw (it (x.l:Int))]
theorem L6{x y:Nat}(h:it (x:Int)=it (y:Int)):x=y:=by
 injection h with _ h;omega
theorem ZE(x y:Par)(h:jx x=jx y):x=y:=by
 obtain⟨a,b,c⟩:=x
 obtain⟨d,e,f⟩:=y
 simp only[jx,D.agg.injEq,abL,D.raw.injEq,aa9,aci]at h
 rw[L6 h.1,L6 h.2.1,L6 h.2.2]
theorem cY(x:Par):(jx x).fits qI=true:=rfl
def vV(t:Nat):Par:=⟨wT t,pT t,lT t⟩
theorem ZF{rows:Rows}(x:Par):bF rows (bE jx) (jx x) x:=bF.agg rfl (bA ZE x)
def DL:D:= .agg (.ar 4 qI) [jx ⟨1,265,7⟩,jx ⟨2,133,6⟩,jx ⟨4,67,4⟩,jx ⟨8,34,0⟩]
def ko:Fn:=mc qc (λ_=>true) λt=>(.cB [jx (vV t.toNat),.raw (.bool (tM t.toNat))],[])
theorem VX(C:aX)(hC:aJ C P)(hg:C.aY 0=some DL):aP C.aY P 37 (Fn.run ko):=by
 refine aH (Lu C hC) λds rows r h=>?_
 obtain⟨d,t,rfl,rfl,hd,hp,rfl⟩:=aZ h
 cases eh hd
 refine⟨rfl,ae rfl ?_⟩
 clear h hd
 unfold Bf Bg
 have hz:D.agg qI [.raw (it 0),.raw (it 0),.raw (it 0)]=jx ⟨0,0,0⟩:=rfl
 simp only[hz]
 cases hk:tM t.toNat
 ·obtain⟨hw,hp,hl⟩:=okT_not hk
  have e:vV t.toNat=⟨0,0,0⟩:=by rw[vV,hw,hp,hl]
  rw[e]
  simp only[tM,Bool.and_eq_false_iff,abX]at hk
  have rf:=t.isLt
  by_cases c:t<1#32
  ·have c1:(t<1#32)=True:=aaz c
   simp only[↓ag,ah,simprocAttr,aQ,cY,c1,aaG]
   exact .val _ rfl
  ·have c1:(t<1#32)=False:=aaI c
   have c2:(4#32<t)=True:=aaz (by
    rw[ab0]at c⊢
    have e1:(1#32).toNat=1:=rfl
    have e4:(4#32).toNat=4:=rfl
    omega)
   simp only[↓ag,ah,simprocAttr,aQ,cY,c1,c2,aaG,aaH]
   exact .val _ rfl
 ·rcases Kp hk with rfl|rfl|rfl|rfl
  ·simp only[↓ag,ah,simprocAttr,aQ,cY,hg,DL,BitVec.reduceLT,BitVec.reduceSub,BitVec.reduceToNat,aaG,aaH]
   exact .val _ rfl
  ·simp only[↓ag,ah,simprocAttr,aQ,cY,hg,DL,BitVec.reduceLT,BitVec.reduceSub,BitVec.reduceToNat,aaG,aaH]
   exact .val _ rfl
  ·simp only[↓ag,ah,simprocAttr,aQ,cY,hg,DL,BitVec.reduceLT,BitVec.reduceSub,BitVec.reduceToNat,aaG,aaH]
   exact .val _ rfl
  ·simp only[↓ag,ah,simprocAttr,aQ,cY,hg,DL,BitVec.reduceLT,BitVec.reduceSub,BitVec.reduceToNat,aaG,aaH]
   exact .val _ rfl
theorem oh(rows:Rows)(k:D->Rows->Prop)(t:BitVec 32):aK ko rows k [.raw (u32 t)]=k (.cB [jx (vV t.toNat),.raw (.bool (tM t.toNat))]) rows:=by
 refine(cw (bF.raw (gA t)) rfl rfl k).trans ?_
 simp[jx,shift,bu,ab,Sh.pure]
abbrev vG:Sh:= .cons (.ar 16 L8) (.cons dk .nil)
structure Site where
 id:List (BitVec 8)
 q:BitVec 32
def fg(s:Site):D:= .agg vG [.agg (.ar 16 L8) (bs s.id),.raw (u32 s.q)]
theorem VY(x y:Site)(h:fg x=fg y):x=y:=by
 obtain⟨a,b⟩:=x
 obtain⟨c,d⟩:=y
 simp only[fg,D.agg.injEq,abL,D.raw.injEq,aa9,aci]at h
 rw[qE h.1,pO h.2]
theorem dM(s:Site):(fg s).fits vG=true:=rfl
theorem kq(s:Site)(rows:Rows):bF rows (bE fg) (fg s) s:=bF.agg rfl (bA VY s)
theorem ZG(m b:Nat)(kd:IntKind)(hb:b<=64)(k:D->Prop):cz .shr (it (m:Int)) (.int kd (b:Int)) k=k (.raw (it ((m/2^b:Nat):Int))):=by
 have e:(m:Int).fdiv (2^(min (b:Int).toNat IntKind.i64.bits))=((m/2^b:Nat):Int):=by
  have:min (b:Int).toNat IntKind.i64.bits=b:=by show min (b:Int).toNat 64=b;omega
  rw[this,acd _ (Int.le_of_lt (Int.pow_pos (by decide)))]
  rw[show((2:Int)^b)=((2^b:Nat):Int) by simp]
  omega
 simp only[cz,it]
 rw[e]
 simp
def Rj:Fn:=mc s6 (λn=>decide (0<=n)&&decide (n<65536)) λn=>eJ (ud n.toNat) false
theorem two_ok(C:aX)(hC:aJ C P):aP C.aY P 162 (Fn.run Rj):=by
 refine aH (VG C hC) λds rows r h=>?_
 obtain⟨d,n,rfl,rfl,hd,hp,rfl⟩:=aZ h
 cases bK hd
 simp only[aav,aaA]at hp
 refine⟨rfl,ae rfl ?_⟩
 clear h hd
 obtain⟨m,rfl⟩:=aaO hp.1
 have hm:m<65536:=by omega
 unfold Ka Kb
 have e8:∀k,cz .shr (it (m:Int)) (u64 8#64) k=k (.raw (it ((m/256:Nat):Int))):=λk=>ZG m 8 .u64 (by decide) k
 have e1:BitVec.ofInt 8 ((m/256:Nat):Int)=BitVec.ofNat 8 (m/256):=abp _ _
 have e2:BitVec.ofInt 8 (m:Int)=BitVec.ofNat 8 m:=abp _ _
 simp only[↓ag,ah,simprocAttr,e8,e1,e2]
 exact .own _ 0 0 2 true false _ rfl rfl (λh=>by cases h)
theorem kTwo(rows:Rows)(k:D->Rows->Prop)(n:Nat)(h:n<65536):aK Rj rows k [.raw (it (n:Int))]=k (.sl L8 (0+rows.length) [] 0 2 false) (rows++[some ⟨L8,bs (ud n)⟩]):=by
 refine(cw (bF.int _) (by simp;omega) rfl k).trans ?_
 simp[eJ,shift,ab,Sh.pure,ud]
def zy:Fn:=mc qc (λ_=>true) λq=>eJ (bt q) false
theorem four_ok(C:aX)(hC:aJ C P):aP C.aY P 167 (Fn.run zy):=by
 refine aH (Q4 C hC) λds rows r h=>?_
 obtain⟨d,n,rfl,rfl,hd,hp,rfl⟩:=aZ h
 cases eh hd
 refine⟨rfl,ae rfl ?_⟩
 clear h hd
 unfold HD HE
 simp only[↓ag,ah,simprocAttr]
 exact .own _ 0 0 4 true false _ rfl rfl (λh=>by cases h)
theorem Oz(rows:Rows)(k:D->Rows->Prop)(q:BitVec 32):aK zy rows k [.raw (u32 q)]=k (.sl L8 (0+rows.length) [] 0 4 false) (rows++[some ⟨L8,bs (bt q)⟩]):=by
 refine(cw (bF.raw (gA q)) rfl rfl k).trans ?_
 simp[eJ,shift,ab,Sh.pure,bt]
def stZ:St:=⟨List.replicate 8 0#32,List.replicate 64 0#8,0#64⟩
theorem Rk:D.agg M2 [.agg (.ar 8 dk) (List.replicate 8 (.raw (u32 0#32))),.agg (.ar 64 L8) (List.replicate 64 (.raw (u8 0#8))),.raw (u64 0#64)]=tF stZ:=rfl
def lp(s:Site):St:=feed FT (s.id++bt s.q)
theorem pP(s:Site):(lp s).ok=true:=eZ _ _ oa
noncomputable def DM:Fn:=mc (bE fg) (λs=>decide (s.id.length=16)) λs=>(tF (lp s),[])
theorem ZH(C:aX)(hC:aJ C P)(h1:C.fn 157=some Ov)(h2:C.fn 158=some rS)(h3:C.fn 167=some zy):aP C.aY P 161 (Fn.run DM):=by
 refine aH (Oc C hC) λds rows r h=>?_
 obtain⟨d,s,rfl,rfl,hd,hp,rfl⟩:=aZ h
 cases aF hd
 simp only[aaA]at hp
 refine⟨rfl,ae rfl ?_⟩
 clear h hd
 unfold EH EI
 simp only[Rk]
 have Qb:(fg s).get [0]=some (.agg (.ar 16 L8) (bs s.id)):=rfl
 have Vc:(fg s).get [1]=some (.raw (u32 s.q)):=rfl
 simp only[↓ag,ah,simprocAttr,aQ,dM,m9,h1,h2,Rf]
 refine Eq.mpr (kU _ _ _ _ s.id (bd.tJ (n:=16) rfl (by simp only[↓ag,ah,simprocAttr,Qb]) hp) oa) ?_
 have hok1:=eZ s.id FT oa
 have pI:feed (feed FT s.id) (bt s.q)=lp s:=(eY _ _ _).symm
 simp only[↓ag,ah,simprocAttr,aQ,Vc,h3,Oz,h2]
 refine Eq.mpr (kU _ _ _ _ (bt s.q) (bd.own rfl _ rfl) hok1) ?_
 rw[pI]
 simp only[↓ag,ah,simprocAttr,aQ,m9]
 exact .val _ rfl
theorem Rl(rows:Rows)(k:D->Rows->Prop)(s:Site)(h:s.id.length=16):aK DM rows k [fg s]=k (tF (lp s)) rows:=by
 refine(cw (kq s rows) (by simp[h]) rfl k).trans ?_
 simp[tF,shift,ab,Sh.pure]
def OA(i n:Int):Bool:=decide (0<=i)&&decide (i<n)
theorem L7{i n:Int}:OA i n=true↔0<=i/\i<n:=by simp[OA]
noncomputable def Kq:Fn:=Xu (bE fg) s6 s6 (bE aU) (λs i j x=>decide (s.id.length=16)&&OA i 65536&&OA j 256&&decide (x.length=32)) λs i j x=>(aU (zw s.id s.q i.toNat j.toNat x),[])
theorem step_ok(C:aX)(hC:aJ C P)(h1:C.fn 161=some DM)(h2:C.fn 162=some Rj)(h3:C.fn 158=some rS)(h4:C.fn 159=some uI):aP C.aY P 160 (Fn.run Kq):=by
 refine aH (Q2 C hC) λds rows r h=>?_
 obtain⟨d0,d1,d2,d3,s,i,j,x,rfl,rfl,g0,g1,g2,g3,hp,rfl⟩:=tL h
 cases aF g0
 cases bK g1
 cases bK g2
 cases aF g3
 simp only[aav,aaA,L7]at hp
 obtain⟨⟨⟨iD,hi⟩,hj⟩,hx⟩:=hp
 refine⟨rfl,ae rfl ?_⟩
 clear h g0 g1 g2 g3
 obtain⟨i,rfl⟩:=aaO hi.1
 obtain⟨j,rfl⟩:=aaO hj.1
 have hi':i<65536:=by omega
 have mJ:j<256:=by omega
 unfold Hy Hz
 simp only[eG]
 have ej:BitVec.ofInt 8 (j:Int)=BitVec.ofNat 8 j:=abp _ _
 have kT:=λrows k=>kTwo rows k i hi'
 simp only[↓ag,ah,simprocAttr,aQ,aU,dM,h1,Rl _ _ s iD,h2,kT,h3]
 refine Eq.mpr (kU _ _ _ _ (ud i) (bd.own rfl _ rfl) (pP s)) ?_
 simp only[↓ag,ah,simprocAttr,aQ,ej,h3]
 have o1:=eZ (ud i) _ (pP s)
 refine Eq.mpr (kU _ _ _ _ [BitVec.ofNat 8 j] (bd.own rfl _ rfl) o1) ?_
 simp only[↓ag,ah,simprocAttr,aQ,h3]
 have o2:=eZ [BitVec.ofNat 8 j] _ o1
 refine Eq.mpr (kU _ _ _ _ x (bd.tJ (n:=32) rfl rfl hx) o2) ?_
 have o3:=eZ x _ o2
 simp only[↓ag,ah,simprocAttr,aQ,h4,Au _ _ _ o3]
 have e:pi (feed (feed (feed (lp s) (ud i)) [BitVec.ofNat 8 j]) x)=zw s.id s.q i j x:=by
  rw[zw,eu,lp,<-eY,<-eY,<-eY]
  simp only[aaP]
 rw[e]
 exact .val _ rfl
theorem kStep(rows:Rows)(k:D->Rows->Prop)(s:Site)(i j:Nat)(x:List (BitVec 8))(iD:s.id.length=16)(hi:i<65536)(hj:j<256)(hx:x.length=32):
  aK Kq rows k [fg s,.raw (it (i:Int)),.raw (it (j:Int)),.agg (.ar 32 L8) (bs x)]=k (.agg (.ar 32 L8) (bs (zw s.id s.q i j x))) rows:=by
 refine(xC (kq s rows) (bF.int _) (bF.int _) (ju x) (by simp[iD,hx,OA];omega) rfl k).trans ?_
 simp[aU,shift,ab,Sh.pure]
noncomputable def BX:Fn:=I0 (bE fg) s6 (bE aU) (λs i x=>decide (s.id.length=16)&&OA i 65536&&decide (x.length=32)) λs i x=>(aU (BW s.id s.q i.toNat x),[])
theorem VZ(C:aX)(hC:aJ C P)(h1:C.fn 160=some Kq):aP C.aY P 100 (Fn.run BX):=by
 refine aH (LA C hC) λds rows r h=>?_
 obtain⟨d0,d1,d2,s,i,x,rfl,rfl,g0,g1,g2,hp,rfl⟩:=fS h
 cases aF g0
 cases bK g1
 cases aF g2
 simp only[aav,aaA,L7]at hp
 obtain⟨⟨iD,hi⟩,hx⟩:=hp
 refine⟨rfl,ae rfl ?_⟩
 clear h g0 g1 g2
 obtain⟨i,rfl⟩:=aaO hi.1
 have hi':i<65536:=by omega
 unfold Bp Bq
 simp only[eG]
 have kS:=λrows k=>kStep rows k s i 255 x iD hi' (by decide) hx
 rw[show((255:Nat):Int)=255 from rfl]at kS
 simp only[↓ag,ah,simprocAttr,aQ,aU,dM,h1,kS]
 exact .val _ rfl
theorem TC(rows:Rows)(k:D->Rows->Prop)(s:Site)(i:Nat)(x:List (BitVec 8))(iD:s.id.length=16)(hi:i<65536)(hx:x.length=32):
  aK BX rows k [fg s,.raw (it (i:Int)),.agg (.ar 32 L8) (bs x)]=k (.agg (.ar 32 L8) (bs (BW s.id s.q i x))) rows:=by
 refine(gI (kq s rows) (bF.int _) (ju x) (by simp[iD,hx,OA];omega) rfl k).trans ?_
 simp[aU,shift,ab,Sh.pure]
noncomputable def Av:Fn:=gn5 (bE fg) s6 s6 s6 (bE aU) (λs i a b x=>decide (s.id.length=16)&&OA i 65536&&OA a 257&&OA b 257&&decide (x.length=32)) λs i a b x=>(aU (HX s.id s.q i.toNat (b.toNat-a.toNat) a.toNat x),[])
theorem ZI(C:aX)(hC:aJ C P)(h1:C.fn 160=some Kq):aP C.aY P 98 (Fn.run Av):=by
 refine aH (N8 C hC) λds rows r h=>?_
 obtain⟨d0,d1,d2,d3,d4,s,i,a,b,x,rfl,rfl,g0,g1,g2,g3,g4,hp,rfl⟩:=Ox h
 cases aF g0
 cases bK g1
 cases bK g2
 cases bK g3
 cases aF g4
 simp only[aav,aaA,L7]at hp
 obtain⟨⟨⟨⟨iD,hi⟩,ha⟩,hb⟩,hx⟩:=hp
 refine⟨rfl,ae rfl ?_⟩
 clear h g0 g1 g2 g3 g4
 obtain⟨i,rfl⟩:=aaO hi.1
 obtain⟨a,rfl⟩:=aaO ha.1
 obtain⟨b,rfl⟩:=aaO hb.1
 have hi':i<65536:=by omega
 unfold ED EE
 simp only[eG]
 simp only[↓ag,ah,simprocAttr,aQ,aU,dM,h1]
 have em:max (a:Int) 0=(a:Int):=by omega
 have eb:min (b:Int) 256=(b:Int):=by omega
 simp only[em]
 refine bg (b-a) (λj env rows=>has env [(11,.raw (it ((a+j:Nat):Int))),(10,.ptr (.ar 32 L8) 2 [0]),(9,.ptr (.ar 32 L8) 1 [0]),(5,.ptr vG 0 [0]),(1,.raw (it (i:Int))),(3,.raw (it (b:Int)))]/\
  rows=[some ⟨vG,[fg s]⟩,some ⟨.ar 32 L8,[.agg (.ar 32 L8) (bs (HX s.id s.q i j a x))]⟩,some ⟨.ar 32 L8,[.agg (.ar 32 L8) (bs uc)]⟩]) ?_ ?_ ⟨?_,rfl⟩
 ·rintro j hj env rows ⟨hh,rfl⟩ R hR
  simp only[has]at hh
  have e0:(((a+j:Nat):Int)<(b:Int))=True:=aaz (by omega)
  have e1:wz (((a+j:Nat):Int)+1)=((a+(j+1):Nat):Int):=by rw[be (by omega)];omega
  have kS:=λrows k=>kStep rows k s i (a+j) _ iD hi' (by omega) (yh s.id s.q i j a x hx)
  simp only[↓ag,ah,simprocAttr,aQ,hh,eb,e0,e1,dM,h1,kS,<-ZB]
  exact hR _ _ ⟨by simp only[has,↓ag,ah,simprocAttr,hh],rfl⟩
 ·rintro env rows ⟨hh,rfl⟩ R
  simp only[has]at hh
  have e0:(((a+(b-a):Nat):Int)<(b:Int))=False:=aaI (by omega)
  simp only[↓ag,ah,simprocAttr,aQ,hh,eb,e0]
  exact .val _ rfl
 ·simp only[has,↓ag,ah,simprocAttr]
  simp
theorem Rm(rows:Rows)(k:D->Rows->Prop)(s:Site)(i a b:Nat)(x:List (BitVec 8))(iD:s.id.length=16)(hi:i<65536)(ha:a<=256)(hb:b<=256)(hx:x.length=32):
  aK Av rows k [fg s,.raw (it (i:Int)),.raw (it (a:Int)),.raw (it (b:Int)),.agg (.ar 32 L8) (bs x)]=k (.agg (.ar 32 L8) (bs (HX s.id s.q i (b-a) a x))) rows:=by
 refine(Oy (kq s rows) (bF.int _) (bF.int _) (bF.int _) (ju x) (by simp[iD,hx,OA];omega) rfl k).trans ?_
 simp[aU,shift,ab,Sh.pure]
def j4(id:List (BitVec 8))(q:BitVec 32)(c msg:List (BitVec 8)):List (BitVec 8):=eu (id++bt q++ud 33153++c++msg)
noncomputable def HY:Fn:=I0 (bE fg) (bE aU) dq (λs c _=>decide (s.id.length=16)&&decide (c.length=32)) λs c m=>(aU (j4 s.id s.q c m),[])
theorem mash_ok(C:aX)(hC:aJ C P)(h1:C.fn 161=some DM)(h2:C.fn 162=some Rj)(h3:C.fn 158=some rS)(h4:C.fn 159=some uI):aP C.aY P 111 (Fn.run HY):=by
 refine aH (QU C hC) λds rows r h=>?_
 obtain⟨d0,d1,d2,s,c,m,rfl,rfl,g0,g1,g2,hp,rfl⟩:=fS h
 cases aF g0
 cases aF g1
 have gm:=fx g2
 simp only[aav,aaA]at hp
 obtain⟨iD,hc⟩:=hp
 refine⟨rfl,ae rfl ?_⟩
 clear h g0 g1 g2
 unfold Hp Hq
 simp only[eG]
 have kT:=λrows k=>kTwo rows k 33153 (by decide)
 rw[show((33153:Nat):Int)=33153 from rfl]at kT
 simp only[↓ag,ah,simprocAttr,aQ,aU,dM,h1,Rl _ _ s iD,h2,kT,h3]
 refine Eq.mpr (kU _ _ _ _ (ud 33153) (bd.own rfl _ rfl) (pP s)) ?_
 simp only[↓ag,ah,simprocAttr,aQ,h3]
 have o1:=eZ (ud 33153) _ (pP s)
 refine Eq.mpr (kU _ _ _ _ c (bd.tJ (n:=32) rfl rfl hc) o1) ?_
 simp only[↓ag,ah,simprocAttr,aQ,h3]
 have o2:=eZ c _ o1
 refine Eq.mpr (kU _ _ _ _ m gm.to o2) ?_
 have o3:=eZ m _ o2
 simp only[↓ag,ah,simprocAttr,aQ,h4,Au _ _ _ o3]
 have e:pi (feed (feed (feed (lp s) (ud 33153)) c) m)=j4 s.id s.q c m:=by
  rw[j4,eu,lp,<-eY,<-eY,<-eY]
  simp only[aaP]
 rw[e]
 exact .val _ rfl
theorem ZJ(rows:Rows)(k:D->Rows->Prop)(s:Site)(c m:List (BitVec 8))(d:D)(hd:bd rows d m)(iD:s.id.length=16)(hc:c.length=32):
  aK HY rows k [fg s,.agg (.ar 32 L8) (bs c),d]=k (.agg (.ar 32 L8) (bs (j4 s.id s.q c m))) rows:=by
 refine(gI (kq s rows) (ju c) (.bs hd) (by simp[iD,hc]) rfl k).trans ?_
 simp[aU,shift,ab,Sh.pure]
theorem bF.dl{rows:Rows}{r n:Nat}{ex:Bool}{l:List (List (BitVec 8))}(hl:live rows r=some ⟨.ar 32 L8,l.map aU⟩)(hn:l.length=n):bF rows (oG (.ar 32 L8) aU) (.sl (.ar 32 L8) r [] 0 n ex) l:=by
 refine⟨⟨.cD (.ar 32 L8) (l.map aU) ex,?_,HN xz l ex⟩,λh=>by simp[aT]at h⟩
 have:elems rows (.sl (.ar 32 L8) r [] 0 n ex)=some (l.map aU):=by
  simp only[elems,hl];simp[aay,hn]
 simp only[view]
 rw[this]
 simp[Sh.pure,hn]
noncomputable def OB:Fn:=ux (bE fg) (oG (.ar 32 L8) aU) (λs l=>decide (s.id.length=16)&&HV l&&decide (l.length<=1000000)) λs l=>(aU (ER s.id s.q l),[])
theorem fold_ok(C:aX)(hC:aJ C P)(h1:C.fn 161=some DM)(h2:C.fn 162=some Rj)(h3:C.fn 158=some rS)(h4:C.fn 159=some uI):aP C.aY P 101 (Fn.run OB):=by
 refine cv (QR C hC) λds rows r h=>?_
 obtain⟨d0,d1,s,l,rfl,rfl,g0,g1,hp,rfl⟩:=dE h
 cases aF g0
 obtain⟨ex,hx⟩:=yf g1
 simp only[aav,aaA,tK]at hp
 obtain⟨⟨iD,rf⟩,Gp⟩:=hp
 refine⟨rfl,_,.cons (.refl _) (.cons hx .nil),ae rfl ?_⟩
 clear h g0 g1 hx
 unfold Hj Hk
 simp only[eG,Rk]
 have kT:=λrows k=>kTwo rows k 32896 (by decide)
 rw[show((32896:Nat):Int)=32896 from rfl]at kT
 simp only[↓ag,ah,simprocAttr,aQ,aU,dM,m9,h1,Rl _ _ s iD,h2,kT,h3]
 refine Eq.mpr (kU _ _ _ _ (ud 32896) (bd.own rfl _ rfl) (pP s)) ?_
 have o1:=eZ (ud 32896) _ (pP s)
 simp only[↓ag,ah,simprocAttr,aQ,m9,aaC]
 have hok:∀i,(feed (feed (lp s) (ud 32896)) (l.take i).flatten).ok=true:=λi=>eZ _ _ o1
 have e:pi (feed (feed (lp s) (ud 32896)) (l.take l.length).flatten)=ER s.id s.q l:=by
  rw[aa6,ER,eu,lp,<-eY,<-eY]
  simp only[aaP]
 have hst:feed (feed (lp s) (ud 32896)) (l.take 0).flatten=feed (lp s) (ud 32896):=by rw[acq];rfl
 rw[<-hst]
 have ZK:∀i (h:i<l.length),feed (feed (feed (lp s) (ud 32896)) (l.take i).flatten) l[i]=feed (feed (lp s) (ud 32896)) (l.take (i+1)).flatten:=λi h=>by
  rw[<-eY,aa2 h,ab5];simp
 generalize feed (lp s) (ud 32896)=B at*
 refine bg l.length (λi env rows=>has env [(14,.raw (it (i:Int))),(13,.raw (it (l.length:Int))),(12,.cD (.ar 32 L8) (l.map aU) ex),(5,.ptr M2 3 [0]),(4,.ptr (.ar 32 L8) 1 [0])]/\
  live rows 3=some ⟨M2,[tF (feed B (l.take i).flatten)]⟩/\live rows 1=some ⟨.ar 32 L8,[.agg (.ar 32 L8) (bs uc)]⟩) ?_ ?_ ⟨?_,rfl,rfl⟩
 ·rintro i hi env rows ⟨hh,r3,r1⟩ R hR
  simp only[has]at hh
  have e0:((i:Int)<(l.length:Int))=True:=aaz (by omega)
  have b0:∀n:Nat,((0:Int)<=(n:Int))=True:=λn=>aaz (by omega)
  have e1:=cj i (by omega)
  have hx:=rf _ (abQ hi)
  have g:(l.map aU)[i]?=some (.agg (.ar 32 L8) (bs l[i])):=by simp[aU,hi]
  have hs:=ZK i hi
  generalize l[i]=xi at*
  have r3A:=λL=>aj r3 L
  simp only[↓ag,ah,simprocAttr,aQ,hh,e0,e1,b0,aaC,g,r3A,h3]
  refine Eq.mpr (kU _ _ _ _ xi (bd.tJ (n:=32) (by rw[bx];rfl) rfl hx) (hok i)) ?_
  rw[hs]
  simp only[↓ag,ah,simprocAttr,aQ,hh,e1,r3A,m9]
  exact hR _ _ ⟨by simp only[has,↓ag,ah,simprocAttr,hh],aE (r3A _),cE (aj r1 _) (by decide)⟩
 ·rintro env rows ⟨hh,r3,r1⟩ R
  simp only[has]at hh
  have e0:((l.length:Int)<(l.length:Int))=False:=aaI (by omega)
  have w1:=λx=>aE (y:=x) r1
  simp only[↓ag,ah,simprocAttr,aQ,hh,e0,r3,r1,h4,Au _ _ _ (hok _),e,w1]
  exact .val _ rfl
 ·simp only[has,↓ag,ah,simprocAttr]
theorem kFold(rows:Rows)(k:D->Rows->Prop)(s:Site)(d:D)(l:List (List (BitVec 8)))(hd:bF rows (oG (.ar 32 L8) aU) d l)(iD:s.id.length=16)(rf:∀x∈l,x.length=32)(Gp:l.length<=1000000):
  aK OB rows k [fg s,d]=k (.agg (.ar 32 L8) (bs (ER s.id s.q l))) rows:=by
 refine(kn (kq s rows) hd (by simp[iD,tK.2 rf,Gp]) rfl k).trans ?_
 simp[aU,shift,ab,Sh.pure]
end iZ
end Go.Am

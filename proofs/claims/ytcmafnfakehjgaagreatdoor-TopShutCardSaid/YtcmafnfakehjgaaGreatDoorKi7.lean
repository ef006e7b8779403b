import Derived.Test.YtcmafnfakehjgaaGreatDoorKi6
set_option linter.unusedSimpArgs false
set_option linter.unusedVariables false
set_option maxRecDepth 10000
namespace Go.Am
attribute [local congr] cJ bI cK bJ bK b6 bw bN bO b7 bi b8 bP cI
namespace kj
open Go.Am.F
noncomputable abbrev P:Program:=Go.Proofs.Tryz.prog
def XY:Fn:=zy eP u9 (λa n=>Nat.ble a.length 9223372036854775807&&Nat.ble (a.take n.toNat).length most) λa n=>eR (a.take n.toNat) false
theorem cut_ok(C:aU)(hC:aI C P):aQ C.aZ P 59 (Fn.run XY):=by
 refine aJ (Qa C hC) λds rows r h=>?_
 obtain⟨d,e,a,n,rfl,rfl,hd,he,hp,rfl⟩:=dS h
 have ha:=fC hd
 cases bX he
 simp only[aan,abD]at hp
 obtain⟨hp,qL⟩:=hp
 unfold most at qL
 rw[aau]at qL
 refine⟨rfl,ae rfl ?_⟩
 unfold FO FP
 simp only[↓ag,ah,simprocAttr,ha.dW]
 refine qM (λk env rows=>∃(i:Nat) (x:D),k=a.length-i/\i<=a.length/\has env [(1,.raw (it n)),(8,d),(5,x),(9,.raw (it a.length)),(10,.raw (it i))]/\jy (.leaf u5) x rows (bs ((a.take i).take n.toNat))) ?_ a.length ⟨0,_,by simp,by omega,?_,.inl ⟨by simp[bs],rfl⟩⟩
 ·rintro k env rows ⟨i,x,rfl,hi,hh,how⟩ R hR
  simp only[has]at hh
  obtain⟨h1,h8,h5,h9,h10,-⟩:=hh
  simp only[↓ag,ah,simprocAttr,h1,h8,h5,h9,h10]
  by_cases hlt:(i:Int)<a.length
  ·have hii:i<a.length:=by omega
   have ea:∀(k:D->Rows->Prop) rows,pC (.leaf (.int .u8)) (i:Int) rows k d=k (.cb (.raw (u8 (a.getD i 0#8)))) rows:=λk rows=>by have:=hJ (k:=k) (rows:=rows) (n:=i) ha (by omega);simpa using this
   have hw:wz ((i:Int)+1)=((i+1:Nat):Int):=by rw[bh (by omega)];omega
   simp only[↓ag,ah,simprocAttr,hlt,aaD,h1,h8,h5,h9,h10,ea]
   by_cases hin:(i:Int)<n
   ·simp only[↓ag,ah,simprocAttr,hin,aaD,h1,h8,h5,h9,h10,hw]
    have zw:=aa3 (List.length_take_le' n.toNat (a.take i)) (acI i a)
    refine lg how.push (by rw[aE];simp only[aaP,aaV];unfold most;omega) (by rw[aE];simp only[aaP,aaV];unfold most;omega) ?_
    intro x' aa how' _ _ _
    simp only[↓ag,ah,simprocAttr,h1,h8,h5,h9,h10,hw]
    refine hR (a.length-(i+1)) _ _ (by omega) ⟨i+1,x',rfl,by omega,?_,?_⟩
    ·simp only[has,↓ag,ah,simprocAttr,h1,h8,h5,h9,h10]
    ·have:bs ((a.take (i+1)).take n.toNat)=bs ((a.take i).take n.toNat)++[.raw (u8 (a.getD i 0#8))]:=by
      have e1:(a.take (i+1)).take n.toNat=a.take (i+1):=aar (by simp;omega)
      have e2:(a.take i).take n.toNat=a.take i:=aar (by simp;omega)
      rw[e1,e2,rz (z:=0#8) hii,Vv]
     rw[this];exact how'
   ·simp only[↓ag,ah,simprocAttr,hin,aaE,h1,h8,h5,h9,h10,hw]
    refine hR (a.length-(i+1)) _ _ (by omega) ⟨i+1,x,rfl,by omega,?_,?_⟩
    ·simp only[has,↓ag,ah,simprocAttr,h1,h8,h5,h9,h10]
    ·have:(a.take (i+1)).take n.toNat=(a.take i).take n.toNat:=by
      rw[aco,aco];congr 1;omega
     rw[this];exact how
  ·have hie:i=a.length:=by omega
   simp only[↓ag,ah,simprocAttr,hlt,aaE,h1,h8,h5,h9,h10,how.qc]
   rw[hie,aa8]at how
   exact how.No
 ·simp only[has,↓ag,ah,simprocAttr]
def I9:Nat->BitVec 64->List (BitVec 8)
 |0,_=>[]
 |k+1,n=>I9 k (n/256#64)++[(n %256#64).setWidth 8]
theorem rep_get{α:Type}(x:α)(i:Nat)(l:List α):(x::(List.replicate i x++l))[i]?=some x:=by
 induction i with
 |zero=>rfl
 |succ i ih=>simpa[ac3]using ih
theorem rep_set{α:Type}(x v:α)(i:Nat)(l:List α):(x::(List.replicate i x++l)).set i v=List.replicate i x++v::l:=by
 induction i with
 |zero=>rfl
 |succ i ih=>simpa[ac3]using ih
def VB:Fn:=zy PX u9 (λ_ k=>decide (0<=k)&&decide (k<=1099511627776)) λn k=>eR (I9 k.toNat n) false
theorem num_sl(C:aU)(hC:aI C P):aQ C.aZ P 115 (Fn.run VB):=by
 refine aJ (Qc C hC) λds rows r h=>?_
 obtain⟨d,e,n,k,rfl,rfl,hd,he,hp,rfl⟩:=dS h
 cases qN hd
 cases bX he
 simp only[aan,aaq]at hp
 obtain⟨Bb,qL⟩:=hp
 obtain⟨k,rfl⟩:=aaH Bb
 clear h hd he
 refine⟨rfl,ae rfl ?_⟩
 unfold FQ FR
 have hw:wz ((k:Int)-1)=(k:Int)-1:=bh (by omega)
 simp only[↓ag,ah,simprocAttr,Bb,qL,hw,Int.mul_one,aaz]
 refine qM (λq env rows=>∃(i:Nat) (m:BitVec 64) (suf:List (BitVec 8)),q=i/\i<=k/\has env [(0,.raw (u64 m)),(5,.sl (.leaf u5) 0 [] 0 k true),(6,.raw (it ((i:Int)-1)))]/\rows=[some ⟨.leaf u5,List.replicate i (.raw (u8 0#8))++bs suf⟩]/\I9 k n=I9 i m++suf/\i+suf.length=k) ?_ k ⟨k,n,[],rfl,aax _,?_,?_,by simp,by simp⟩
 ·rintro q env rows ⟨i,m,suf,rfl,hi,hh,rfl,hnum,hlen⟩ R hR
  simp only[has]at hh
  obtain⟨h0,h5,h6,-⟩:=hh
  simp only[↓ag,ah,simprocAttr,h0,h5,h6]
  cases q with
  |zero=>
   have h00:decide ((0:Int)<=((0:Nat):Int)-1)=false:=by simp
   simp only[↓ag,ah,simprocAttr,h00,h0,h5,h6]
   have hn:I9 k n=suf:=by simpa[I9]using hnum
   have hk:k=suf.length:=by omega
   rw[hn,hk]
   exact .own _ 0 0 _ true false _ rfl rfl (λh=>by cases h)
  |succ i=>
   have h1:decide ((0:Int)<=((i+1:Nat):Int)-1)=true:=by simp
   have h2:(((i+1:Nat):Int)-1).toNat=i:=by omega
   have h3:((0:Int)<=((i+1:Nat):Int)-1)=True:=aas (by omega)
   have h4:(((i+1:Nat):Int)-1<(k:Int))=True:=aas (by omega)
   have h7:wz ((((i+1:Nat):Int)-1)-1)=(i:Int)-1:=by rw[bh (by omega)];omega
   simp only[↓ag,ah,simprocAttr,h1,h2,h3,h4,h7,h0,h5,h6,rep_get,rep_set]
   refine hR i _ _ (by omega) ⟨i,m/256#64,(m %256#64).setWidth 8::suf,rfl,by omega,?_,?_,?_,by simp;omega⟩
   ·simp only[has,↓ag,ah,simprocAttr,h0,h5,h6]
   ·simp[bs]
   ·rw[hnum];simp[I9]
 ·simp only[has,↓ag,ah,simprocAttr]
 ·simp[bs]
def bz(n:BitVec 32):List (BitVec 8):=[(n>>>24).setWidth 8,(n>>>16).setWidth 8,(n>>>8).setWidth 8,n.setWidth 8]
def dZ(p:List (BitVec 8)):BitVec 32:=(p.getD 0 0#8).setWidth 32<<<24|||(p.getD 1 0#8).setWidth 32<<<16|||(p.getD 2 0#8).setWidth 32<<<8|||(p.getD 3 0#8).setWidth 32
theorem num4(n:BitVec 32):I9 4 (n.setWidth 64)=bz n:=by
 have hn:=n.isLt
 simp only[I9,bz,aaZ,abu,abS,acW]
 refine⟨?_,?_,?_,?_⟩<;>apply aaL<;>simp[aec,abC,abF,abq]<;>omega
theorem kNum(rows:Rows)(k:D->Rows->Prop)(n:BitVec 32):aG VB rows k [.raw (u64 (n.setWidth 64)),.raw (it 4)]=k (.sl (.leaf u5) (0+rows.length) [] 0 4 false) (rows++[some ⟨.leaf u5,bs (bz n)⟩]):=by
 refine(bk rfl (lF (BT _) (qd 4) (by decide))).trans ?_
 show k (shift rows.length (eR (I9 4 (n.setWidth 64)) false).1) (rows++af rows.length (eR (I9 4 (n.setWidth 64)) false).2)=_
 rw[num4]
 rfl
def qv:D->Option (List (List (BitVec 8)))
 | .dh s l _=>bif s== .ref then eK eP l else none
 | _=>none
theorem vM{d:D}{ls:List (List (BitVec 8))}(h:qv d=some ls):∃l e,d= .dh .ref l e/\eK eP l=some ls:=by
 unfold qv at h
 split at h
 ·rename_i s l e
  cases hb:(s==Sh.ref)with
  |false=>rw[hb]at h;cases h
  |true=>
   rw[hb]at h
   have:s= .ref:=by simpa using hb
   subst this
   exact⟨l,e,rfl,h⟩
 ·cases h
def Dg:Fn:=nv qv (λls=>Nat.ble ls.length most&&Nat.ble ls.flatten.length most) λls=>eR ls.flatten false
theorem join_ok(C:aU)(hC:aI C P):aQ C.aZ P 29 (Fn.run Dg):=by
 refine aJ (Nw C hC) λds rows r h=>?_
 obtain⟨d,ls,rfl,rfl,hd,hp,rfl⟩:=bd h
 obtain⟨l,e,rfl,hl⟩:=vM hd
 simp only[aan,abD]at hp
 obtain⟨Bb,qL⟩:=hp
 unfold most at Bb qL
 obtain⟨hlen,lp⟩:=lC hl
 clear h hd
 refine⟨rfl,ae rfl ?_⟩
 unfold B2 B4
 simp only[↓ag,ah,simprocAttr]
 refine qM (λk env rows=>∃(i:Nat) (x:D),k=l.length-i/\i<=l.length/\has env [(6,.dh .ref l e),(3,x),(7,.raw (it l.length)),(8,.raw (it i))]/\jy (.leaf u5) x rows (bs (ls.take i).flatten)) ?_ l.length ⟨0,_,by simp,by omega,?_,.inl ⟨by simp[bs],rfl⟩⟩
 ·rintro k env rows ⟨i,x,rfl,hi,hh,how⟩ R hR
  simp only[has]at hh
  obtain⟨h6,h3,h7,h8,-⟩:=hh
  simp only[↓ag,ah,simprocAttr,h6,h3,h7,h8]
  by_cases hlt:i<l.length
  ·have TB:((i:Int)<(l.length:Int))=True:=aas (by omega)
   have hlt2:i<ls.length:=by omega
   have hw:wz ((i:Int)+1)=((i+1:Nat):Int):=by rw[bh (by omega)];omega
   have hli:l[i]?=some l[i]:=aao hlt
   have hb:=fC (lp i _ _ hli (aao hlt2))
   have h0i:((0:Int)<=(i:Int))=True:=aas (by omega)
   have hfit:D.fits l[i] .ref=true:=by rcases hb with⟨h,_⟩|⟨e,h⟩<;>rw[h]<;>rfl
   have hsrc:∀rows,pw rows (.leaf (.int .u8)) l[i]=some (bs ls[i]):=by
    intro rows
    rcases hb with⟨h,h2⟩|⟨e,h⟩
    ·rw[h,h2];rfl
    ·rw[h];simp[pw,Am.fg,Am.elems]
   simp only[↓ag,ah,simprocAttr,TB,aaD,h6,h3,h7,h8,hli,h0i,hfit,hsrc,hb.dW,aE]
   have e1:(ls.take (i+1)).flatten=(ls.take i).flatten++ls[i]:=by
    rw[aaX hlt2,abW,abZ,acb,aaS]
   have e2:((ls.take (i+1)).flatten).length<=ls.flatten.length:=by
    have:ls=ls.take (i+1)++ls.drop (i+1):=(abj _ _).symm
    calc ((ls.take (i+1)).flatten).length<=((ls.take (i+1)++ls.drop (i+1)).flatten).length:=by simp only[abW,aap];omega
     _=ls.flatten.length:=by rw[<-this]
   have e3:((ls.take (i+1)).flatten).length=((ls.take i).flatten).length+ls[i].length:=by rw[e1,aap]
   refine lg how (by rw[aE,aE];unfold most;omega) (by rw[aE,aE];unfold most;omega) ?_
   intro x' aa how' _ _ _
   simp only[↓ag,ah,simprocAttr,h6,h3,h7,h8,hw]
   refine hR (l.length-(i+1)) _ _ (by omega) ⟨i+1,x',rfl,by omega,?_,?_⟩
   ·simp only[has,↓ag,ah,simprocAttr,h6,h3,h7,h8]
   ·rw[e1,<-qe];exact how'
  ·have hie:i=l.length:=by omega
   have TB:((i:Int)<(l.length:Int))=False:=aaw (by omega)
   simp only[↓ag,ah,simprocAttr,TB,aaE,h6,h3,h7,h8,how.qc]
   rw[hie,<-hlen,aa8]at how
   exact how.No
 ·simp only[has,↓ag,ah,simprocAttr]
theorem aY.sub{rows:Rows}{r off len:Nat}{ex:Bool}{l:List (BitVec 8)}(h:live rows r=some ⟨.leaf u5,bs l⟩)(hle:off+len<=l.length):aY rows (.sl (.leaf u5) r [] off len ex) ((l.drop off).take len):=by
 refine⟨⟨.dh (.leaf u5) (bs ((l.drop off).take len)) ex,?_,.inr ⟨ex,rfl⟩⟩,λh=>by simp[bb]at h⟩
 simp only[Am.view]
 have:Am.elems rows (.sl (.leaf u5) r [] off len ex)=some (bs ((l.drop off).take len)):=by simp only[Am.elems,h];simp[bs]
 rw[this]
 have hl:(bs ((l.drop off).take len)).length=len:=by simp[bs];omega
 simp[Sh.pure,hl]
theorem aA{rows:Rows}{r r':Nat}{x:Option Row}(h:r≠r'):live (rows.set r x) r'=live rows r':=by
 simp only[live,ab7 h]
theorem aY.push{rows more:Rows}{d:D}{l:List (BitVec 8)}(h:jy (.leaf u5) d rows (bs l)):aY (rows++more) d l:=h.push.to
theorem aY.own{rows:Rows}{r:Nat}{ex:Bool}{l:List (BitVec 8)}(h:live rows r=some ⟨L8,bs l⟩)(n:Nat)(hn:n=l.length):aY rows (.sl L8 r [] 0 n ex) l:=by
 subst hn
 exact jy.to (.inr ⟨r,ex,by rw[aE],h⟩)
theorem NS(a b i:Nat)(h:b<2^i):a<<<i|||b=a*2^i+b:=by
 rw[<-Nat.shiftLeft_add_eq_or_of_lt h,acC]
theorem Qt(a b c d:BitVec 8):(dZ [a,b,c,d]).toNat=a.toNat*16777216+b.toNat*65536+c.toNat*256+d.toNat:=by
 have ha:=a.isLt
 have hb:=b.isLt
 have hc:=c.isLt
 have hd:=d.isLt
 have e:(dZ [a,b,c,d]).toNat=a.toNat<<<24|||b.toNat<<<16|||c.toNat<<<8|||d.toNat:=by
  simp only[dZ,List.getD_cons_zero,List.getD_cons_succ,adA,acq,abF,acC]
  rw[abo (a:=a.toNat %2^32*2^24) (by omega),abo (a:=b.toNat %2^32*2^16) (by omega),abo (a:=c.toNat %2^32*2^8) (by omega),
   abo (a:=a.toNat) (by omega),abo (a:=b.toNat) (by omega),abo (a:=c.toNat) (by omega),abo (a:=d.toNat) (by omega)]
 rw[e,Nat.or_assoc,Nat.or_assoc,NS c.toNat d.toNat 8 (by omega),NS b.toNat _ 16 (by omega),NS a.toNat _ 24 (by omega)]
 omega
theorem word_num(a b c d:BitVec 8):bz (dZ [a,b,c,d])=[a,b,c,d]:=by
 have h:=Qt a b c d
 have ha:=a.isLt
 have hb:=b.isLt
 have hc:=c.isLt
 have hd:=d.isLt
 simp only[bz,abS,acW]
 refine⟨?_,?_,?_,?_⟩<;>apply aaL<;>simp only[abF,abU,h,abq]<;>omega
theorem qR(p:List (BitVec 8))(n:Nat)(h:4<=n):dZ (p.take n)=dZ p:=by
 unfold dZ
 simp only[aay]
 rw[abn (by omega),abn (by omega),abn (by omega),abn (by omega)]
theorem XZ(p:List (BitVec 8))(n:Nat):dZ (p.drop n)=dZ [p.getD n 0#8,p.getD (n+1) 0#8,p.getD (n+2) 0#8,p.getD (n+3) 0#8]:=by
 simp only[dZ,aay,aa5,adb,abG,ab1,adt]
def ub(l:List (BitVec 8)):List UInt8:=l.map λb=>UInt8.ofNat b.toNat
theorem VC(l:List (BitVec 8)):eK toByte (bs l)=some (ub l):=by
 induction l with
 |nil=>rfl
 | cons a l ih =>
  have h1:toByte (.raw (u8 a))=some (UInt8.ofNat a.toNat):=by
   simp only[u8,toByte,aaz]
  simp only[bs,abm,eK,h1]at ih⊢
  rw[ih]
  rfl
theorem ub_inj(a b:List (BitVec 8)):ub a=ub b↔a=b:=by
 constructor
 ·intro h
  refine(adh λx y hxy=>?_).1 h
  have h2:=ach UInt8.toNat hxy
  have hx:=x.isLt
  have hy:=y.isLt
  rw[UInt8.toNat_ofNat',UInt8.toNat_ofNat']at h2
  exact aaL (by omega)
 ·rintro rfl;rfl
theorem ub_beq(a b:List (BitVec 8)):(ub a==ub b)=decide (a=b):=by
 by_cases h:a=b
 ·subst h;simp
 ·have:ub a≠ub b:=λe=>h ((ub_inj a b).1 e)
  simp[h,this]
def aggO(off len:Nat):D->Option (List D)
 | .agg _ l=>some ((l.drop off).take len)
 | _=>none
theorem Qu(off len s l):aggO off len (.agg s l)=some ((l.drop off).take len):=aav rfl rfl
theorem el_sp(rows:Rows)(s r i p off len ex):elems rows (.sl s r (i::p) off len ex)=(live rows r).bind λrow=>(cM row.els (i::p)).bind (aggO off len):=by
 simp only[elems]
 cases live rows r with
 |none=>rfl
 |some row=>
  simp only[abg]
  cases cM row.els (i::p)with
  |none=>rfl
  |some d=>cases d<;>rfl
def us(l:List (BitVec 32)):List D:=l.map λx=> .raw (u32 x)
theorem oV(l:List (BitVec 32)):(us l).length=l.length:=by simp[us]
theorem lM{l:List (BitVec 32)}{i:Nat}(h:i<l.length):(us l)[i]?=some (.raw (u32 (l.getD i 0#32))):=by
 simp[us,abl,h]
theorem NT(l:List (BitVec 32))(i:Nat)(x:BitVec 32):(us l).set i (.raw (u32 x))=us (l.set i x):=by simp[us,acr]
theorem us_inj{a b:List (BitVec 32)}(h:us a=us b):a=b:=(adh λx y hxy=>by cases(D.raw.inj hxy:u32 x=u32 y)|>lV.1;rfl).1 h
theorem TC(a b:List (BitVec 32)):us a++us b=us (a++b):=by simp[us]
theorem us_rep(n:Nat)(x:BitVec 32):List.replicate n (D.raw (u32 x))=us (List.replicate n x):=by simp[us]
theorem bs_rep(n:Nat)(x:BitVec 8):List.replicate n (D.raw (u8 x))=bs (List.replicate n x):=by simp[bs]
theorem yg{a b:List (BitVec 8)}(h:bs a=bs b):a=b:=(adh λx y hxy=>by cases(D.raw.inj hxy:u8 x=u8 y)|>AQ.1;rfl).1 h
def X0(l:List (BitVec 32)):D:= .agg (.ar 8 cN) (us l)
def X1(l:List (BitVec 32)):D:= .agg (.ar 64 cN) (us l)
def NU(l:List (BitVec 8)):D:= .agg (.ar 64 L8) (bs l)
def aV(l:List (BitVec 8)):D:= .agg (.ar 32 L8) (bs l)
theorem VD(x y:List (BitVec 32))(h:X0 x=X0 y):x=y:=by unfold X0 at h;injection h with _ h;exact us_inj h
theorem Ja(x y:List (BitVec 8))(h:NU x=NU y):x=y:=by unfold NU at h;injection h with _ h;exact yg h
theorem Dh(x y:List (BitVec 8))(h:aV x=aV y):x=y:=by unfold aV at h;injection h with _ h;exact yg h
def NV(x:BitVec 32)(n:Nat):BitVec 32:=x>>>n|||x<<<(32-n)
def X2:Fn:=zy ry u9 (λ_ k=>decide (-32<k)&&decide (k<0)) λx k=>(.raw (u32 (NV x (-k).toNat)),[])
theorem rot_ok(C:aU)(hC:aI C P):aQ C.aZ P 232 (Fn.run X2):=by
 refine aJ (tL C hC) λds rows r h=>?_
 obtain⟨d,e,x,k,rfl,rfl,hd,he,hp,rfl⟩:=dS h
 cases dY hd
 cases bX he
 simp only[aan,aaq]at hp
 obtain⟨n,hn⟩:=aaH (by omega:0≤-k)
 obtain rfl:k=-(n:Int):=by omega
 refine⟨rfl,ae rfl ?_⟩
 unfold mC mD
 have e1:BitVec.ofInt 64 (-(n:Int))&&&31#64=BitVec.ofNat 64 (32-n):=by
  have:∀m:Fin 32,0<m.val->BitVec.ofInt 64 (-(m.val:Int))&&&31#64=BitVec.ofNat 64 (32-m.val):=by decide
  exact this ⟨n,by omega⟩ (by simp;omega)
 have e2:(BitVec.ofNat 64 (32-n)).toNat=32-n:=by simp;omega
 have e3:(32#64-BitVec.ofNat 64 (32-n)).toNat=n:=by
  rw[adR];simp;omega
 simp only[↓ag,ah,simprocAttr,e1,e2,e3]
 have:x<<<(32-n)|||x>>>n=NV x n:=by rw[NV,BitVec.or_comm]
 rw[this]
 simp only[Int.neg_neg,aaz]
 exact .val _ rfl
theorem KY(rows:Rows)(k:D->Rows->Prop)(x:BitVec 32)(n:Nat)(h0:0<n)(h1:n<32):aG X2 rows k [.raw (u32 x),.raw (it (-(n:Int)))]=k (.raw (u32 (NV x n))) rows:=by
 refine(bk rfl (r:=(.raw (u32 (NV x n)),[])) ?_).trans ?_
 ·rw[X2,lF (fL x) (qd _) (by simp;omega)];simp
 ·simp[shift,af]
def VE:Fn:=nv eP (λa=>Nat.ble 4 a.length) λa=>(.raw (u32 (dZ a)),[])
theorem word_ok(C:aU)(hC:aI C P):aQ C.aZ P 240 (Fn.run VE):=by
 refine aJ (Tw C hC) λds rows r h=>?_
 obtain⟨d,a,rfl,rfl,hd,hp,rfl⟩:=bd h
 have ha:=fC hd
 simp only[abD]at hp
 refine⟨rfl,ae rfl ?_⟩
 unfold IY IZ
 have e0:∀(k:D->Rows->Prop) rows,pC (.leaf (.int .u8)) 0 rows k d=k (.cb (.raw (u8 (a.getD 0 0#8)))) rows:=λk rows=>by have:=hJ (k:=k) (rows:=rows) (n:=0) ha (by omega);simpa using this
 have e1:∀(k:D->Rows->Prop) rows,pC (.leaf (.int .u8)) 1 rows k d=k (.cb (.raw (u8 (a.getD 1 0#8)))) rows:=λk rows=>by have:=hJ (k:=k) (rows:=rows) (n:=1) ha (by omega);simpa using this
 have e2:∀(k:D->Rows->Prop) rows,pC (.leaf (.int .u8)) 2 rows k d=k (.cb (.raw (u8 (a.getD 2 0#8)))) rows:=λk rows=>by have:=hJ (k:=k) (rows:=rows) (n:=2) ha (by omega);simpa using this
 have e3:∀(k:D->Rows->Prop) rows,pC (.leaf (.int .u8)) 3 rows k d=k (.cb (.raw (u8 (a.getD 3 0#8)))) rows:=λk rows=>by have:=hJ (k:=k) (rows:=rows) (n:=3) ha (by omega);simpa using this
 simp only[↓ag,ah,simprocAttr,e0,e1,e2,e3]
 exact .val _ rfl
theorem aY.arr{rows:Rows}{r n off len:Nat}{e:Bool}{l:List (BitVec 8)}(h:live rows r=some ⟨.ar n L8,[.agg (.ar n L8) (bs l)]⟩)(hle:off+len<=l.length):aY rows (.sl L8 r [0] off len e) ((l.drop off).take len):=by
 refine⟨⟨.dh L8 (bs ((l.drop off).take len)) e,?_,.inr ⟨e,rfl⟩⟩,λh=>by simp[bb]at h⟩
 have h2:Am.elems rows (.sl L8 r [0] off len e)=some (bs ((l.drop off).take len)):=by
  simp only[elems,h,cM]
  simp[bs,D.get]
 simp only[Am.view]
 rw[h2]
 have hl:(bs ((l.drop off).take len)).length=len:=by simp[bs];omega
 simp[Sh.pure,hl]
theorem kWord(rows:Rows)(k:D->Rows->Prop)(d:D)(a:List (BitVec 8))(h:aY rows d a)(hl:4<=a.length):aG VE rows k [d]=k (.raw (u32 (dZ a))) rows:=by
 refine(qO h (by simpa using hl) rfl).trans ?_
 simp[shift,af]
def sg0(a:BitVec 32):BitVec 32:=NV a 7^^^NV a 18^^^a>>>3
def sg1(a:BitVec 32):BitVec 32:=NV a 17^^^NV a 19^^^a>>>10
def nxt(w:List (BitVec 32))(i:Nat):BitVec 32:=w.getD (i-16) 0#32+sg0 (w.getD (i-15) 0#32)+w.getD (i-7) 0#32+sg1 (w.getD (i-2) 0#32)
def words(n:Nat)(b:List (BitVec 8)):List (BitVec 32):=(List.range n).map λi=>dZ ((b.drop (4*i)).take 4)
def Bn:Nat->List (BitVec 32)->List (BitVec 32)
 |0,w=>w
 |n+1,w=>Bn n w++[nxt (Bn n w) (Bn n w).length]
theorem NW(n:Nat)(w:List (BitVec 32)):(Bn n w).length=w.length+n:=by
 induction n with
 |zero=>rfl
 |succ n ih=>simp[Bn,ih];omega
theorem fH(n:Nat)(b:List (BitVec 8)):(words n b).length=n:=by simp[words]
theorem Bc(n:Nat)(b:List (BitVec 8)):words (n+1) b=words n b++[dZ ((b.drop (4*n)).take 4)]:=by simp[words,abL]
def qF(b:List (BitVec 8)):List (BitVec 32):=Bn 48 (words 16 b)
def fill(l:List (BitVec 32))(n:Nat):List (BitVec 32):=l++List.replicate (n-l.length) 0#32
theorem Qv{l:List (BitVec 32)}{n:Nat}(h:l.length<=n):(fill l n).length=n:=by simp[fill];omega
theorem fill_get{l:List (BitVec 32)}{n i:Nat}(h:i<l.length):(fill l n).getD i 0#32=l.getD i 0#32:=by
 simp[fill,List.getD,aaM h]
theorem Qw{l:List (BitVec 32)}{n:Nat}(h:l.length<n)(x:BitVec 32):(fill l n).set l.length x=fill (l++[x]) n:=by
 obtain⟨k,hk⟩:∃k,n-l.length=k+1:=⟨n-l.length-1,by omega⟩
 have h2:n-(l++[x]).length=k:=by simp;omega
 rw[fill,fill,hk,h2,ac3,acg _ _ (aax _)]
 simp
theorem X3{l:List (BitVec 32)}{n:Nat}(h:l.length=n):fill l n=l:=by simp[fill,h]
noncomputable def Hb:Fn:=nv (cj NU) (λb=>decide (b.length=64)) λb=>(X1 (qF b),[])
theorem X4(C:aU)(hC:aI C P)(hw:C.fn 240=some VE)(hr:C.fn 232=some X2):aQ C.aZ P 231 (Fn.run Hb):=by
 refine aJ (NL C hC) λds rows r h=>?_
 obtain⟨d,b,rfl,rfl,hd,hp,rfl⟩:=bd h
 cases aH hd
 simp only[aaq]at hp
 refine⟨rfl,ae rfl ?_⟩
 clear h hd
 unfold CV CW
 have hb:(bs b).length=64:=by rw[aE,hp]
 simp only[NU,↓ag,ah,simprocAttr]
 refine bx 16 (λi env rows=>has env [(10,.raw (it (i:Int))),(1,.ptr (.ar 64 L8) 0 [0]),(2,.ptr (.ar 64 cN) 1 [0]),(3,.ptr (.ar 64 cN) 2 [0])]/\
  ∃z,rows=[some ⟨.ar 64 L8,[.agg (.ar 64 L8) (bs b)]⟩,some ⟨.ar 64 cN,[z]⟩,some ⟨.ar 64 cN,[.agg (.ar 64 cN) (us (fill (words i b) 64))]⟩]) ?_ ?_ ⟨?_,.agg (.ar 64 cN) (List.replicate 64 (.raw (u32 0#32))),?_⟩
 ·rintro i hi env rows ⟨hh,z,rfl⟩ R hR
  simp only[has]at hh
  obtain⟨h10,h1,h2,h3,-⟩:=hh
  have e0:((i:Int)<16)=True:=aas (by omega)
  have e1:((0:Int)<=4*(i:Int))=True:=aas (by omega)
  have e2:wz (4*(i:Int))=4*(i:Int):=bh (by omega)
  have e3:wz (4*(i:Int)+4)=4*(i:Int)+4:=bh (by omega)
  have e4:(4*(i:Int)<=4*(i:Int)+4)=True:=aas (by omega)
  have e5:(4*(i:Int)+4<=64)=True:=aas (by omega)
  have e6:(4*(i:Int)).toNat=4*i:=by omega
  have e7:(4*(i:Int)+4).toNat=4*i+4:=by omega
  have e8:4*i+4-4*i=4:=by omega
  have e9:((0:Int)<=(i:Int))=True:=aas (by omega)
  have e10:((i:Int)<64)=True:=aas (by omega)
  have e11:=cG i (by omega)
  simp only[↓ag,ah,simprocAttr,h10,h1,h2,h3,hw,e0,e1,e2,e3,e4,e5,e6,e7,e8,aaD]
  refine Eq.mpr (kWord _ _ _ _ (aY.arr rfl (by omega)) (by rw[aau,aat];omega)) ?_
  have eg:(us (fill (words i b) 64))[i]?=some (.raw (u32 ((fill (words i b) 64).getD i 0#32))):=lM (by rw[Qv (by rw[fH];omega)];omega)
  have es:(us (fill (words i b) 64)).set i (.raw (u32 (dZ ((b.drop (4*i)).take 4))))=us (fill (words (i+1) b) 64):=by
   have:=Qw (l:=words i b) (n:=64) (by rw[fH];omega) (dZ ((b.drop (4*i)).take 4))
   rw[fH]at this
   rw[NT,this,<-Bc]
  simp only[↓ag,ah,simprocAttr,h10,h1,h2,h3,e9,e10,e11,eg,es]
  exact hR _ _ ⟨by simp only[has,↓ag,ah,simprocAttr,h1,h2,h3],z,rfl⟩
 ·rintro env rows ⟨hh,z,rfl⟩ R
  simp only[has]at hh
  obtain⟨h10,h1,h2,h3,-⟩:=hh
  simp only[↓ag,ah,simprocAttr,h10,h1,h2,h3]
  refine bx 48 (λi env rows=>has env [(5,.raw (it ((16+i:Nat):Int))),(1,.ptr (.ar 64 L8) 0 [0]),(2,.ptr (.ar 64 cN) 1 [0]),(3,.ptr (.ar 64 cN) 2 [0])]/\
   rows=[some ⟨.ar 64 L8,[.agg (.ar 64 L8) (bs b)]⟩,some ⟨.ar 64 cN,[z]⟩,some ⟨.ar 64 cN,[.agg (.ar 64 cN) (us (fill (Bn i (words 16 b)) 64))]⟩]) ?_ ?_ ⟨?_,rfl⟩
  ·rintro i hi env rows ⟨hh,rfl⟩ R hR
   simp only[has]at hh
   obtain⟨h5,h1,h2,h3,-⟩:=hh
   have hlen:(Bn i (words 16 b)).length=16+i:=by rw[NW,fH]
   have qj:(fill (Bn i (words 16 b)) 64).length=64:=Qv (by omega)
   have e0:(((16+i:Nat):Int)<64)=True:=aas (by omega)
   have a1:wz (((16+i:Nat):Int)-15)=((16+i-15:Nat):Int):=by rw[bh (by omega)];omega
   have a2:wz (((16+i:Nat):Int)-2)=((16+i-2:Nat):Int):=by rw[bh (by omega)];omega
   have a3:wz (((16+i:Nat):Int)-16)=((16+i-16:Nat):Int):=by rw[bh (by omega)];omega
   have a4:wz (((16+i:Nat):Int)-7)=((16+i-7:Nat):Int):=by rw[bh (by omega)];omega
   have b1:∀j:Nat,((0:Int)<=(j:Int))=True:=λj=>aas (by omega)
   have c1:(((16+i-15:Nat):Int)<64)=True:=aas (by omega)
   have c2:(((16+i-2:Nat):Int)<64)=True:=aas (by omega)
   have c3:(((16+i-16:Nat):Int)<64)=True:=aas (by omega)
   have c4:(((16+i-7:Nat):Int)<64)=True:=aas (by omega)
   have gg:∀j,j<16+i->(us (fill (Bn i (words 16 b)) 64))[j]?=some (.raw (u32 ((Bn i (words 16 b)).getD j 0#32))):=λj hj=>by
    rw[lM (by omega),fill_get (by omega)]
   have g1:=gg (16+i-15) (by omega)
   have g2:=gg (16+i-2) (by omega)
   have g3:=gg (16+i-16) (by omega)
   have g4:=gg (16+i-7) (by omega)
   have g5:(us (fill (Bn i (words 16 b)) 64))[16+i]?=some (.raw (u32 ((fill (Bn i (words 16 b)) 64).getD (16+i) 0#32))):=lM (by omega)
   have r1:=λrows k x=>KY rows k x 7 (by decide) (by decide)
   have r2:=λrows k x=>KY rows k x 18 (by decide) (by decide)
   have r3:=λrows k x=>KY rows k x 17 (by decide) (by decide)
   have r4:=λrows k x=>KY rows k x 19 (by decide) (by decide)
   simp only[aby]at r1 r2 r3 r4
   have es:(us (fill (Bn i (words 16 b)) 64)).set (16+i) (.raw (u32 (nxt (Bn i (words 16 b)) (16+i))))=us (fill (Bn (i+1) (words 16 b)) 64):=by
    have:=Qw (l:=Bn i (words 16 b)) (n:=64) (by omega) (nxt (Bn i (words 16 b)) (16+i))
    rw[hlen]at this
    rw[NT,this,Bn,hlen]
   have e11:wz (((16+i:Nat):Int)+1)=((16+(i+1):Nat):Int):=by rw[bh (by omega)];omega
   have es':(us (fill (Bn i (words 16 b)) 64)).set (16+i) (.raw (u32 ((Bn i (words 16 b)).getD (16+i-16) 0#32+(NV ((Bn i (words 16 b)).getD (16+i-15) 0#32) 7^^^NV ((Bn i (words 16 b)).getD (16+i-15) 0#32) 18^^^(Bn i (words 16 b)).getD (16+i-15) 0#32>>>3)+(Bn i (words 16 b)).getD (16+i-7) 0#32+(NV ((Bn i (words 16 b)).getD (16+i-2) 0#32) 17^^^NV ((Bn i (words 16 b)).getD (16+i-2) 0#32) 19^^^(Bn i (words 16 b)).getD (16+i-2) 0#32>>>10))))=us (fill (Bn (i+1) (words 16 b)) 64):=es
   simp only[↓ag,ah,simprocAttr,h5,h1,h2,h3,hr,e0,a1,a2,a3,a4,b1,c1,c2,c3,c4,g1,g2,g3,g4,g5,r1,r2,r3,r4,e11,es',aaD]
   exact hR _ _ ⟨by simp only[has,↓ag,ah,simprocAttr,h1,h2,h3],rfl⟩
  ·rintro env rows ⟨hh,rfl⟩ R
   simp only[has]at hh
   obtain⟨h5,h1,h2,h3,-⟩:=hh
   simp only[↓ag,ah,simprocAttr,h5,h1,h2,h3]
   rw[X3 (by rw[NW,fH])]
   exact .val _ rfl
  ·have:fill (words 16 b) 64=fill (Bn 0 (words 16 b)) 64:=rfl
   simp only[has,↓ag,ah,simprocAttr,h1,h2,h3]
 ·simp only[has,↓ag,ah,simprocAttr]
 ·rw[us_rep];rfl
def NX:List (BitVec 32):=[0x6a09e667#32,0xbb67ae85#32,0x3c6ef372#32,0xa54ff53a#32,0x510e527f#32,0x9b05688c#32,0x1f83d9ab#32,0x5be0cd19#32]
def tq:List (BitVec 32):=[
 0x428a2f98#32,0x71374491#32,0xb5c0fbcf#32,0xe9b5dba5#32,0x3956c25b#32,0x59f111f1#32,0x923f82a4#32,0xab1c5ed5#32,
 0xd807aa98#32,0x12835b01#32,0x243185be#32,0x550c7dc3#32,0x72be5d74#32,0x80deb1fe#32,0x9bdc06a7#32,0xc19bf174#32,
 0xe49b69c1#32,0xefbe4786#32,0x0fc19dc6#32,0x240ca1cc#32,0x2de92c6f#32,0x4a7484aa#32,0x5cb0a9dc#32,0x76f988da#32,
 0x983e5152#32,0xa831c66d#32,0xb00327c8#32,0xbf597fc7#32,0xc6e00bf3#32,0xd5a79147#32,0x06ca6351#32,0x14292967#32,
 0x27b70a85#32,0x2e1b2138#32,0x4d2c6dfc#32,0x53380d13#32,0x650a7354#32,0x766a0abb#32,0x81c2c92e#32,0x92722c85#32,
 0xa2bfe8a1#32,0xa81a664b#32,0xc24b8b70#32,0xc76c51a3#32,0xd192e819#32,0xd6990624#32,0xf40e3585#32,0x106aa070#32,
 0x19a4c116#32,0x1e376c08#32,0x2748774c#32,0x34b0bcb5#32,0x391c0cb3#32,0x4ed8aa4a#32,0x5b9cca4f#32,0x682e6ff3#32,
 0x748f82ee#32,0x78a5636f#32,0x84c87814#32,0x8cc70208#32,0x90befffa#32,0xa4506ceb#32,0xbef9a3f7#32,0xc67178f2#32]
def rnd(v:List (BitVec 32))(k w:BitVec 32):List (BitVec 32):=
 match v with
 |[a,b,c,d,e,f,g,h]=>
  let t:=h+(NV e 6^^^NV e 11^^^NV e 25)+(e&&&f^^^~~~e&&&g)+k+w
  [t+(NV a 2^^^NV a 13^^^NV a 22)+(a&&&b^^^a&&&c^^^b&&&c),a,b,c,d+t,e,f,g]
 | _=>v
def zG(ws:List (BitVec 32)):Nat->List (BitVec 32)->List (BitVec 32)
 |0,v=>v
 |n+1,v=>rnd (zG ws n v) (tq.getD n 0#32) (ws.getD n 0#32)
theorem eight{v:List (BitVec 32)}(h:v.length=8):∃a b c d e f g i,v=[a,b,c,d,e,f,g,i]:=by
 match v,h with
 |[a,b,c,d,e,f,g,i],_=>exact⟨a,b,c,d,e,f,g,i,rfl⟩
theorem rnd_len(v:List (BitVec 32))(k w:BitVec 32)(h:v.length=8):(rnd v k w).length=8:=by
 obtain⟨a,b,c,d,e,f,g,i,rfl⟩:=eight h;rfl
theorem Jb(ws:List (BitVec 32))(n:Nat)(v:List (BitVec 32))(h:v.length=8):(zG ws n v).length=8:=by
 induction n with
 |zero=>exact h
 |succ n ih=>exact rnd_len _ _ _ ih
def TD(x y:List (BitVec 32))(i:Nat):List (BitVec 32):=(List.zipWith (· + ·) x y).take i++x.drop i
theorem mix_len(x y:List (BitVec 32))(i:Nat)(h:x.length=y.length)(hi:i<=x.length):(TD x y i).length=x.length:=by simp[TD];omega
theorem mix_get(x y:List (BitVec 32))(i:Nat)(h:x.length=y.length)(hi:i<x.length):(TD x y i).getD i 0#32=x.getD i 0#32:=by
 have:((List.zipWith (· + ·) x y).take i).length=i:=by simp;omega
 simp only[TD,List.getD]
 rw[aaO (by omega),this,acj,aa5]
 rfl
theorem mix_set(x y:List (BitVec 32))(i:Nat)(h:x.length=y.length)(hi:i<x.length):(TD x y i).set i (x.getD i 0#32+y.getD i 0#32)=TD x y (i+1):=by
 have hl:((List.zipWith (· + ·) x y).take i).length=i:=by simp;omega
 have e1:x.drop i=x.getD i 0#32::x.drop (i+1):=by
  rw[abp hi];simp[List.getD,hi]
 have e2:(List.zipWith (· + ·) x y).take (i+1)=(List.zipWith (· + ·) x y).take i++[x.getD i 0#32+y.getD i 0#32]:=by
  have hz:i<(List.zipWith (· + ·) x y).length:=by simp;omega
  rw[aaX hz]
  have hy:i<y.length:=by omega
  simp[List.getD,hi,hy]
 rw[TD,TD,e2,acg _ _ (by omega),hl,acj,e1]
 simp
theorem mix_all(x y:List (BitVec 32))(h:x.length=y.length):TD x y x.length=List.zipWith (· + ·) x y:=by
 rw[TD,List.drop_length,aaS,aar (by simp;omega)]
def yh(h:List (BitVec 32))(b:List (BitVec 8)):List (BitVec 32):=List.zipWith (· + ·) h (zG (qF b) 64 h)
theorem schW_len(b:List (BitVec 8)):(qF b).length=64:=by rw[qF,NW,fH]
theorem X5(h:List (BitVec 32))(b:List (BitVec 8))(hh:h.length=8):(yh h b).length=8:=by simp[yh,hh,Jb]
noncomputable def NY:Fn:=zy (cj X0) (cj NU) (λh b=>decide (h.length=8)&&decide (b.length=64)) λh b=>(X0 (yh h b),[])
theorem kSpread(rows:Rows)(k:D->Rows->Prop)(b:List (BitVec 8))(h:b.length=64):aG Hb rows k [.agg (.ar 64 L8) (bs b)]=k (.agg (.ar 64 cN) (us (qF b))) rows:=by
 refine(bk (by simp[aX,bb,Sh.pure]) (r:=(X1 (qF b),[])) ?_).trans ?_
 ·exact fa (bZ Ja b) (by simp[h])
 ·simp[shift,af,X1,Sh.pure]
theorem press_ok(C:aU)(hC:aI C P)(hg:C.aZ 4=some (X1 tq))(hs:C.fn 231=some Hb)(hr:C.fn 232=some X2):aQ C.aZ P 191 (Fn.run NY):=by
 refine aJ (Qk C hC) λds rows r h=>?_
 obtain⟨d,e,h0,b,rfl,rfl,hd,he,hp,rfl⟩:=dS h
 cases aH hd
 cases aH he
 simp only[aan,aaq]at hp
 obtain⟨hp,hb⟩:=hp
 refine⟨rfl,ae rfl ?_⟩
 clear h hd he
 unfold F4 F5
 simp only[X0,NU,↓ag,ah,simprocAttr,hs]
 refine Eq.mpr (kSpread _ _ _ hb) ?_
 simp only[↓ag,ah,simprocAttr]
 refine bx 64 (λi env rows=>has env [(17,.raw (it (i:Int))),(16,.agg (.ar 64 cN) (us (qF b))),(2,.ptr (.ar 8 cN) 0 [0]),(4,.ptr (.ar 8 cN) 2 [0]),(5,.ptr (.ar 8 cN) 3 [0])]/\
  ∃z y,rows=[some ⟨.ar 8 cN,[.agg (.ar 8 cN) (us h0)]⟩,some y,some ⟨.ar 8 cN,[z]⟩,some ⟨.ar 8 cN,[.agg (.ar 8 cN) (us (zG (qF b) i h0))]⟩]) ?_ ?_ ⟨?_,_,_,rfl⟩
 ·rintro i hi env rows ⟨hh,z,y,rfl⟩ R hR
  simp only[has]at hh
  obtain⟨h17,h16,h2,h4,h5,-⟩:=hh
  obtain⟨va,vb,vc,vd,ve,vf,vg,vh,hv⟩:=eight (Jb (qF b) i h0 hp)
  have e0:((i:Int)<64)=True:=aas (by omega)
  have e1:((0:Int)<=(i:Int))=True:=aas (by omega)
  have e2:=cG i (by omega)
  have g1:(us (qF b))[i]?=some (.raw (u32 ((qF b).getD i 0#32))):=lM (by rw[schW_len];omega)
  have g2:(us tq)[i]?=some (.raw (u32 (tq.getD i 0#32))):=lM (by simp[tq];omega)
  have r1:=λrows k x=>KY rows k x 6 (by decide) (by decide)
  have r2:=λrows k x=>KY rows k x 11 (by decide) (by decide)
  have r3:=λrows k x=>KY rows k x 25 (by decide) (by decide)
  have r4:=λrows k x=>KY rows k x 2 (by decide) (by decide)
  have r5:=λrows k x=>KY rows k x 13 (by decide) (by decide)
  have r6:=λrows k x=>KY rows k x 22 (by decide) (by decide)
  simp only[aby]at r1 r2 r3 r4 r5 r6
  have hn:us (zG (qF b) (i+1) h0)=us (rnd [va,vb,vc,vd,ve,vf,vg,vh] (tq.getD i 0#32) ((qF b).getD i 0#32)):=by rw[zG,hv]
  rw[hv]
  have hu:us [va,vb,vc,vd,ve,vf,vg,vh]=[.raw (u32 va),.raw (u32 vb),.raw (u32 vc),.raw (u32 vd),.raw (u32 ve),.raw (u32 vf),.raw (u32 vg),.raw (u32 vh)]:=rfl
  simp only[↓ag,ah,simprocAttr,X1,h17,h16,h2,h4,h5,hr,hg,e0,e1,e2,g1,g2,r1,r2,r3,r4,r5,r6,hu,aaD]
  exact hR _ _ ⟨by simp only[has,↓ag,ah,simprocAttr,h16,h2,h4,h5],z,y,by rw[hn];rfl⟩
 ·rintro env rows ⟨hh,z,y,rfl⟩ R
  simp only[has]at hh
  obtain⟨h17,h16,h2,h4,h5,-⟩:=hh
  simp only[↓ag,ah,simprocAttr,h17,h16,h2,h4,h5]
  have hv:=Jb (qF b) 64 h0 hp
  have hq:h0.length=(zG (qF b) 64 h0).length:=by omega
  refine bx 8 (λi env rows=>has env [(107,.raw (it (i:Int))),(2,.ptr (.ar 8 cN) 0 [0]),(4,.ptr (.ar 8 cN) 2 [0]),(5,.ptr (.ar 8 cN) 3 [0])]/\
   rows=[some ⟨.ar 8 cN,[.agg (.ar 8 cN) (us (TD h0 (zG (qF b) 64 h0) i))]⟩,some y,some ⟨.ar 8 cN,[z]⟩,some ⟨.ar 8 cN,[.agg (.ar 8 cN) (us (zG (qF b) 64 h0))]⟩]) ?_ ?_ ⟨?_,by rfl⟩
  ·rintro i hi env rows ⟨hh,rfl⟩ R hR
   simp only[has]at hh
   obtain⟨h7,h2,h4,h5,-⟩:=hh
   have e0:((i:Int)<8)=True:=aas (by omega)
   have e1:((0:Int)<=(i:Int))=True:=aas (by omega)
   have e2:=cG i (by omega)
   have g1:(us (TD h0 (zG (qF b) 64 h0) i))[i]?=some (.raw (u32 (h0.getD i 0#32))):=by
    rw[lM (by rw[mix_len _ _ _ hq (by omega)];omega),mix_get _ _ _ hq (by omega)]
   have g2:(us (zG (qF b) 64 h0))[i]?=some (.raw (u32 ((zG (qF b) 64 h0).getD i 0#32))):=lM (by omega)
   have es:(us (TD h0 (zG (qF b) 64 h0) i)).set i (.raw (u32 (h0.getD i 0#32+(zG (qF b) 64 h0).getD i 0#32)))=us (TD h0 (zG (qF b) 64 h0) (i+1)):=by
    rw[NT,mix_set _ _ _ hq (by omega)]
   simp only[↓ag,ah,simprocAttr,h7,h2,h4,h5,e0,e1,e2,g1,g2,es,aaD]
   exact hR _ _ ⟨by simp only[has,↓ag,ah,simprocAttr,h2,h4,h5],rfl⟩
  ·rintro env rows ⟨hh,rfl⟩ R
   simp only[has]at hh
   obtain⟨h7,h2,h4,h5,-⟩:=hh
   simp only[↓ag,ah,simprocAttr,h7,h2,h4,h5]
   have:TD h0 (zG (qF b) 64 h0) 8=yh h0 b:=by rw[<-hp,mix_all _ _ hq];rfl
   rw[this]
   exact .val _ rfl
  ·simp only[has,↓ag,ah,simprocAttr,h2,h4,h5]
 ·simp only[has,↓ag,ah,simprocAttr]
theorem X6{l:List (BitVec 32)}{i:Nat}(h:i<l.length):l.take (i+1)=l.take i++[l.getD i 0#32]:=rz h
theorem EO(l x:List (BitVec 8))(off:Nat):aP (bs l) off (bs x)=bs (aP l off x):=by
 simp[aP,bs]
theorem Qx{rows:Rows}{r i off len:Nat}{p:List Nat}{ex:Bool}{row:Row}{l src:List (BitVec 8)}{u:Sh}{els:List D}{k:D->Rows->Prop}(hl:live rows r=some row)(hg:cM row.els (i::p)=some (.agg u (bs l)))(hn:off+len<=l.length)
  (hs:mL row.els (i::p) (.agg u (bs (aP l off (src.take (min src.length len)))))=some els):oq rows L8 (.sl L8 r (i::p) off len ex) (bs src) k=k (.raw (it ((min src.length len:Nat):Int))) (rows.set r (some ⟨row.sh,els⟩)):=by
 unfold oq
 simp only[hl,hg,bj,aE,fM,EO,hs,hn,abf]
 rfl
theorem EP{rows:Rows}{r n off len:Nat}{ex:Bool}{l src:List (BitVec 8)}{k:D->Rows->Prop}(hl:live rows r=some ⟨.ar n L8,[.agg (.ar n L8) (bs l)]⟩)(hn:off+len<=l.length):
  oq rows L8 (.sl L8 r [0] off len ex) (bs src) k=k (.raw (it ((min src.length len:Nat):Int))) (rows.set r (some ⟨.ar n L8,[.agg (.ar n L8) (bs (aP l off (src.take (min src.length len))))]⟩)):=
 Qx hl rfl hn rfl
def mo(w:List (BitVec 32)):List (BitVec 8):=(w.map bz).flatten
theorem ze(x:BitVec 32):(bz x).length=4:=rfl
theorem pN(w:List (BitVec 32)):(mo w).length=4*w.length:=by
 induction w with
 |nil=>rfl
 |cons x w ih=>simp only[mo,abm,abZ,aap,aaP]at ih⊢;rw[ih,ze];omega
theorem Qy(a b:List (BitVec 32)):mo (a++b)=mo a++mo b:=by simp[mo]
def r8(l:List (BitVec 8))(n:Nat):List (BitVec 8):=l++List.replicate (n-l.length) 0#8
theorem EQ{l:List (BitVec 8)}{n:Nat}(h:l.length<=n):(r8 l n).length=n:=by simp[r8];omega
theorem vN{l x:List (BitVec 8)}{n:Nat}(h:l.length+x.length<=n):aP (r8 l n) l.length x=r8 (l++x) n:=by
 unfold aP r8
 have h1:(l++List.replicate (n-l.length) 0#8).take l.length=l:=by simp
 have h2:(l++List.replicate (n-l.length) 0#8).drop (l.length+x.length)=List.replicate (n-(l++x).length) 0#8:=by
  rw[aei,acp (by omega),aaZ,adX]
  congr 1;simp;omega
 rw[h1,h2]
theorem TE{l:List (BitVec 8)}{n:Nat}(h:l.length=n):r8 l n=l:=by simp[r8,h]
noncomputable def Di:Fn:=nv (cj X0) (λb=>decide (b.length=8)) λb=>(aV (mo b),[])
theorem X7(C:aU)(hC:aI C P):aQ C.aZ P 192 (Fn.run Di):=by
 refine aJ (NH C hC) λds rows r h=>?_
 obtain⟨d,w,rfl,rfl,hd,hp,rfl⟩:=bd h
 cases aH hd
 simp only[aaq]at hp
 refine⟨rfl,ae rfl ?_⟩
 clear h hd
 unfold Cv Cw
 simp only[X0,↓ag,ah,simprocAttr]
 refine bx 8 (λi env rows=>has env [(7,.raw (it (i:Int))),(6,.agg (.ar 8 cN) (us w)),(1,.ptr (.ar 8 cN) 0 [0]),(2,.ptr (.ar 32 L8) 1 [0]),(3,.ptr (.ar 32 L8) 2 [0])]/\
  (∃z,live rows 1=some ⟨.ar 32 L8,[z]⟩)/\live rows 2=some ⟨.ar 32 L8,[.agg (.ar 32 L8) (bs (r8 (mo (w.take i)) 32))]⟩) ?_ ?_ ⟨?_,⟨_,rfl⟩,?_⟩
 ·rintro i hi env rows ⟨hh,⟨z,r1⟩,r2⟩ R hR
  simp only[has]at hh
  obtain⟨h7,h6,h1,h2,h3,-⟩:=hh
  have e0:((i:Int)<8)=True:=aas (by omega)
  have e1:((0:Int)<=4*(i:Int))=True:=aas (by omega)
  have e2:wz (4*(i:Int))=4*(i:Int):=bh (by omega)
  have e5:(4*(i:Int)<=32)=True:=aas (by omega)
  have e6:(4*(i:Int)).toNat=4*i:=by omega
  have e9:((0:Int)<=(i:Int))=True:=aas (by omega)
  have e11:=cG i (by omega)
  have eg:(us w)[i]?=some (.raw (u32 (w.getD i 0#32))):=lM (by omega)
  have hl:(mo (w.take i)).length=4*i:=by rw[pN,aau];omega
  have hsp:aP (r8 (mo (w.take i)) 32) (4*i) ((bz (w.getD i 0#32)).take (min 4 (32-4*i)))=r8 (mo (w.take (i+1))) 32:=by
   have:=vN (l:=mo (w.take i)) (x:=bz (w.getD i 0#32)) (n:=32) (by rw[hl,ze];omega)
   rw[hl]at this
   have ht:(bz (w.getD i 0#32)).take (min 4 (32-4*i))=bz (w.getD i 0#32):=aar (by rw[ze];omega)
   rw[ht,this,X6 (by omega),Qy]
   simp[mo]
  simp only[↓ag,ah,simprocAttr,aK,h7,h6,h1,h2,h3,e0,e1,e2,e5,e6,e9,e11,eg,aaD]
  refine Eq.mpr (EP (src:=bz (w.getD i 0#32)) (bG r2) (by rw[EQ (by omega)];omega)) ?_
  rw[ze,hsp]
  have hr1:∀x y:Rows,live ((rows++x).set 2 (some ⟨.ar 32 L8,[.agg (.ar 32 L8) (bs (r8 (mo (w.take (i+1))) 32))]⟩)) 1=some ⟨.ar 32 L8,[z]⟩:=λx y=>(aA (by decide)).trans (bG r1)
  simp only[↓ag,ah,simprocAttr,h7,h6,h1,h2,h3,e11]
  exact hR _ _ ⟨by simp only[has,↓ag,ah,simprocAttr,h6,h1,h2,h3],⟨z,hr1 _ []⟩,o9 (bG r2)⟩
 ·rintro env rows ⟨hh,⟨z,r1⟩,r2⟩ R
  simp only[has]at hh
  obtain⟨h7,h6,h1,h2,h3,-⟩:=hh
  have s1:∀x,live (rows.set 1 (some x)) 1=some x:=λx=>o9 r1
  simp only[↓ag,ah,simprocAttr,h7,h6,h1,h2,h3,r1,r2,s1]
  have:r8 (mo (w.take 8)) 32=mo w:=by rw[aar (by omega),TE (by rw[pN];omega)]
  rw[this]
  exact .val _ rfl
 ·simp only[has,↓ag,ah,simprocAttr]
 ·rfl
theorem VF(rows:Rows)(k:D->Rows->Prop)(w:List (BitVec 32))(h:w.length=8):aG Di rows k [.agg (.ar 8 cN) (us w)]=k (.agg (.ar 32 L8) (bs (mo w))) rows:=by
 refine(bk (by simp[aX,bb,Sh.pure]) (r:=(aV (mo w),[])) ?_).trans ?_
 ·exact fa (bZ VD w) (by simp[h])
 ·simp[shift,af,aV,Sh.pure]
def r9(n:BitVec 64):Nat:=((119#64-n %64#64) %64#64).toNat
def be8(m:BitVec 64)(i:Nat):List (BitVec 8):=(List.range i).map λj=>(m>>>(56-8*j)).setWidth 8
theorem be8_succ(m:BitVec 64)(i:Nat):be8 m (i+1)=be8 m i++[(m>>>(56-8*i)).setWidth 8]:=by simp[be8,abL]
theorem be8_len(m:BitVec 64)(i:Nat):(be8 m i).length=i:=by simp[be8]
def TF(n:BitVec 64):List (BitVec 8):=[128#8]++List.replicate (r9 n) 0#8++be8 (n<<<3) 8
theorem X8(n:BitVec 64):r9 n<64:=by
 unfold r9;rw[abC];exact ac0 _ (by decide)
def fPad:Fn:=nv PX (λ_=>true) λn=>eR (TF n) false
theorem pad_ok(C:aU)(hC:aI C P):aQ C.aZ P 193 (Fn.run fPad):=by
 refine aJ (XT C hC) λds rows r h=>?_
 obtain⟨d,n,rfl,rfl,hd,hp,rfl⟩:=bd h
 cases qN hd
 refine⟨rfl,ae rfl ?_⟩
 clear h hd
 have hz:=X8 n
 have h0:((0:Int)<=((((119#64-n %64#64) %64#64).toNat:Nat):Int))=True:=aas (by omega)
 have hzn:((119#64-n %64#64) %64#64).toNat=r9 n:=rfl
 rw[hzn]at h0
 unfold L6 L7
 simp only[↓ag,ah,simprocAttr,hzn,h0,aaN]
 refine⟨by omega,by omega,?_⟩
 have e:bs ([128#8]++List.replicate (r9 n) 0#8++be8 (n<<<3) 0)= .raw (u8 128#8)::List.replicate (r9 n) (.raw (u8 0#8)):=by
  simp[be8,bs]
 have how0:jy L8 (.sl L8 1 [] 0 (1+r9 n) false) [none,some ⟨L8,.raw (u8 128#8)::List.replicate (r9 n) (.raw (u8 0#8))⟩] (bs ([128#8]++List.replicate (r9 n) 0#8++be8 (n<<<3) 0)):=by
  rw[e]
  refine .inr ⟨1,false,?_,rfl⟩
  rw[aaP,aaN,aem]
 refine bx 8 (λi env rows=>∃x,has env [(0,.raw (u64 n)),(3,x),(4,.raw (it (56-8*(i:Int))))]/\jy L8 x rows (bs ([128#8]++List.replicate (r9 n) 0#8++be8 (n<<<3) i))) ?_ ?_ ⟨_,?_,how0⟩
 ·rintro i hi env rows ⟨x,hh,how⟩ R hR
  simp only[has]at hh
  obtain⟨h0,h3,h4,-⟩:=hh
  have e0:((0:Int)<=56-8*(i:Int))=True:=aas (by omega)
  have e1:(56-8*(i:Int)).toNat=56-8*i:=by omega
  have e2:wz (56-8*(i:Int)-8)=56-8*((i+1:Nat):Int):=by rw[bh (by omega)];omega
  have hl:(bs ([128#8]++List.replicate (r9 n) 0#8++be8 (n<<<3) i)).length<=100:=by
   rw[aE,aap,aap,be8_len,aaN];simp only[aaP,aaV];omega
  simp only[↓ag,ah,simprocAttr,h0,h3,h4,e0,e1,aaD]
  refine lg how.push (by simp only[aaP,aaV];unfold most;omega) (by simp only[aaP,aaV];unfold most;omega) ?_
  intro x' aa how' _ _ _
  simp only[↓ag,ah,simprocAttr,h0,h3,h4,e2]
  refine hR _ _ ⟨x',by simp only[has,↓ag,ah,simprocAttr,h0],?_⟩
  rw[be8_succ,<-aaB,Vv]
  exact how'
 ·rintro env rows ⟨x,hh,how⟩ R
  simp only[has]at hh
  obtain⟨h0,h3,h4,-⟩:=hh
  have e0:((0:Int)<=56-8*((8:Nat):Int))=False:=aaw (by omega)
  simp only[↓ag,ah,simprocAttr,h0,h3,h4,e0,aaE,how.qc]
  exact how.No
 ·simp only[has,↓ag,ah,simprocAttr]
theorem kPad(rows:Rows)(k:D->Rows->Prop)(n:BitVec 64):aG fPad rows k [.raw (u64 n)]=k (.sl L8 (0+rows.length) [] 0 (TF n).length false) (rows++[some ⟨L8,bs (TF n)⟩]):=by
 refine(bk rfl (r:=eR (TF n) false) ?_).trans ?_
 ·exact fa (BT n) rfl
 ·simp[eR,shift,af,Sh.pure]
structure St where
 h:List (BitVec 32)
 rest:List (BitVec 8)
 n:BitVec 64
def uJ(s:St):D:= .agg O4 [.agg (.ar 8 cN) (us s.h),.agg (.ar 64 L8) (bs s.rest),.raw (u64 s.n)]
theorem Hc(x y:St)(h:uJ x=uJ y):x=y:=by
 obtain⟨a,b,c⟩:=x
 obtain⟨a',b',c'⟩:=y
 simp only[uJ,D.agg.injEq,abS,abf,acW,D.raw.injEq]at h
 obtain⟨h1,h2,h3⟩:=h
 rw[us_inj h1,yg h2,u64_inj.1 h3]
def St.ok(s:St):Bool:=decide (s.h.length=8)&&decide (s.rest.length=64)
def NZ:List (BitVec 8):=List.replicate 64 0#8
def Jc(s:St)(b:BitVec 8):St:=
 if s.n.toNat %64+1=64 then⟨yh s.h (s.rest.set (s.n.toNat %64) b),NZ,s.n+1#64⟩else⟨s.h,s.rest.set (s.n.toNat %64) b,s.n+1#64⟩
def feed(s:St)(p:List (BitVec 8)):St:=p.foldl Jc s
theorem fo(s:St)(p q:List (BitVec 8)):feed s (p++q)=feed (feed s p) q:=List.foldl_append
theorem feed1_ok(s:St)(b:BitVec 8)(h:s.ok=true):(Jc s b).ok=true:=by
 simp only[St.ok,aan,aaq]at h
 unfold Jc
 split
 ·simp[St.ok,X5 _ _ h.1,NZ]
 ·simp[St.ok,h.1,h.2]
theorem fp(p:List (BitVec 8)):∀(s:St),s.ok=true->(feed s p).ok=true:=by
 induction p with
 |nil=>exact λs h=>h
 |cons b p ih=>exact λs h=>ih _ (feed1_ok s b h)
theorem at_add(n:BitVec 64)(j:Nat)(h:n.toNat %64+j<64):(n+BitVec.ofNat 64 j).toNat %64=n.toNat %64+j:=by
 simp only[acA,aa2]
 omega
theorem Ge(l x:List (BitVec 8))(o:Nat)(b:BitVec 8)(h:o+x.length<l.length):(aP l o x).set (o+x.length) b=aP l o (x++[b]):=by
 unfold aP
 have e1:l.drop (o+x.length)=l.getD (o+x.length) 0#8::l.drop (o+x.length+1):=by
  rw[abp h];simp[List.getD,h]
 have e2:(l.take o++x).length=o+x.length:=by simp;omega
 rw[acg _ _ (by omega),e2,acj,e1]
 simp[abO]
theorem Jd(l:List (BitVec 8))(o:Nat):aP l o []=l:=by simp[aP]
theorem ER(s:St)(hs:s.rest.length=64):∀(j:Nat) (x:List (BitVec 8)),x.length=j->s.n.toNat %64+j<64->feed s x=⟨s.h,aP s.rest (s.n.toNat %64) x,s.n+BitVec.ofNat 64 j⟩
 |0,x,hx,h=>by
  have:x=[]:=aaF hx
  subst this
  obtain⟨a,b,c⟩:=s
  simp[feed,Jd]
 |j+1,x,hx,h=>by
  obtain⟨y,b,rfl⟩:∃y b,x=y++[b]:=⟨x.dropLast,x.getLast (by intro e;subst e;simp at hx),(adV _).symm⟩
  have hy:y.length=j:=by simpa using hx
  rw[fo,ER s hs j y hy (by omega)]
  have ha:=at_add s.n j (by omega)
  show Jc _ b=_
  unfold Jc
  simp only[ha]
  rw[aaC (by omega)]
  have hl:=Ge s.rest y (s.n.toNat %64) b (by omega)
  rw[hy]at hl
  rw[hl]
  congr 1
  apply aaL
  simp only[acA,aa2]
  omega
theorem X9(s:St)(hs:s.rest.length=64)(x:List (BitVec 8))(h:s.n.toNat %64+x.length=64):feed s x=⟨yh s.h (aP s.rest (s.n.toNat %64) x),NZ,s.n+BitVec.ofNat 64 x.length⟩:=by
 have hlt:s.n.toNat %64<64:=ac0 _ (by decide)
 obtain⟨y,b,rfl⟩:∃y b,x=y++[b]:=⟨x.dropLast,x.getLast (by intro e;subst e;simp at h;omega),(adV _).symm⟩
 simp only[aap,aaP,aaV]at h
 rw[fo,ER s hs y.length y rfl (by omega)]
 have ha:=at_add s.n y.length (by omega)
 show Jc _ b=_
 unfold Jc
 simp only[ha]
 rw[aaJ (by omega)]
 have hl:=Ge s.rest y (s.n.toNat %64) b (by omega)
 rw[hl]
 congr 1
 apply aaL
 simp only[acA,aa2,aap,aaP,aaV]
 omega
theorem kPress(rows:Rows)(k:D->Rows->Prop)(h:List (BitVec 32))(b:List (BitVec 8))(hh:h.length=8)(hb:b.length=64):aG NY rows k [.agg (.ar 8 cN) (us h),.agg (.ar 64 L8) (bs b)]=k (.agg (.ar 8 cN) (us (yh h b))) rows:=by
 refine(bk (by simp[aX,bb,Sh.pure]) (r:=(X0 (yh h b),[])) ?_).trans ?_
 ·exact lF (bZ VD h) (bZ Ja b) (by simp[hh,hb])
 ·simp[shift,af,X0,Sh.pure]
noncomputable def tu:Fn:=zy (cj uJ) eP (λs _=>s.ok) λs p=>(uJ (feed s p),[])
theorem TG(C:aU)(hC:aI C P)(hp:C.fn 191=some NY):aQ C.aZ P 134 (Fn.run tu):=by
 refine cA (ED C hC) λds rows r h=>?_
 obtain⟨d,e,s0,p0,rfl,rfl,hd,he,hok,rfl⟩:=dS h
 cases aH hd
 obtain⟨x0,hx⟩:=cF he
 refine⟨rfl,_,.cons (.refl _) (.cons hx .nil),ae rfl ?_⟩
 clear h hd he hx
 unfold uC uE
 simp only[uJ,↓ag,ah,simprocAttr]
 refine qM (λm env rows=>∃(s:St) (q:List (BitVec 8)) (ex:Bool) (z:D),m=q.length/\s.ok=true/\feed s q=feed s0 p0/\has env [(1,.dh L8 (bs q) ex),(2,.ptr O4 0 [0]),(4,.ptr O4 1 [0])]/\
  rows=[some ⟨O4,[.agg O4 [.agg (.ar 8 cN) (us s.h),.agg (.ar 64 L8) (bs s.rest),.raw (u64 s.n)]]⟩,some ⟨O4,[z]⟩]) ?_ p0.length ⟨s0,p0,x0,_,rfl,hok,rfl,?_,rfl⟩
 ·rintro m env rows ⟨s,q,ex,z,rfl,hs,hf,hh,rfl⟩ R hR
  simp only[has]at hh
  obtain⟨h1,h2,h4,-⟩:=hh
  have ib:=hs
  simp only[St.ok,aan,aaq]at ib
  obtain⟨Ha,tI⟩:=ib
  by_cases hq:0<q.length
  ·have e0:((0:Int)<(q.length:Int))=True:=aas (by omega)
   have hlt:s.n.toNat %64<64:=ac0 _ (by decide)
   have m64:(s.n %64#64).toNat=s.n.toNat %64:=by rw[abC];rfl
   generalize ha:s.n.toNat %64=at_ at*
   have e1:wz (at_:Int)=at_:=bh (by omega)
   have e2:((0:Int)<=(at_:Int))=True:=aas (by omega)
   have e3:((at_:Int)<=64)=True:=aas (by omega)
   have en:(64#64:BitVec 64)≠0:=by decide
   obtain⟨k,hk⟩:∃k,min q.length (64-at_)=k:=⟨_,rfl⟩
   simp only[↓ag,ah,simprocAttr,h1,h2,h4,e0,e1,e2,e3,m64,en,aE,aaD]
   refine Eq.mpr (Qx (p:=[1]) (u:= .ar 64 L8) (l:=s.rest) rfl rfl (by omega) rfl) ?_
   rw[hk]
   have hk1:k<=q.length:=by omega
   have Vb:at_+k<=64:=by omega
   have hk3:0<k:=by omega
   have Xo:(q.take k).length=k:=by rw[aau];omega
   have hspl:(aP s.rest at_ (q.take k)).length=64:=by
    rw[<-aE,<-EO,AH (by rw[aE,aE];omega),aE,tI]
   have hqq:q.take k++q.drop k=q:=abj k q
   have f1:((0:Int)<=(k:Int))=True:=aas (by omega)
   have f2:((k:Int)<=(q.length:Int))=True:=aas (by omega)
   have f3:(q.drop k).take (q.length-k)=q.drop k:=aar (by rw[aat];omega)
   have f4:wz ((at_:Int)+(k:Int))=((at_+k:Nat):Int):=by rw[bh (by omega)];omega
   have f5:BitVec.ofInt 64 (k:Int)=BitVec.ofNat 64 k:=rfl
   by_cases hfull:at_+k=64
   ·have f6:((at_+k:Nat):Int)=64:=by omega
    have jO:=X9 s tI (q.take k) (by rw[ha,Xo];exact hfull)
    rw[ha,Xo]at jO
    have N0:feed (feed s (q.take k)) (q.drop k)=feed s0 p0:=by rw[<-fo,hqq,hf]
    have TH:=fp (q.take k) s hs
    rw[jO]at N0 TH
    simp only[↓ag,ah,simprocAttr,h1,h2,h4,aE,hU,fM,f1,f2,f3,f4,f5,f6,hp,kPress _ _ _ _ Ha hspl,aaD]
    refine hR _ _ _ ?_ ⟨_,q.drop k,qB none q.length q.length q.length ex,z,rfl,TH,N0,?_,rfl⟩
    ·rw[aat];omega
    ·simp only[has,↓ag,ah,simprocAttr,h2,h4]
   ·have f6:(((at_+k:Nat):Int)=64)=False:=aaw (by omega)
    have jO:=ER s tI k (q.take k) Xo (by rw[ha];omega)
    rw[ha]at jO
    have N0:feed (feed s (q.take k)) (q.drop k)=feed s0 p0:=by rw[<-fo,hqq,hf]
    have TH:=fp (q.take k) s hs
    rw[jO]at N0 TH
    simp only[↓ag,ah,simprocAttr,h1,h2,h4,aE,hU,fM,f1,f2,f3,f4,f5,f6,aaE]
    refine hR _ _ _ ?_ ⟨_,q.drop k,qB none q.length q.length q.length ex,z,rfl,TH,N0,?_,rfl⟩
    ·rw[aat];omega
    ·simp only[has,↓ag,ah,simprocAttr,h2,h4]
  ·have e0:((0:Int)<(q.length:Int))=False:=aaw (by omega)
   have hq0:q=[]:=aaF (by omega)
   subst hq0
   simp only[↓ag,ah,simprocAttr,h1,h2,h4,e0,aE,aaE]
   rw[<-hf]
   exact .val _ rfl
 ·simp only[has,↓ag,ah,simprocAttr]
def rdNil:D->Option Unit
 | .raw (.slice none 0 0)=>some ()
 | _=>none
theorem TI{d:D}{u:Unit}(h:rdNil d=some u):d= .raw (.slice none 0 0):=by
 unfold rdNil at h
 split at h
 ·rfl
 ·cases h
theorem Je{rows:Rows}{r off len:Nat}{ex:Bool}{l src:List (BitVec 8)}{k:D->Rows->Prop}(hl:live rows r=some ⟨L8,bs l⟩)(hn:off+len<=l.length):
  oq rows L8 (.sl L8 r [] off len ex) (bs src) k=k (.raw (it ((min src.length len:Nat):Int))) (rows.set r (some ⟨L8,bs (aP l off (src.take (min src.length len)))⟩)):=by
 unfold oq
 simp only[hl,bj,aE,fM,EO,hn,abf]
 rfl
def ES:Fn:=zy qv rdNil (λls _=>Nat.ble ls.length most&&Nat.ble ls.flatten.length most) λls _=>eR ls.flatten false
theorem ET(ls:List (List (BitVec 8)))(i:Nat):((ls.take i).flatten).length<=ls.flatten.length:=by
 have:ls=ls.take i++ls.drop i:=(abj _ _).symm
 calc ((ls.take i).flatten).length<=((ls.take i++ls.drop i).flatten).length:=by simp only[abW,aap];omega
  _=ls.flatten.length:=by rw[<-this]
theorem lN(ls:List (List (BitVec 8)))(i:Nat)(h:i<ls.length):(ls.take (i+1)).flatten=(ls.take i).flatten++ls[i]:=by
 rw[aaX h,abW,abZ,acb,aaS]
theorem Mh(acc Jf x:List (BitVec 8))(h:x.length<=Jf.length):aP (acc++Jf) acc.length x=(acc++x)++Jf.drop x.length:=by
 unfold aP
 have h1:(acc++Jf).take acc.length=acc:=by simp
 have h2:(acc++Jf).drop (acc.length+x.length)=Jf.drop x.length:=by
  rw[aei,acp (by omega),aaZ];congr 1;omega
 rw[h1,h2]
theorem bjoin_ok(C:aU)(hC:aI C P):aQ C.aZ P 127 (Fn.run ES):=by
 refine aJ (NF C hC) λds rows r h=>?_
 obtain⟨d,e0,ls,u,rfl,rfl,hd,he,hp,rfl⟩:=dS h
 obtain⟨l,e,rfl,hl⟩:=vM hd
 cases TI he
 simp only[aan,abD]at hp
 obtain⟨Bb,qL⟩:=hp
 unfold most at Bb qL
 obtain⟨hlen,lp⟩:=lC hl
 clear h hd he
 refine⟨rfl,ae rfl ?_⟩
 have RY:∀i (hi:i<ls.length),∃x,l[i]?=some x/\eC x ls[i]:=λi hi=>by
  have KF:i<l.length:=by omega
  have hli:l[i]?=some l[i]:=aao KF
  exact⟨_,hli,fC (lp i _ _ hli (aao hi))⟩
 have hsrc:∀x y rows,eC x y->pw rows (.leaf (.int .u8)) x=some (bs y):=by
  intro x y rows hb
  rcases hb with⟨h,h2⟩|⟨e,h⟩
  ·rw[h,h2];rfl
  ·rw[h];simp[pw,Am.fg,Am.elems]
 have hfit:∀x y,eC x y->D.fits x .ref=true:=λx y hb=>by rcases hb with⟨h,_⟩|⟨e,h⟩<;>rw[h]<;>rfl
 unfold Cn Co
 by_cases h0:ls.length=0
 ·have hls:ls=[]:=aaF h0
  have G9:l=[]:=aaF (by omega)
  subst hls G9
  simp only[↓ag,ah,simprocAttr]
  exact .own _ 0 0 _ true false _ rfl rfl (λh=>by cases h)
 ·by_cases h1 : ls.length = 1
  ·obtain⟨y,rfl⟩:∃y,ls=[y]:=by
    match ls,h1 with
    |[y],_=>exact⟨y,rfl⟩
   obtain⟨x,hx,hb⟩:=RY 0 (by simp)
   have HI:eC x y:=hb
   have Lr:l.length=1:=by rw[<-hlen];rfl
   have hlx:l[0]?=some x:=hx
   simp only[↓ag,ah,simprocAttr,Lr,hlx,hfit _ _ HI,hsrc _ _ _ HI,HI.dW,aE,aaD,aaE]
   have hyl:y.length<=1099511627776:=by simpa using qL
   refine⟨by omega,hyl,?_⟩
   have e1:[y].flatten=y:=by simp
   rw[e1]
   exact .own _ 0 0 _ false false _ rfl rfl (λh=>by cases h)
  ·have Ea:2<=l.length:=by omega
   have c0:((l.length:Int)=0)=False:=aaw (by omega)
   have c1:((l.length:Int)=1)=False:=aaw (by omega)
   simp only[↓ag,ah,simprocAttr,c0,c1,aaE]
   refine bx l.length (λi env rows=>has env [(0,.dh .ref l e),(1,.raw (.slice none 0 0)),(42,.dh .ref l e),(43,.raw (it l.length)),(44,.raw (it (i:Int))),(5,.raw (it (((ls.take i).flatten).length:Int)))]/\rows=[]) ?_ ?_ ⟨?_,rfl⟩
   ·rintro i hi env rows ⟨hh,rfl⟩ R hR
    simp only[has]at hh
    obtain⟨q0,q1,q42,q43,q44,q5,-⟩:=hh
    obtain⟨x,hx,hb⟩:=RY i (by omega)
    have TB:((i:Int)<(l.length:Int))=True:=aas (by omega)
    have hw:=cG i (by omega)
    have h0i:((0:Int)<=(i:Int))=True:=aas (by omega)
    have s1:=ET ls (i+1)
    have s2:((ls.take (i+1)).flatten).length=((ls.take i).flatten).length+ls[i].length:=by rw[lN ls i (by omega),aap]
    have w1:wz (9223372036854775807-(((ls.take i).flatten).length:Int))=9223372036854775807-(((ls.take i).flatten).length:Int):=bh (by omega)
    have w2:((9223372036854775807-(((ls.take i).flatten).length:Int))<(ls[i].length:Int))=False:=aaw (by omega)
    have w3:wz ((((ls.take i).flatten).length:Int)+(ls[i].length:Int))=(((ls.take (i+1)).flatten).length:Int):=by rw[bh (by omega)];omega
    simp only[↓ag,ah,simprocAttr,q0,q1,q42,q43,q44,q5,TB,hw,h0i,hx,hfit _ _ hb,hb.dW,w1,w2,w3,aaD,aaE]
    exact hR _ _ ⟨by simp only[has,↓ag,ah,simprocAttr,q0,q1,q42,q43],rfl⟩
   ·rintro env rows ⟨hh,rfl⟩ R
    simp only[has]at hh
    obtain⟨q0,q1,q42,q43,q44,q5,-⟩:=hh
    have bW:(ls.take l.length).flatten=ls.flatten:=by rw[<-hlen,aa8]
    rw[bW]at q5
    obtain⟨N,hN⟩:∃N,ls.flatten.length=N:=⟨_,rfl⟩
    rw[hN]at q5
    have nl:((l.length:Int)<(l.length:Int))=False:=aaw (by omega)
    have n1:((0:Int)<=(N:Int))=True:=aas (by omega)
    have n2:((N:Int)<=1099511627776)=True:=aas (by omega)
    have n3:((N:Int)<=(N:Int))=True:=aas (by omega)
    have n4:∀q:List (BitVec 8),(q.map λb=>D.raw (u8 b))=bs q:=λq=>rfl
    simp only[↓ag,ah,simprocAttr,q0,q1,q42,q43,q44,q5,nl,n1,n2,n3,n4,aaE,acV]
    intro Jf hj
    obtain⟨x,hx,hb⟩:=RY 0 (by omega)
    have hx0:l[0]?=some x:=hx
    have p0:((0:Int)<(l.length:Int))=True:=aas (by omega)
    have p1:((1:Int)<=(l.length:Int))=True:=aas (by omega)
    simp only[↓ag,ah,simprocAttr,q0,q1,q42,q43,q44,q5,nl,n1,n2,n3,n4,p0,p1,hx0,hfit _ _ hb,hsrc _ _ _ hb,hb.dW,aE,aaD]
    have G9:ls[0].length<=N:=by
     have:=ET ls 1
     rw[lN ls 0 (by omega)]at this
     simp only[acF,acb,aaZ]at this
     omega
    refine Eq.mpr (Je (l:=Jf) (src:=ls[0]) rfl (by omega)) ?_
    have t0:ls[0].take (min ls[0].length N)=ls[0]:=aar (by omega)
    have t1:aP Jf 0 ls[0]=(ls.take 1).flatten++Jf.drop ls[0].length:=by
     have:=Mh [] Jf ls[0] (by omega)
     simp only[aaZ,aaV]at this
     rw[this,lN ls 0 (by omega)];simp
    have t2:min ls[0].length N=((ls.take 1).flatten).length:=by rw[lN ls 0 (by omega)];simp;omega
    have t3:((l.drop 1).take (l.length-1)).length=l.length-1:=by simp
    rw[t0,t1,t2]
    simp only[↓ag,ah,simprocAttr,q0,q1,q42,q43,q44,q5,p1,n3,t3,aaD]
    generalize hexx:qB (some (N:Int)) N N N false=exx
    generalize hexy:qB none l.length l.length l.length e=exy
    refine bx (l.length-1) (λi env rows=>has env [(1,.raw (.slice none 0 0)),(70,.dh .ref ((l.drop 1).take (l.length-1)) exy),(71,.raw (it ((l.length-1:Nat):Int))),(72,.raw (it (i:Int))),(8,.sl L8 0 [] 0 N exx),(9,.raw (it (((ls.take (i+1)).flatten).length:Int)))]/\
     ∃q:List (BitVec 8),rows=[some ⟨L8,bs ((ls.take (i+1)).flatten++q)⟩]/\((ls.take (i+1)).flatten).length+q.length=N) ?_ ?_ ⟨?_,_,rfl,?_⟩
    ·rintro i hi env rows ⟨hh,q,rfl,hq⟩ R hR
     simp only[has]at hh
     obtain⟨q1,q70,q71,q72,q8,q9,-⟩:=hh
     obtain⟨x,hx,hb⟩:=RY (i+1) (by omega)
     have rq:((l.drop 1).take (l.length-1))[i]?=some x:=by
      rw[abi,aaJ (by omega),aa5,aem];exact hx
     have s1:=ET ls (i+1+1)
     have s0:=lN ls (i+1) (by omega)
     have s2:((ls.take (i+1+1)).flatten).length=((ls.take (i+1)).flatten).length+ls[i+1].length:=by rw[s0,aap]
     generalize hacc:(ls.take (i+1)).flatten=acc at*
     have TB:((i:Int)<((l.length-1:Nat):Int))=True:=aas (by omega)
     have hw:=cG i (by omega)
     have h0i:((0:Int)<=(i:Int))=True:=aas (by omega)
     have b0:((0:Int)<=(acc.length:Int))=True:=aas (by omega)
     have b1:((acc.length:Int)<=(N:Int))=True:=aas (by omega)
     have b2:wz ((acc.length:Int)+0)=acc.length:=by rw[Int.add_zero];exact bh (by omega)
     simp only[↓ag,ah,simprocAttr,q1,q70,q71,q72,q8,q9,TB,hw,h0i,rq,t3,hfit _ _ hb,b0,b1,n3,aaD]
     refine Eq.mpr (Je (l:=acc++q) (src:=[]) rfl (by rw[aap];omega)) ?_
     have u0:aP (acc++q) acc.length (([]:List (BitVec 8)).take (min ([]:List (BitVec 8)).length (N-acc.length)))=acc++q:=by rw[aey,Jd]
     have u1:(min ([]:List (BitVec 8)).length (N-acc.length))=0:=by simp
     rw[u0,u1]
     simp only[↓ag,ah,simprocAttr,q1,q70,q71,q72,q8,q9,hw,h0i,hsrc _ _ _ hb,hb.dW,aE,b0,b1,b2,n3,aaD]
     refine Eq.mpr (Je (l:=acc++q) (src:=ls[i+1]) rfl (by rw[aap];omega)) ?_
     have u2:ls[i+1].take (min ls[i+1].length (N-acc.length))=ls[i+1]:=aar (by omega)
     have u3:min ls[i+1].length (N-acc.length)=ls[i+1].length:=by omega
     have u4:wz ((acc.length:Int)+(ls[i+1].length:Int))=(((ls.take (i+1+1)).flatten).length:Int):=by rw[bh (by omega)];omega
     rw[u2,u3,Mh _ _ _ (by omega)]
     simp only[↓ag,ah,simprocAttr,q1,q70,q71,q72,q8,q9,hw,u4]
     exact hR _ _ ⟨by simp only[has,↓ag,ah,simprocAttr,q1,q70,q71,q8],q.drop ls[i+1].length,by rw[s0],by rw[aat];omega⟩
    ·rintro env rows ⟨hh,q,rfl,hq⟩ R
     simp only[has]at hh
     obtain⟨q1,q70,q71,q72,q8,q9,-⟩:=hh
     have e1:l.length-1+1=ls.length:=by omega
     rw[e1,aa8]at hq⊢
     have hq0:q=[]:=aaF (by omega)
     have nl2:(((l.length-1:Nat):Int)<((l.length-1:Nat):Int))=False:=aaw (by omega)
     subst hq0
     simp only[↓ag,ah,simprocAttr,q1,q70,q71,q72,q8,q9,nl2,aaE,aaS]
     rw[<-hN]
     exact .own _ 0 0 _ exx false _ rfl rfl (λh=>by cases h)
    ·simp only[has,↓ag,ah,simprocAttr,q1]
    ·rw[aat,<-t2];omega
   ·simp only[has,↓ag,ah,simprocAttr,acb]
def Ky:St:=⟨NX,NZ,0#64⟩
def qw(s:St):List (BitVec 8):=mo (feed s (TF s.n)).h
def eY(p:List (BitVec 8)):List (BitVec 8):=qw (feed Ky p)
theorem oW:Ky.ok=true:=rfl
def Qz:Fn
 |[],[]=>some (uJ Ky,[])
 | _,_=>none
theorem new_ok(C:aU)(hC:aI C P)(hg:C.aZ 3=some (X0 NX)):aQ C.aZ P 185 (Fn.run Qz):=by
 refine aJ (XS C hC) λds rows r h=>?_
 unfold Qz at h
 split at h
 ·cases h
  refine⟨rfl,ae rfl ?_⟩
  unfold L4 L5
  simp only[↓ag,ah,simprocAttr,hg,X0]
  exact .val _ rfl
 ·cases h
theorem TJ(rows:Rows)(k:D->Rows->Prop):aG Qz rows k []=k (uJ Ky) rows:=by
 refine(bk rfl (r:=(uJ Ky,[])) rfl).trans ?_
 simp[shift,af,uJ,Sh.pure]
theorem st_ok{s:St}(h:s.ok=true):s.h.length=8/\s.rest.length=64:=by
 simpa[St.ok]using h
theorem mh(rows:Rows)(k:D->Rows->Prop)(s:St)(d:D)(p:List (BitVec 8))(h:aY rows d p)(hs:s.ok=true):aG tu rows k [uJ s,d]=k (uJ (feed s p)) rows:=by
 obtain⟨⟨d',lz,hb⟩,hn⟩:=h
 have e1:∀d2,eP d2=some p->tu [uJ s,d2] []=some (uJ (feed s p),[]):=λd2 h2=>lF (bZ Hc s) h2 hs
 have hr:bb (uJ s)=false:=by simp[uJ,bb,Sh.pure]
 have hv:view rows 9 (uJ s)=some (uJ s):=by simp[uJ,view,Sh.pure]
 unfold aG
 have h1:aX [uJ s,d]=bb d:=by simp[aX,hr]
 rw[h1]
 have hsh:shift rows.length (uJ (feed s p))=uJ (feed s p):=by simp[uJ,shift,Sh.pure]
 have hno:cv (uJ (feed s p))=true:=by simp[uJ,cv,Sh.pure]
 cases hh:bb d with
 |true=>
  simp only[adf,eK,hv,lz,bj,e1 _ hb.rd,hno,bf,acM,abf,hsh,af,aaS]
  simp
 |false=>
  simp only[adf,bj,e1 _ (hn hh).rd,hsh,af,aaS]
  simp
noncomputable def vO:Fn:=nv (cj uJ) (λs=>s.ok) λs=>(aV (qw s),[])
theorem stsum_ok(C:aU)(hC:aI C P)(h1:C.fn 193=some fPad)(h2:C.fn 134=some tu)(h3:C.fn 192=some Di):aQ C.aZ P 135 (Fn.run vO):=by
 refine aJ (GK C hC) λds rows r h=>?_
 obtain⟨d,s,rfl,rfl,hd,hok,rfl⟩:=bd h
 cases aH hd
 refine⟨rfl,ae rfl ?_⟩
 clear h hd
 have TH:=fp (TF s.n) s hok
 have e:=st_ok TH
 unfold wy wA
 have hst:uJ s= .agg O4 [.agg (.ar 8 cN) (us s.h),.agg (.ar 64 L8) (bs s.rest),.raw (u64 s.n)]:=rfl
 rw[hst]
 simp only[↓ag,ah,simprocAttr,h1,h2,h3,kPad]
 rw[<-hst]
 refine Eq.mpr (mh _ _ _ _ (TF s.n) (aY.own rfl _ rfl) hok) ?_
 simp only[uJ,↓ag,ah,simprocAttr,h1,h2,h3]
 rw[VF _ _ _ e.1]
 simp only[↓ag,ah,simprocAttr]
 exact .val _ rfl
theorem Bd(rows:Rows)(k:D->Rows->Prop)(s:St)(h:s.ok=true):aG vO rows k [uJ s]=k (.agg (.ar 32 L8) (bs (qw s))) rows:=by
 refine(bk (by simp[aX,bb,uJ,Sh.pure]) (r:=(aV (qw s),[])) ?_).trans ?_
 ·exact fa (bZ Hc s) h
 ·simp[shift,af,aV,Sh.pure]
def EU:Fn:=nv qv (λls=>Nat.ble ls.length most&&Nat.ble ls.flatten.length most) λls=>(aV (eY ls.flatten),[])
theorem sum_ok (C : aU) (hC : aI C P) (h1 : C.fn 185 = some Qz) (h2 : C.fn 134 = some tu) (h3 : C.fn 127 = some ES) (h4 : C.fn 135 = some vO) : aQ C.aZ P 125 (Fn.run EU) := by
 refine aJ (XO C hC) λds rows r h=>?_
 obtain⟨d,ls,rfl,rfl,hd,hp,rfl⟩:=bd h
 obtain⟨l,e,rfl,hl⟩:=vM hd
 refine⟨rfl,ae rfl ?_⟩
 have hj : ∀ (rows : Rows) k, aG ES rows k [.dh .ref l e, .raw (.slice none 0 0)] = k (.sl L8 (0 + rows.length) [] 0 ls.flatten.length false) (rows ++ [some ⟨L8, bs ls.flatten⟩]) := λrows k => by
  have hnr : aX [.dh .ref l e, .raw (.slice none 0 0)] = false := by
   have : ∀ (l : List D) (ls : List (List (BitVec 8))), eK eP l = some ls -> aX l = false := by
    intro l
    induction l with
    |nil=>intro _ _;rfl
    | cons x l ih =>
     intro ls h
     simp only[eK]at h
     split at h
     ·rename_i y hy
      split at h
      ·rename_i ys hys
       have hx:bb x=false:=by
        rcases fC hy with⟨h,_⟩|⟨e,h⟩<;>rw[h]<;>rfl
       simp[aX,hx,ih _ hys]
      ·cases h
     ·cases h
   simp[aX,bb,Sh.pure,this l ls hl]
  refine(bk hnr (r:=eR ls.flatten false) ?_).trans ?_
  ·exact lF hd rfl hp
  ·simp[eR,shift,af,Sh.pure]
 clear h
 have hok:=fp ls.flatten Ky oW
 unfold LX LY
 simp only[↓ag,ah,simprocAttr,h1,h2,h3,h4,TJ,hj]
 refine Eq.mpr (mh _ _ _ _ ls.flatten (aY.own rfl _ rfl) oW) ?_
 simp only[↓ag,ah,simprocAttr,h4]
 rw[Bd _ _ _ hok]
 simp only[↓ag,ah,simprocAttr]
 exact .val _ rfl
end kj
end Go.Am
namespace Go.Am
attribute [local congr] cJ bI cK bJ bK b6 bw bN bO b7 bi b8 bP cI
namespace kj
open Go.Am.F
end kj
end Go.Am
namespace Go.Am
attribute [local congr] cJ bI cK bJ bK b6 bw bN bO b7 bi b8 bP cI
namespace kj
open Go.Am.F
theorem view8{rows:Rows}{x:D}{y:List (BitVec 8)}(h:aY rows x y):∃x',view rows 8 x=some x'/\eC x' y:=by
 obtain⟨⟨d',h1,h2⟩,-⟩:=h
 have key : view rows 8 x = some d' := by
  cases x with
  |raw v=>exact h1
  | sl s r p off len e =>
   simp only[view]at h1⊢
   cases he:elems rows (.sl s r p off len e)with
   |none=>rw[he]at h1;cases h1
   | some l =>
    rw[he]at h1
    simp only at h1⊢
    cases hl:(!(l.length==len))with
    |true=>rw[hl]at h1;cases h1
    | false =>
     rw[hl]at h1
     cases hp:s.pure with
     |true=>rw[hp]at h1;exact h1
     | false =>
      rw[hp]at h1
      simp only[aaK]at h1
      split at h1
      ·cases h1
       rcases h2 with⟨h,_⟩|⟨e2,h⟩
       ·cases h
       ·injection h with hs;subst hs;cases hp
      ·cases h1
  | dh s l e =>
   simp only[view]at h1⊢
   cases hp:s.pure with
   |true=>rw[hp]at h1;exact h1
   | false =>
    rw[hp]at h1
    simp only[aaK]at h1
    split at h1
    ·cases h1
     rcases h2 with⟨h,_⟩|⟨e2,h⟩
     ·cases h
     ·injection h with hs;subst hs;cases hp
    ·cases h1
  | ptr s r p =>
   simp only[view]at h1
   split at h1
   ·split at h1
    ·cases hp:s.pure<;>rw[hp]at h1
     ·simp only[aaK]at h1
      split at h1
      ·cases h1;rcases h2 with⟨h,_⟩|⟨e2,h⟩<;>cases h
      ·cases h1
     ·cases h1;rcases h2 with⟨h,_⟩|⟨e2,h⟩<;>cases h
    ·cases h1
   ·cases h1
  | agg s l =>
   simp only[view]at h1
   cases hp:s.pure<;>rw[hp]at h1
   ·simp only[aaK]at h1
    split at h1
    ·cases h1;rcases h2 with⟨h,_⟩|⟨e2,h⟩<;>cases h
    ·cases h1
   ·cases h1;rcases h2 with⟨h,_⟩|⟨e2,h⟩<;>cases h
  |nX=>simp[view]at h1
  |cb d=>exact h1
  |cd=>simp[view]at h1
  |om=>exact h1
  |Fx=>simp[view]at h1
  |mp r=>
   simp only[view]at h1⊢
   exact h1
 exact⟨d',key,h2⟩
theorem sa{rows:Rows}:∀{l:List D} {ls:List (List (BitVec 8))},aW (λx y=>aY rows x y) l ls->∃l',eK (view rows 8) l=some l'/\eK eP l'=some ls:=by
 intro l
 induction l with
 |nil=>
  intro ls h
  have:ls=[]:=aaF h.len.symm
  subst this
  exact⟨[],rfl,rfl⟩
 | cons x l ih =>
  intro ls h
  match ls,h.len with
  |y::ls,_=>
   obtain⟨x',h1,h2⟩:=view8 h.head
   obtain⟨l',h3,h4⟩:=ih h.tail
   exact⟨x'::l',by simp only[eK,h1,h3],by simp only[eK,h2.rd,h4]⟩
theorem Gf{pre:List (List (BitVec 8))->Bool}{out:List (List (BitVec 8))->D×Rows}{rows:Rows}{k:D->Rows->Prop}{r n:Nat}{ex:Bool}{l:List D}{ls:List (List (BitVec 8))}(hl:live rows r=some ⟨.ref,l⟩)(hn:l.length=n)
  (hv:aW (λx y=>aY rows x y) l ls)(hp:pre ls=true)(hr:(cv (out ls).1&&bf (out ls).2)=true):aG (nv qv pre out) rows k [.sl .ref r [] 0 n ex]=k (shift rows.length (out ls).1) (rows++af rows.length (out ls).2):=by
 obtain⟨l',h1,h2⟩:=sa hv
 have he:elems rows (.sl .ref r [] 0 n ex)=some l:=by simp[elems,hl,<-hn]
 have hvw:view rows 9 (.sl .ref r [] 0 n ex)=some (.dh .ref l' ex):=by
  simp only[view,he,hn,acy,abw,aaK,Sh.pure,h1]
 refine BV (λd2 xu=>?_) ⟨_,hvw⟩ (λhh=>by simp[bb]at hh) hr
 rw[hvw]at xu
 cases xu
 exact fa (by simpa[qv]using h2) hp
theorem TL(rows:Rows)(k:D->Rows->Prop)(r n:Nat)(ex:Bool)(l:List D)(ls:List (List (BitVec 8)))(hl:live rows r=some ⟨.ref,l⟩)(hn:l.length=n)
  (hv:aW (λx y=>aY rows x y) l ls)(hp:ls.length<=1099511627776)(qL:ls.flatten.length<=1099511627776):aG EU rows k [.sl .ref r [] 0 n ex]=k (.agg (.ar 32 L8) (bs (eY ls.flatten))) rows:=by
 refine(Gf hl hn hv (by simp only[aan,abD];exact⟨hp,qL⟩) (by simp[aV,cv,bf,Sh.pure])).trans ?_
 simp[aV,shift,af,Sh.pure]
theorem VG(rows:Rows)(k:D->Rows->Prop)(r n:Nat)(ex:Bool)(l:List D)(ls:List (List (BitVec 8)))(hl:live rows r=some ⟨.ref,l⟩)(hn:l.length=n)
  (hv:aW (λx y=>aY rows x y) l ls)(hp:ls.length<=1099511627776)(qL:ls.flatten.length<=1099511627776):aG Dg rows k [.sl .ref r [] 0 n ex]=k (.sl L8 (0+rows.length) [] 0 ls.flatten.length false) (rows++[some ⟨L8,bs ls.flatten⟩]):=by
 refine(Gf hl hn hv (by simp only[aan,abD];exact⟨hp,qL⟩) (by simp[eR,cv,bf,Sh.pure])).trans ?_
 simp[eR,shift,af,Sh.pure]
theorem nQ(s:St):D.fits (uJ s) O4=true:=by simp[uJ,D.fits]
theorem Mi(s:St)(h:s.ok=true):(qw s).length=32:=by
 rw[qw,pN,(st_ok (fp _ _ h)).1]
theorem dk(p:List (BitVec 8)):(eY p).length=32:=Mi _ (fp _ _ oW)
theorem yj{s:Sh}{d:D}{rows:Rows}{els news:List D}{bytes:Nat}{k:D->Rows->Prop}(h:jy s d rows els)(hb:(els.length+news.length)*bytes<=most)(Kv:els.length+news.length<=most)
  (hk:∀aa,live aa rows.length=some ⟨s,els++news⟩->(∀r x,live rows r=some x->(∀ex n,d≠ .sl s r [] 0 n ex)->live aa r=some x)->aa.length=rows.length+1->k (.sl s rows.length [] 0 (els.length+news.length) false) aa):xh rows s bytes d news k:=by
 unfold xh
 rw[h.elems,h.dW]
 refine⟨h.fg,rfl,hb,Kv,?_⟩
 rcases h with⟨rfl,rfl⟩|⟨r,ex,rfl,hl⟩
 ·simp only[isNil,adI,aaU,kill]
  exact hk _ xF (λr x hx _=>bG hx) (by simp)
 ·simp only[isNil,owned,acn,aaU,kill]
  have h1:(rows.set r none).length=rows.length:=by simp
  refine hk _ (by rw[<-h1];exact xF) (λr' x hx hne=>?_) (by simp)
  have hr:r≠r':=λe=>hne ex _ (by rw[e])
  refine bG ?_
  unfold live at hx⊢
  rw[ab7 hr];exact hx
theorem aD{rows:Rows}{r:Nat}{x y:Row}(h:live rows r=some x):live (rows.set r (some y)) r=some y:=by
 have:=aR h
 simp[live,this]
theorem dH{rows:Rows}{r q:Nat}{x y:Row}(h:live rows r=some x)(hn:q≠r):live (rows.set q (some y)) r=some x:=by
 unfold live at h⊢
 rw[ab7 hn];exact h
theorem ia{s s':Sh}{d:D}{rows:Rows}{els els':List D}{r:Nat}(h:jy s d rows els)(hl:live rows r=some ⟨s',els'⟩)(hs:s'≠s):∀ex n,d≠ .sl s r [] 0 n ex:=by
 intro ex n e
 rcases h with⟨-,rfl⟩|⟨r2,ZE,rfl,Ea⟩
 ·cases e
 ·injection e with _ e
  subst e
  rw[Ea]at hl
  injection hl with hl
  injection hl with h1 h2
  exact hs h1.symm
theorem Mj{s:Sh}{d:D}{rows:Rows}{els:List D}(h:jy s d rows els):D.fits d .ref=true:=by
 rcases h with⟨-,rfl⟩|⟨r,ex,rfl,-⟩<;>rfl
theorem N3{β:Type}{Vz:D->Option β}{y:β}{pre:List (BitVec 8)->β->Bool}{out:List (BitVec 8)->β->D×Rows}{rows:Rows}{k:D->Rows->Prop}{d:D}{v:Value}{a:List (BitVec 8)}(h:aY rows d a)(h2:Vz (.raw v)=some y)(hp:pre a y=true)
  (hr:(cv (out a y).1&&bf (out a y).2)=true):aG (zy eP Vz pre out) rows k [d,.raw v]=k (shift rows.length (out a y).1) (rows++af rows.length (out a y).2):=by
 obtain⟨⟨d',lz,hb⟩,hn⟩:=h
 have hv:view rows 9 (.raw v)=some (.raw v):=rfl
 unfold aG
 simp only[eK,lz,hv,bj,lF hb.rd h2 hp,hr,abf]
 cases hh:aX [d,.raw v]with
 |true=>simp
 |false=>
  simp[aX]at hh
  simp only[lF (hn hh.1).rd h2 hp]
  simp
def oX:Fn:=nv eP (λa=>Nat.ble a.length most) λa=>eR a false
theorem QA(C:aU)(hC:aI C P):aQ C.aZ P 114 (Fn.run oX):=by
 refine cA (KQ C hC) λds rows r h=>?_
 obtain⟨d,a,rfl,rfl,hd,hp,rfl⟩:=bd h
 obtain⟨x,hx⟩:=cF hd
 refine⟨rfl,_,.cons hx .nil,ae rfl ?_⟩
 simp only[abD]at hp
 clear h hx hd
 unfold z9 Aa
 simp only[↓ag,ah,simprocAttr,aE]
 unfold most at hp
 refine⟨λh0=>?_,by omega,by omega,.own L8 1 0 a.length false false _ rfl rfl id⟩
 cases a with
 |nil=>exact .nil0 L8
 |cons b l=>simp at h0
theorem EV(rows:Rows)(k:D->Rows->Prop)(d:D)(p:List (BitVec 8))(h:aY rows d p)(hp:p.length<=1099511627776):aG oX rows k [d]=k (.sl L8 (0+rows.length) [] 0 p.length false) (rows++[some ⟨L8,bs p⟩]):=by
 refine(qO h (by simpa[most]using hp) rfl).trans ?_
 rfl
end kj
end Go.Am
namespace Go.Am
namespace kj
def bY{α:Type}(rows:Rows)(rd:D->Option α)(d:D)(a:α):Prop:=(∃d',view rows 9 d=some d'/\rd d'=some a)/\(bb d=false->rd d=some a)
theorem bY.raw{α:Type}{rows:Rows}{rd:D->Option α}{v:Value}{a:α}(h:rd (.raw v)=some a):bY rows rd (.raw v) a:=⟨⟨_,rfl,h⟩,λ_=>h⟩
theorem bY.int{rows:Rows}(n:Int):bY rows u9 (.raw (it n)) n:= .raw (qd n)
theorem bY.agg{α:Type}{rows:Rows}{rd:D->Option α}{s:Sh}{l:List D}{a:α}(hs:s.pure=true)(h:rd (.agg s l)=some a):bY rows rd (.agg s l) a:=⟨⟨.agg s l,by simp[view,hs],h⟩,λ_=>h⟩
theorem bY.bs{rows:Rows}{d:D}{l:List (BitVec 8)}(h:aY rows d l):bY rows eP d l:=by
 obtain⟨⟨d',lz,hb⟩,hn⟩:=h
 exact⟨⟨d',lz,hb.rd⟩,λhh=>(hn hh).rd⟩
theorem bY.parts{rows:Rows}{r n:Nat}{ex:Bool}{l:List D}{ls:List (List (BitVec 8))}(hl:live rows r=some ⟨.ref,l⟩)(hn:l.length=n)
  (hv:aW (λx y=>aY rows x y) l ls):bY rows qv (.sl .ref r [] 0 n ex) ls:=by
 obtain⟨l',h1,h2⟩:=sa hv
 have he:elems rows (.sl .ref r [] 0 n ex)=some l:=by simp[elems,hl,<-hn]
 have hvw:view rows 9 (.sl .ref r [] 0 n ex)=some (.dh .ref l' ex):=by
  simp only[view,he,hn,acy,abw,aaK,Sh.pure,h1]
 exact⟨⟨_,hvw,by simpa[qv]using h2⟩,λh=>by simp[bb]at h⟩
theorem yl{A:Fn}{rows:Rows}{k:D->Rows->Prop}{ds ds':List D}{r:D×Rows}(hv:eK (view rows 9) ds=some ds')(hA:A ds' []=some r)(hn:aX ds=false->A ds []=some r)(hr:(cv r.1&&bf r.2)=true):
  aG A rows k ds=k (shift rows.length r.1) (rows++af rows.length r.2):=by
 unfold aG
 cases hh:aX ds with
 |true=>simp[bj,hv,hA,hr]
 |false=>simp[bj,hn hh]
theorem cL{α:Type}{rd:D->Option α}{pre:α->Bool}{out:α->D×Rows}{rows:Rows}{d:D}{a:α}(h:bY rows rd d a)(hp:pre a=true)(hr:(cv (out a).1&&bf (out a).2)=true)(k:D->Rows->Prop):
  aG (nv rd pre out) rows k [d]=k (shift rows.length (out a).1) (rows++af rows.length (out a).2):=by
 obtain⟨⟨x,hx,hx'⟩,hn⟩:=h
 refine yl (ds':=[x]) (by simp only[eK,hx]) (fa hx' hp) (λhh=>?_) hr
 simp only[aX,acG,acW]at hh
 exact fa (hn hh) hp
theorem lY{α β:Type}{rd:D->Option α}{rd':D->Option β}{pre:α->β->Bool}{out:α->β->D×Rows}{rows:Rows}{d e:D}{a:α}{b:β}(h:bY rows rd d a)(h':bY rows rd' e b)(hp:pre a b=true)
  (hr:(cv (out a b).1&&bf (out a b).2)=true)(k:D->Rows->Prop):
  aG (zy rd rd' pre out) rows k [d,e]=k (shift rows.length (out a b).1) (rows++af rows.length (out a b).2):=by
 obtain⟨⟨x,hx,hx'⟩,hn⟩:=h
 obtain⟨⟨y,hy,hy'⟩,hm⟩:=h'
 refine yl (ds':=[x,y]) (by simp only[eK,hx,hy]) (lF hx' hy' hp) (λhh=>?_) hr
 simp only[aX,acG,acW]at hh
 exact lF (hn hh.1) (hm hh.2) hp
theorem gP{α β γ:Type}{rd:D->Option α}{rd':D->Option β}{Vz:D->Option γ}{pre:α->β->γ->Bool}{out:α->β->γ->D×Rows}{rows:Rows}{d e f:D}{a:α}{b:β}{c:γ}(h:bY rows rd d a)(h':bY rows rd' e b)(h2:bY rows Vz f c)(hp:pre a b c=true)
  (hr:(cv (out a b c).1&&bf (out a b c).2)=true)(k:D->Rows->Prop):
  aG (Kx rd rd' Vz pre out) rows k [d,e,f]=k (shift rows.length (out a b c).1) (rows++af rows.length (out a b c).2):=by
 obtain⟨⟨x,hx,hx'⟩,hn⟩:=h
 obtain⟨⟨y,hy,hy'⟩,hm⟩:=h'
 obtain⟨⟨z,hz,Gs⟩,ho⟩:=h2
 refine yl (ds':=[x,y,z]) (by simp only[eK,hx,hy,hz]) (by simp only[Ba,hx',hy',Gs,abg,hp,aaU]) (λhh=>?_) hr
 simp only[aX,acG,acW]at hh
 simp only[Ba,hn hh.1,hm hh.2.1,ho hh.2.2,abg,hp,aaU]
end kj
end Go.Am
namespace Go.Am
attribute [local congr] cJ bI cK bJ bK b6 bw bN bO b7 bi b8 bP cI
namespace kj
open Go.Am.F
theorem uK{l:List (List (BitVec 8))}(h:∀x∈l,x.length=32):l.flatten.length=32*l.length:=by
 induction l with
 |nil=>rfl
 |cons x l ih=>rw[abZ,aap,ih (λy hy=>h y (by simp[hy])),h x (by simp),aaP];omega
theorem aY.at{rows:Rows}{r n i off len:Nat}{q:List Nat}{e:Bool}{row:Row}{l:List (BitVec 8)}(h:live rows r=some row)(hg:cM row.els (i::q)=some (.agg (.ar n L8) (bs l)))(hle:off+len<=l.length):aY rows (.sl L8 r (i::q) off len e) ((l.drop off).take len):=by
 refine⟨⟨.dh L8 (bs ((l.drop off).take len)) e,?_,.inr ⟨e,rfl⟩⟩,λh=>by simp[bb]at h⟩
 have h2:Am.elems rows (.sl L8 r (i::q) off len e)=some (bs ((l.drop off).take len)):=by
  simp only[elems,h,hg]
  simp[bs]
 simp only[Am.view]
 rw[h2]
 have hl:(bs ((l.drop off).take len)).length=len:=by simp[bs];omega
 simp[Sh.pure,hl]
theorem qS{rows:Rows}{r n i len:Nat}{q:List Nat}{e:Bool}{row:Row}{l:List (BitVec 8)}(h:live rows r=some row)(hg:cM row.els (i::q)=some (.agg (.ar n L8) (bs l)))(hl:l.length=len):Am.elems rows (.sl L8 r (i::q) 0 len e)=some (bs l):=by
 simp only[elems,h,hg]
 simp[bs,<-hl,aar]
theorem aY.uL{rows:Rows}{r n i len:Nat}{q:List Nat}{e:Bool}{row:Row}{l:List (BitVec 8)}(h:live rows r=some row)(hg:cM row.els (i::q)=some (.agg (.ar n L8) (bs l)))(hl:l.length=len):aY rows (.sl L8 r (i::q) 0 len e) l:=by
 have:=aY.at (off:=0) (len:=len) (e:=e) h hg (by omega)
 rwa [abz,aar (by omega)]at this
def sO:List (BitVec 8):=List.replicate 32 0#8
theorem eu:List.replicate 32 (D.raw (u8 0#8))=bs sO:=rfl
theorem inj_id(x y:List (BitVec 8))(h:D.agg (.ar 16 L8) (bs x)= .agg (.ar 16 L8) (bs y)):x=y:=by
 injection h with _ h;exact yg h
def Ar(l:List (BitVec 8)):D:= .agg (.ar 16 L8) (bs l)
theorem Hd{rows:Rows}(x:List (BitVec 8)):bY rows (cj Ar) (.agg (.ar 16 L8) (bs x)) x:=bY.agg rfl (bZ inj_id x)
def Ml(l:List (List (BitVec 8))):Bool:=l.all λx=>decide (x.length=32)
theorem uM{l:List (List (BitVec 8))}:Ml l=true↔∀x∈l,x.length=32:=by simp[Ml]
theorem ko{rows:Rows}(x:List (BitVec 8)):bY rows (cj aV) (.agg (.ar 32 L8) (bs x)) x:=bY.agg rfl (bZ Dh x)
theorem VH:∀(a b:List (BitVec 8)),a.length=b.length->DW (bs a) (bs b)=some (decide (a=b))
 |[],[],_=>rfl
 | x :: a, y :: b, h => by
  have e1:zJ (.raw (u8 x)) (.raw (u8 y))=some (decide (x=y)):=by
   simp only[zJ,lu,u8]
   by_cases h:x=y
   ·subst h;simp
   ·have:¬(x.toNat:Int)=(y.toNat:Int):=λe=>h (aaL (by omega))
    simp[h,this]
  show DW (.raw (u8 x)::bs a) (.raw (u8 y)::bs b)=_
  rw[eL_c,e1,VH a b (by simpa using h)]
  by_cases h1:x=y<;>by_cases h2:a=b<;>simp[h1,h2]
theorem N4(a b:List (BitVec 8))(ha:a.length=32)(hb:b.length=32):eqA (.ar 32 L8) (.agg (.ar 32 L8) (bs a)) (.agg (.ar 32 L8) (bs b))=some (decide (a=b)):=by
 have:=VH a b (by omega)
 simp[eqA,this]
end kj
end Go.Am
namespace Go.Am
namespace kj
def numB(l:List (BitVec 8)):Nat:=l.foldl (λn b=>n*256+b.toNat) 0
theorem Ya(a b c d:BitVec 8):numB [a,b,c,d]=(dZ [a,b,c,d]).toNat:=by
 have ha:=a.isLt
 have hb:=b.isLt
 have hc:=c.isLt
 have hd:=d.isLt
 have e:∀(x:BitVec 8) (k:Nat),k<=24->(x.setWidth 32<<<k).toNat=x.toNat*2^k:=by
  intro x k hk
  have hx:=x.isLt
  rw[acq,abF,acC,abo (a:=x.toNat) (by omega)]
  apply abo
  calc x.toNat*2^k<2^8*2^k:=Nat.mul_lt_mul_of_pos_right hx (Nat.pow_pos (by decide))
   _<=2^8*2^24:=Nat.mul_le_mul_left _ (abK (by decide) hk)
   _=2^32:=by decide
 have e8:∀(x:BitVec 8),(x.setWidth 32).toNat=x.toNat:=λx=>by
  have:=x.isLt
  rw[abF,abo (by omega)]
 have o:∀(x y k:Nat),y<2^k->(x*2^k)|||y=x*2^k+y:=λx y k h=>by
  rw[adg,<-Nat.two_pow_add_eq_or_of_lt h]
 show numB [a,b,c,d]=(a.setWidth 32<<<24|||b.setWidth 32<<<16|||c.setWidth 32<<<8|||d.setWidth 32).toNat
 rw[adA,adA,adA,e a 24 (by decide),e b 16 (by decide),e c 8 (by decide),e8 d,o _ (b.toNat*2^16) 24 (by omega)]
 rw[show a.toNat*2^24+b.toNat*2^16=(a.toNat*256+b.toNat)*2^16 by omega,o _ (c.toNat*2^8) 16 (by omega)]
 rw[show(a.toNat*256+b.toNat)*2^16+c.toNat*2^8=((a.toNat*256+b.toNat)*256+c.toNat)*2^8 by omega,o _ d.toNat 8 (by omega)]
 simp only[numB,adU,List.foldl_nil]
 omega
theorem TM(x:BitVec 32):numB (bz x)=x.toNat:=by
 have hx:=x.isLt
 simp only[bz,numB,adU,List.foldl_nil,abF,abU,abq]
 omega
def xb(n:Nat):List (BitVec 8):=[BitVec.ofNat 8 (n/256),BitVec.ofNat 8 n]
def As(id:List (BitVec 8))(q:BitVec 32)(i j:Nat)(x:List (BitVec 8)):List (BitVec 8):=eY (id++bz q++xb i++[BitVec.ofNat 8 j]++x)
theorem qT(id:List (BitVec 8))(q:BitVec 32)(i j:Nat)(x:List (BitVec 8)):(As id q i j x).length=32:=dk _
def KZ(id:List (BitVec 8))(q:BitVec 32)(i:Nat):Nat->Nat->List (BitVec 8)->List (BitVec 8)
 |0,_,x=>x
 |n+1,a,x=>KZ id q i n (a+1) (As id q i a x)
theorem zf(id:List (BitVec 8))(q:BitVec 32)(i:Nat):∀(n a:Nat) (x:List (BitVec 8)),x.length=32->(KZ id q i n a x).length=32
 |0,_,x,h=>h
 |n+1,a,x,_=>zf id q i n (a+1) _ (qT _ _ _ _ _)
theorem N5(id:List (BitVec 8))(q:BitVec 32)(i m:Nat):∀(n a:Nat) (x:List (BitVec 8)),KZ id q i (n+m) a x=KZ id q i m (a+n) (KZ id q i n a x)
 |0,a,x=>by rw[abk];rfl
 |n+1,a,x=>by
  rw[show n+1+m=(n+m)+1 by omega]
  show KZ id q i (n+m) (a+1) (As id q i a x)=KZ id q i m (a+(n+1)) (KZ id q i n (a+1) (As id q i a x))
  rw[N5 id q i m n (a+1),show a+1+n=a+(n+1) by omega]
theorem chS_succ(id:List (BitVec 8))(q:BitVec 32)(i n a:Nat)(x:List (BitVec 8)):KZ id q i (n+1) a x=As id q i (a+n) (KZ id q i n a x):=N5 id q i 1 n a x
def GU(id:List (BitVec 8))(q:BitVec 32)(i:Nat)(aM:List (BitVec 8)):List (BitVec 8):=As id q i 255 aM
def Gg(id:List (BitVec 8))(q:BitVec 32)(l:List (List (BitVec 8))):List (BitVec 8):=eY (id++bz q++xb 32896++l.flatten)
def ym(id:List (BitVec 8))(q:BitVec 32)(aM:List (BitVec 8))(e n:Nat):List (List (BitVec 8)):=(List.range n).map λi=>KZ id q i e 0 (GU id q i aM)
theorem ends_len(id:List (BitVec 8))(q:BitVec 32)(aM:List (BitVec 8))(e n:Nat):∀x∈ym id q aM e n,x.length=32:=by
 intro x hx
 obtain⟨i,-,rfl⟩:=acL.1 hx
 exact zf _ _ _ _ _ _ (qT _ _ _ _ _)
def gn4{α β γ δ:Type}(r0:D->Option α)(r1:D->Option β)(r2:D->Option γ)(r3:D->Option δ)(pre:α->β->γ->δ->Bool)(out:α->β->γ->δ->D×Rows):Fn
 |[d0,d1,d2,d3],[]=>match r0 d0,r1 d1,r2 d2,r3 d3 with
  |some x0,some x1,some x2,some x3=>bif pre x0 x1 x2 x3 then some (out x0 x1 x2 x3)else none
  | _,_,_,_=>none
 | _,_=>none
theorem uN{α β γ δ:Type}{r0:D->Option α}{r1:D->Option β}{r2:D->Option γ}{r3:D->Option δ}{pre:α->β->γ->δ->Bool}{out:α->β->γ->δ->D×Rows}{ds:List D}{rows:Rows}{r:D×Rows}(h:gn4 r0 r1 r2 r3 pre out ds rows=some r):
  ∃d0 d1 d2 d3 x0 x1 x2 x3,ds=[d0,d1,d2,d3]/\rows=[]/\r0 d0=some x0/\r1 d1=some x1/\r2 d2=some x2/\r3 d3=some x3/\pre x0 x1 x2 x3=true/\r=out x0 x1 x2 x3:=by
 unfold gn4 at h
 split at h
 ·rename_i d0 d1 d2 d3
  split at h
  ·rename_i x0 x1 x2 x3 h0 h1 h2 h3
   cases hp:pre x0 x1 x2 x3 with
   |false=>rw[hp]at h;cases h
   |true=>rw[hp]at h;cases h;exact⟨d0,d1,d2,d3,x0,x1,x2,x3,rfl,rfl,h0,h1,h2,h3,hp,rfl⟩
  ·cases h
 ·cases h
theorem TN{α β γ δ:Type}{r0:D->Option α}{r1:D->Option β}{r2:D->Option γ}{r3:D->Option δ}{pre:α->β->γ->δ->Bool}{out:α->β->γ->δ->D×Rows}{d0 d1 d2 d3:D}{x0:α}{x1:β}{x2:γ}{x3:δ}(h0:r0 d0=some x0)(h1:r1 d1=some x1)(h2:r2 d2=some x2)(h3:r3 d3=some x3)(hp:pre x0 x1 x2 x3=true):
  gn4 r0 r1 r2 r3 pre out [d0,d1,d2,d3] []=some (out x0 x1 x2 x3):=by
 simp[gn4,h0,h1,h2,h3,hp]
theorem yn{α β γ δ:Type}{r0:D->Option α}{r1:D->Option β}{r2:D->Option γ}{r3:D->Option δ}{pre:α->β->γ->δ->Bool}{out:α->β->γ->δ->D×Rows}{rows:Rows}{d0 d1 d2 d3:D}{x0:α}{x1:β}{x2:γ}{x3:δ}(h0:bY rows r0 d0 x0)(h1:bY rows r1 d1 x1)(h2:bY rows r2 d2 x2)(h3:bY rows r3 d3 x3)(hp:pre x0 x1 x2 x3=true)
  (hr:(cv (out x0 x1 x2 x3).1&&bf (out x0 x1 x2 x3).2)=true)(k:D->Rows->Prop):
  aG (gn4 r0 r1 r2 r3 pre out) rows k [d0,d1,d2,d3]=k (shift rows.length (out x0 x1 x2 x3).1) (rows++af rows.length (out x0 x1 x2 x3).2):=by
 obtain⟨⟨y0,a0,b0⟩,c0⟩:=h0
 obtain⟨⟨y1,a1,b1⟩,c1⟩:=h1
 obtain⟨⟨y2,a2,b2⟩,c2⟩:=h2
 obtain⟨⟨y3,a3,b3⟩,c3⟩:=h3
 refine yl (ds':=[y0,y1,y2,y3]) (by simp only[eK,a0,a1,a2,a3]) (TN b0 b1 b2 b3 hp) (λhh=>?_) hr
 simp only[aX,acG,acW]at hh
 exact TN (c0 hh.1) (c1 hh.2.1) (c2 hh.2.2.1) (c3 hh.2.2.2) hp
def gn5{α β γ δ ε:Type}(r0:D->Option α)(r1:D->Option β)(r2:D->Option γ)(r3:D->Option δ)(r4:D->Option ε)(pre:α->β->γ->δ->ε->Bool)(out:α->β->γ->δ->ε->D×Rows):Fn
 |[d0,d1,d2,d3,d4],[]=>match r0 d0,r1 d1,r2 d2,r3 d3,r4 d4 with
  |some x0,some x1,some x2,some x3,some x4=>bif pre x0 x1 x2 x3 x4 then some (out x0 x1 x2 x3 x4)else none
  | _,_,_,_,_=>none
 | _,_=>none
theorem QB{α β γ δ ε:Type}{r0:D->Option α}{r1:D->Option β}{r2:D->Option γ}{r3:D->Option δ}{r4:D->Option ε}{pre:α->β->γ->δ->ε->Bool}{out:α->β->γ->δ->ε->D×Rows}{ds:List D}{rows:Rows}{r:D×Rows}(h:gn5 r0 r1 r2 r3 r4 pre out ds rows=some r):
  ∃d0 d1 d2 d3 d4 x0 x1 x2 x3 x4,ds=[d0,d1,d2,d3,d4]/\rows=[]/\r0 d0=some x0/\r1 d1=some x1/\r2 d2=some x2/\r3 d3=some x3/\r4 d4=some x4/\pre x0 x1 x2 x3 x4=true/\r=out x0 x1 x2 x3 x4:=by
 unfold gn5 at h
 split at h
 ·rename_i d0 d1 d2 d3 d4
  split at h
  ·rename_i x0 x1 x2 x3 x4 h0 h1 h2 h3 h4
   cases hp:pre x0 x1 x2 x3 x4 with
   |false=>rw[hp]at h;cases h
   |true=>rw[hp]at h;cases h;exact⟨d0,d1,d2,d3,d4,x0,x1,x2,x3,x4,rfl,rfl,h0,h1,h2,h3,h4,hp,rfl⟩
  ·cases h
 ·cases h
theorem gn5_eq{α β γ δ ε:Type}{r0:D->Option α}{r1:D->Option β}{r2:D->Option γ}{r3:D->Option δ}{r4:D->Option ε}{pre:α->β->γ->δ->ε->Bool}{out:α->β->γ->δ->ε->D×Rows}{d0 d1 d2 d3 d4:D}{x0:α}{x1:β}{x2:γ}{x3:δ}{x4:ε}(h0:r0 d0=some x0)(h1:r1 d1=some x1)(h2:r2 d2=some x2)(h3:r3 d3=some x3)(h4:r4 d4=some x4)(hp:pre x0 x1 x2 x3 x4=true):
  gn5 r0 r1 r2 r3 r4 pre out [d0,d1,d2,d3,d4] []=some (out x0 x1 x2 x3 x4):=by
 simp[gn5,h0,h1,h2,h3,h4,hp]
theorem QC{α β γ δ ε:Type}{r0:D->Option α}{r1:D->Option β}{r2:D->Option γ}{r3:D->Option δ}{r4:D->Option ε}{pre:α->β->γ->δ->ε->Bool}{out:α->β->γ->δ->ε->D×Rows}{rows:Rows}{d0 d1 d2 d3 d4:D}{x0:α}{x1:β}{x2:γ}{x3:δ}{x4:ε}(h0:bY rows r0 d0 x0)(h1:bY rows r1 d1 x1)(h2:bY rows r2 d2 x2)(h3:bY rows r3 d3 x3)(h4:bY rows r4 d4 x4)(hp:pre x0 x1 x2 x3 x4=true)
  (hr:(cv (out x0 x1 x2 x3 x4).1&&bf (out x0 x1 x2 x3 x4).2)=true)(k:D->Rows->Prop):
  aG (gn5 r0 r1 r2 r3 r4 pre out) rows k [d0,d1,d2,d3,d4]=k (shift rows.length (out x0 x1 x2 x3 x4).1) (rows++af rows.length (out x0 x1 x2 x3 x4).2):=by
 obtain⟨⟨y0,a0,b0⟩,c0⟩:=h0
 obtain⟨⟨y1,a1,b1⟩,c1⟩:=h1
 obtain⟨⟨y2,a2,b2⟩,c2⟩:=h2
 obtain⟨⟨y3,a3,b3⟩,c3⟩:=h3
 obtain⟨⟨y4,a4,b4⟩,c4⟩:=h4
 refine yl (ds':=[y0,y1,y2,y3,y4]) (by simp only[eK,a0,a1,a2,a3,a4]) (gn5_eq b0 b1 b2 b3 b4 hp) (λhh=>?_) hr
 simp only[aX,acG,acW]at hh
 exact gn5_eq (c0 hh.1) (c1 hh.2.1) (c2 hh.2.2.1) (c3 hh.2.2.2.1) (c4 hh.2.2.2.2) hp
end kj
end Go.Am
namespace Go.Am
attribute [local congr] cJ bI cK bJ bK b6 bw bN bO b7 bi b8 bP cI
namespace kj
open Go.Am.F
abbrev si:Sh:= .cons LI (.cons LI (.cons LI .nil))
theorem zg{x y:BitVec 32}(h:u32 x=u32 y):x=y:=by
 injection h with _ h
 exact aaL (by omega)
def wT(t:Nat):Nat:=if t=1 then 1 else if t=2 then 2 else if t=3 then 4 else if t=4 then 8 else 0
def pT(t:Nat):Nat:=if t=1 then 265 else if t=2 then 133 else if t=3 then 67 else if t=4 then 34 else 0
def lT(t:Nat):Nat:=if t=1 then 7 else if t=2 then 6 else if t=3 then 4 else 0
def vi(t:Nat):Bool:=decide (1<=t)&&decide (t<=4)
theorem Mm{t:BitVec 32}(h:vi t.toNat=true):t=1#32\/t=2#32\/t=3#32\/t=4#32:=by
 simp only[vi,aan,aaq]at h
 have:t.toNat=1\/t.toNat=2\/t.toNat=3\/t.toNat=4:=by omega
 rcases this with h|h|h|h
 ·exact .inl (aaL h)
 ·exact .inr (.inl (aaL h))
 ·exact .inr (.inr (.inl (aaL h)))
 ·exact .inr (.inr (.inr (aaL h)))
theorem okT_not{t:Nat}(h:vi t=false):wT t=0/\pT t=0/\lT t=0:=by
 simp only[vi,Bool.and_eq_false_iff,ab0]at h
 refine⟨?_,?_,?_⟩<;>simp only[wT,pT,lT]<;>(repeat' split)<;>omega
structure Par where
 w:Nat
 p:Nat
 l:Nat
def kq(x:Par):D:= .agg si [.raw (it (x.w:Int)),.raw (it (x.p:Int)),.raw (it (x.l:Int))]
theorem N6{x y:Nat}(h:it (x:Int)=it (y:Int)):x=y:=by
 injection h with _ h;omega
theorem parD_inj(x y:Par)(h:kq x=kq y):x=y:=by
 obtain⟨a,b,c⟩:=x
 obtain⟨d,e,f⟩:=y
 simp only[kq,D.agg.injEq,abS,D.raw.injEq,abf,acW]at h
 rw[N6 h.1,N6 h.2.1,N6 h.2.2]
theorem dC(x:Par):(kq x).fits si=true:=rfl
def wX(t:Nat):Par:=⟨wT t,pT t,lT t⟩
theorem rdIn_par{rows:Rows}(x:Par):bY rows (cj kq) (kq x) x:=bY.agg rfl (bZ parD_inj x)
def EW:D:= .agg (.ar 4 si) [kq ⟨1,265,7⟩,kq ⟨2,133,6⟩,kq ⟨4,67,4⟩,kq ⟨8,34,0⟩]
def nS:Fn:=nv ry (λ_=>true) λt=>(.cd [kq (wX t.toNat),.raw (.bool (vi t.toNat))],[])
theorem Yb(C:aU)(hC:aI C P)(hg:C.aZ 0=some EW):aQ C.aZ P 49 (Fn.run nS):=by
 refine aJ (NA C hC) λds rows r h=>?_
 obtain⟨d,t,rfl,rfl,hd,hp,rfl⟩:=bd h
 cases dY hd
 refine⟨rfl,ae rfl ?_⟩
 clear h hd
 unfold B9 Ca
 have hz:D.agg si [.raw (it 0),.raw (it 0),.raw (it 0)]=kq ⟨0,0,0⟩:=rfl
 simp only[hz]
 cases hk:vi t.toNat
 ·obtain⟨hw,hp,hl⟩:=okT_not hk
  have e:wX t.toNat=⟨0,0,0⟩:=by rw[wX,hw,hp,hl]
  rw[e]
  simp only[vi,Bool.and_eq_false_iff,ab0]at hk
  have uO:=t.isLt
  by_cases c:t<1#32
  ·have c1:(t<1#32)=True:=aas c
   simp only[↓ag,ah,simprocAttr,aK,dC,c1,aaD]
   exact .val _ rfl
  ·have c1:(t<1#32)=False:=aaw c
   have c2:(4#32<t)=True:=aas (by
    rw[aci]at c⊢
    have e1:(1#32).toNat=1:=rfl
    have e4:(4#32).toNat=4:=rfl
    omega)
   simp only[↓ag,ah,simprocAttr,aK,dC,c1,c2,aaD,aaE]
   exact .val _ rfl
 ·rcases Mm hk with rfl|rfl|rfl|rfl
  ·simp only[↓ag,ah,simprocAttr,aK,dC,hg,EW,BitVec.reduceLT,BitVec.reduceSub,BitVec.reduceToNat,aaD,aaE]
   exact .val _ rfl
  ·simp only[↓ag,ah,simprocAttr,aK,dC,hg,EW,BitVec.reduceLT,BitVec.reduceSub,BitVec.reduceToNat,aaD,aaE]
   exact .val _ rfl
  ·simp only[↓ag,ah,simprocAttr,aK,dC,hg,EW,BitVec.reduceLT,BitVec.reduceSub,BitVec.reduceToNat,aaD,aaE]
   exact .val _ rfl
  ·simp only[↓ag,ah,simprocAttr,aK,dC,hg,EW,BitVec.reduceLT,BitVec.reduceSub,BitVec.reduceToNat,aaD,aaE]
   exact .val _ rfl
theorem pi(rows:Rows)(k:D->Rows->Prop)(t:BitVec 32):aG nS rows k [.raw (u32 t)]=k (.cd [kq (wX t.toNat),.raw (.bool (vi t.toNat))]) rows:=by
 refine(cL (bY.raw (fL t)) rfl rfl k).trans ?_
 simp[kq,shift,bD,af,Sh.pure]
abbrev yo:Sh:= .cons (.ar 16 L8) (.cons cN .nil)
structure Site where
 id:List (BitVec 8)
 q:BitVec 32
def fJ(s:Site):D:= .agg yo [.agg (.ar 16 L8) (bs s.id),.raw (u32 s.q)]
theorem Yc(x y:Site)(h:fJ x=fJ y):x=y:=by
 obtain⟨a,b⟩:=x
 obtain⟨c,d⟩:=y
 simp only[fJ,D.agg.injEq,abS,D.raw.injEq,abf,acW]at h
 rw[yg h.1,zg h.2]
theorem ey(s:Site):(fJ s).fits yo=true:=rfl
theorem lZ(s:Site)(rows:Rows):bY rows (cj fJ) (fJ s) s:=bY.agg rfl (bZ Yc s)
theorem shr_n(m b:Nat)(kd:IntKind)(hb:b<=64)(k:D->Prop):cm .shr (it (m:Int)) (.int kd (b:Int)) k=k (.raw (it ((m/2^b:Nat):Int))):=by
 have e:(m:Int).fdiv (2^(min (b:Int).toNat IntKind.i64.bits))=((m/2^b:Nat):Int):=by
  have:min (b:Int).toNat IntKind.i64.bits=b:=by show min (b:Int).toNat 64=b;omega
  rw[this,ab5 _ (Int.le_of_lt (Int.pow_pos (by decide)))]
  rw[show((2:Int)^b)=((2^b:Nat):Int) by simp]
  omega
 simp only[cm,it]
 rw[e]
 simp
def TO:Fn:=nv u9 (λn=>decide (0<=n)&&decide (n<65536)) λn=>eR (xb n.toNat) false
theorem two_ok(C:aU)(hC:aI C P):aQ C.aZ P 132 (Fn.run TO):=by
 refine aJ (XQ C hC) λds rows r h=>?_
 obtain⟨d,n,rfl,rfl,hd,hp,rfl⟩:=bd h
 cases bX hd
 simp only[aan,aaq]at hp
 refine⟨rfl,ae rfl ?_⟩
 clear h hd
 obtain⟨m,rfl⟩:=aaH hp.1
 have hm:m<65536:=by omega
 unfold LZ L3
 have e8:∀k,cm .shr (it (m:Int)) (u64 8#64) k=k (.raw (it ((m/256:Nat):Int))):=λk=>shr_n m 8 .u64 (by decide) k
 have e1:BitVec.ofInt 8 ((m/256:Nat):Int)=BitVec.ofNat 8 (m/256):=abb _ _
 have e2:BitVec.ofInt 8 (m:Int)=BitVec.ofNat 8 m:=abb _ _
 simp only[↓ag,ah,simprocAttr,e8,e1,e2]
 exact .own _ 0 0 2 true false _ rfl rfl (λh=>by cases h)
theorem kTwo(rows:Rows)(k:D->Rows->Prop)(n:Nat)(h:n<65536):aG TO rows k [.raw (it (n:Int))]=k (.sl L8 (0+rows.length) [] 0 2 false) (rows++[some ⟨L8,bs (xb n)⟩]):=by
 refine(cL (bY.int _) (by simp;omega) rfl k).trans ?_
 simp[eR,shift,af,Sh.pure,xb]
def Au:Fn:=nv ry (λ_=>true) λq=>eR (bz q) false
theorem four_ok(C:aU)(hC:aI C P):aQ C.aZ P 190 (Fn.run Au):=by
 refine aJ (Tt C hC) λds rows r h=>?_
 obtain⟨d,n,rfl,rfl,hd,hp,rfl⟩:=bd h
 cases dY hd
 refine⟨rfl,ae rfl ?_⟩
 clear h hd
 unfold IQ IR
 simp only[↓ag,ah,simprocAttr]
 exact .own _ 0 0 4 true false _ rfl rfl (λh=>by cases h)
theorem QD(rows:Rows)(k:D->Rows->Prop)(q:BitVec 32):aG Au rows k [.raw (u32 q)]=k (.sl L8 (0+rows.length) [] 0 4 false) (rows++[some ⟨L8,bs (bz q)⟩]):=by
 refine(cL (bY.raw (fL q)) rfl rfl k).trans ?_
 simp[eR,shift,af,Sh.pure,bz]
def stZ:St:=⟨List.replicate 8 0#32,List.replicate 64 0#8,0#64⟩
theorem TP:D.agg O4 [.agg (.ar 8 cN) (List.replicate 8 (.raw (u32 0#32))),.agg (.ar 64 L8) (List.replicate 64 (.raw (u8 0#8))),.raw (u64 0#64)]=uJ stZ:=rfl
def mq(s:Site):St:=feed Ky (s.id++bz s.q)
theorem qU(s:Site):(mq s).ok=true:=fp _ _ oW
noncomputable def EX:Fn:=nv (cj fJ) (λs=>decide (s.id.length=16)) λs=>(uJ (mq s),[])
theorem front_ok(C:aU)(hC:aI C P)(h1:C.fn 185=some Qz)(h2:C.fn 134=some tu)(h3:C.fn 190=some Au):aQ C.aZ P 133 (Fn.run EX):=by
 refine aJ (Qg C hC) λds rows r h=>?_
 obtain⟨d,s,rfl,rfl,hd,hp,rfl⟩:=bd h
 cases aH hd
 simp only[aaq]at hp
 refine⟨rfl,ae rfl ?_⟩
 clear h hd
 unfold FW FX
 simp only[TP]
 have Sw:(fJ s).get [0]=some (.agg (.ar 16 L8) (bs s.id)):=rfl
 have SI:(fJ s).get [1]=some (.raw (u32 s.q)):=rfl
 simp only[↓ag,ah,simprocAttr,aK,ey,nQ,h1,h2,TJ]
 refine Eq.mpr (mh _ _ _ _ s.id (aY.uL (n:=16) rfl (by simp only[↓ag,ah,simprocAttr,Sw]) hp) oW) ?_
 have hok1:=fp s.id Ky oW
 have qJ:feed (feed Ky s.id) (bz s.q)=mq s:=(fo _ _ _).symm
 simp only[↓ag,ah,simprocAttr,aK,SI,h3,QD,h2]
 refine Eq.mpr (mh _ _ _ _ (bz s.q) (aY.own rfl _ rfl) hok1) ?_
 rw[qJ]
 simp only[↓ag,ah,simprocAttr,aK,nQ]
 exact .val _ rfl
theorem TQ(rows:Rows)(k:D->Rows->Prop)(s:Site)(h:s.id.length=16):aG EX rows k [fJ s]=k (uJ (mq s)) rows:=by
 refine(cL (lZ s rows) (by simp[h]) rfl k).trans ?_
 simp[uJ,shift,af,Sh.pure]
def Yd(i n:Int):Bool:=decide (0<=i)&&decide (i<n)
theorem N7{i n:Int}:Yd i n=true↔0<=i/\i<n:=by simp[Yd]
noncomputable def QE:Fn:=gn4 (cj fJ) u9 u9 (cj aV) (λs i j x=>decide (s.id.length=16)&&Yd i 65536&&Yd j 256&&decide (x.length=32)) λs i j x=>(aV (As s.id s.q i.toNat j.toNat x),[])
theorem step_ok(C:aU)(hC:aI C P)(h1:C.fn 133=some EX)(h2:C.fn 132=some TO)(h3:C.fn 134=some tu)(h4:C.fn 135=some vO):aQ C.aZ P 184 (Fn.run QE):=by
 refine aJ (Ts C hC) λds rows r h=>?_
 obtain⟨d0,d1,d2,d3,s,i,j,x,rfl,rfl,g0,g1,g2,g3,hp,rfl⟩:=uN h
 cases aH g0
 cases bX g1
 cases bX g2
 cases aH g3
 simp only[aan,aaq,N7]at hp
 obtain⟨⟨⟨iv,hi⟩,hj⟩,hx⟩:=hp
 refine⟨rfl,ae rfl ?_⟩
 clear h g0 g1 g2 g3
 obtain⟨i,rfl⟩:=aaH hi.1
 obtain⟨j,rfl⟩:=aaH hj.1
 have hi':i<65536:=by omega
 have qn:j<256:=by omega
 unfold IN IP
 simp only[eu]
 have ej:BitVec.ofInt 8 (j:Int)=BitVec.ofNat 8 j:=abb _ _
 have kT:=λrows k=>kTwo rows k i hi'
 simp only[↓ag,ah,simprocAttr,aK,aV,ey,h1,TQ _ _ s iv,h2,kT,h3]
 refine Eq.mpr (mh _ _ _ _ (xb i) (aY.own rfl _ rfl) (qU s)) ?_
 simp only[↓ag,ah,simprocAttr,aK,ej,h3]
 have o1:=fp (xb i) _ (qU s)
 refine Eq.mpr (mh _ _ _ _ [BitVec.ofNat 8 j] (aY.own rfl _ rfl) o1) ?_
 simp only[↓ag,ah,simprocAttr,aK,h3]
 have o2:=fp [BitVec.ofNat 8 j] _ o1
 refine Eq.mpr (mh _ _ _ _ x (aY.uL (n:=32) rfl rfl hx) o2) ?_
 have o3:=fp x _ o2
 simp only[↓ag,ah,simprocAttr,aK,h4,Bd _ _ _ o3]
 have e:qw (feed (feed (feed (mq s) (xb i)) [BitVec.ofNat 8 j]) x)=As s.id s.q i j x:=by
  rw[As,eY,mq,<-fo,<-fo,<-fo]
  simp only[aaB]
 rw[e]
 exact .val _ rfl
theorem kStep(rows:Rows)(k:D->Rows->Prop)(s:Site)(i j:Nat)(x:List (BitVec 8))(iv:s.id.length=16)(hi:i<65536)(hj:j<256)(hx:x.length=32):
  aG QE rows k [fJ s,.raw (it (i:Int)),.raw (it (j:Int)),.agg (.ar 32 L8) (bs x)]=k (.agg (.ar 32 L8) (bs (As s.id s.q i j x))) rows:=by
 refine(yn (lZ s rows) (bY.int _) (bY.int _) (ko x) (by simp[iv,hx,Yd];omega) rfl k).trans ?_
 simp[aV,shift,af,Sh.pure]
noncomputable def Dj:Fn:=Kx (cj fJ) u9 (cj aV) (λs i x=>decide (s.id.length=16)&&Yd i 65536&&decide (x.length=32)) λs i x=>(aV (GU s.id s.q i.toNat x),[])
theorem Ye(C:aU)(hC:aI C P)(h1:C.fn 184=some QE):aQ C.aZ P 120 (Fn.run Dj):=by
 refine aJ (NE C hC) λds rows r h=>?_
 obtain⟨d0,d1,d2,s,i,x,rfl,rfl,g0,g1,g2,hp,rfl⟩:=fV h
 cases aH g0
 cases bX g1
 cases aH g2
 simp only[aan,aaq,N7]at hp
 obtain⟨⟨iv,hi⟩,hx⟩:=hp
 refine⟨rfl,ae rfl ?_⟩
 clear h g0 g1 g2
 obtain⟨i,rfl⟩:=aaH hi.1
 have hi':i<65536:=by omega
 unfold Cl Cm
 simp only[eu]
 have kS:=λrows k=>kStep rows k s i 255 x iv hi' (by decide) hx
 rw[show((255:Nat):Int)=255 from rfl]at kS
 simp only[↓ag,ah,simprocAttr,aK,aV,ey,h1,kS]
 exact .val _ rfl
theorem VI(rows:Rows)(k:D->Rows->Prop)(s:Site)(i:Nat)(x:List (BitVec 8))(iv:s.id.length=16)(hi:i<65536)(hx:x.length=32):
  aG Dj rows k [fJ s,.raw (it (i:Int)),.agg (.ar 32 L8) (bs x)]=k (.agg (.ar 32 L8) (bs (GU s.id s.q i x))) rows:=by
 refine(gP (lZ s rows) (bY.int _) (ko x) (by simp[iv,hx,Yd];omega) rfl k).trans ?_
 simp[aV,shift,af,Sh.pure]
noncomputable def EY:Fn:=gn5 (cj fJ) u9 u9 u9 (cj aV) (λs i a b x=>decide (s.id.length=16)&&Yd i 65536&&Yd a 257&&Yd b 257&&decide (x.length=32)) λs i a b x=>(aV (KZ s.id s.q i.toNat (b.toNat-a.toNat) a.toNat x),[])
theorem chain_ok(C:aU)(hC:aI C P)(h1:C.fn 184=some QE):aQ C.aZ P 118 (Fn.run EY):=by
 refine aJ (Qd C hC) λds rows r h=>?_
 obtain⟨d0,d1,d2,d3,d4,s,i,a,b,x,rfl,rfl,g0,g1,g2,g3,g4,hp,rfl⟩:=QB h
 cases aH g0
 cases bX g1
 cases bX g2
 cases bX g3
 cases aH g4
 simp only[aan,aaq,N7]at hp
 obtain⟨⟨⟨⟨iv,hi⟩,ha⟩,hb⟩,hx⟩:=hp
 refine⟨rfl,ae rfl ?_⟩
 clear h g0 g1 g2 g3 g4
 obtain⟨i,rfl⟩:=aaH hi.1
 obtain⟨a,rfl⟩:=aaH ha.1
 obtain⟨b,rfl⟩:=aaH hb.1
 have hi':i<65536:=by omega
 unfold FT FU
 simp only[eu]
 simp only[↓ag,ah,simprocAttr,aK,aV,ey,h1]
 have em:max (a:Int) 0=(a:Int):=by omega
 have eb:min (b:Int) 256=(b:Int):=by omega
 simp only[em]
 refine bx (b-a) (λj env rows=>has env [(11,.raw (it ((a+j:Nat):Int))),(10,.ptr (.ar 32 L8) 2 [0]),(9,.ptr (.ar 32 L8) 1 [0]),(5,.ptr yo 0 [0]),(1,.raw (it (i:Int))),(3,.raw (it (b:Int)))]/\
  rows=[some ⟨yo,[fJ s]⟩,some ⟨.ar 32 L8,[.agg (.ar 32 L8) (bs (KZ s.id s.q i j a x))]⟩,some ⟨.ar 32 L8,[.agg (.ar 32 L8) (bs sO)]⟩]) ?_ ?_ ⟨?_,rfl⟩
 ·rintro j hj env rows ⟨hh,rfl⟩ R hR
  simp only[has]at hh
  have e0:(((a+j:Nat):Int)<(b:Int))=True:=aas (by omega)
  have e1:wz (((a+j:Nat):Int)+1)=((a+(j+1):Nat):Int):=by rw[bh (by omega)];omega
  have kS:=λrows k=>kStep rows k s i (a+j) _ iv hi' (by omega) (zf s.id s.q i j a x hx)
  simp only[↓ag,ah,simprocAttr,aK,hh,eb,e0,e1,ey,h1,kS,<-chS_succ]
  exact hR _ _ ⟨by simp only[has,↓ag,ah,simprocAttr,hh],rfl⟩
 ·rintro env rows ⟨hh,rfl⟩ R
  simp only[has]at hh
  have e0:(((a+(b-a):Nat):Int)<(b:Int))=False:=aaw (by omega)
  simp only[↓ag,ah,simprocAttr,aK,hh,eb,e0]
  exact .val _ rfl
 ·simp only[has,↓ag,ah,simprocAttr]
  simp
theorem TR(rows:Rows)(k:D->Rows->Prop)(s:Site)(i a b:Nat)(x:List (BitVec 8))(iv:s.id.length=16)(hi:i<65536)(ha:a<=256)(hb:b<=256)(hx:x.length=32):
  aG EY rows k [fJ s,.raw (it (i:Int)),.raw (it (a:Int)),.raw (it (b:Int)),.agg (.ar 32 L8) (bs x)]=k (.agg (.ar 32 L8) (bs (KZ s.id s.q i (b-a) a x))) rows:=by
 refine(QC (lZ s rows) (bY.int _) (bY.int _) (bY.int _) (ko x) (by simp[iv,hx,Yd];omega) rfl k).trans ?_
 simp[aV,shift,af,Sh.pure]
def mi(id:List (BitVec 8))(q:BitVec 32)(c msg:List (BitVec 8)):List (BitVec 8):=eY (id++bz q++xb 33153++c++msg)
noncomputable def Mn:Fn:=Kx (cj fJ) (cj aV) eP (λs c _=>decide (s.id.length=16)&&decide (c.length=32)) λs c m=>(aV (mi s.id s.q c m),[])
theorem mash_ok(C:aU)(hC:aI C P)(h1:C.fn 133=some EX)(h2:C.fn 132=some TO)(h3:C.fn 134=some tu)(h4:C.fn 135=some vO):aQ C.aZ P 76 (Fn.run Mn):=by
 refine aJ (Tm C hC) λds rows r h=>?_
 obtain⟨d0,d1,d2,s,c,m,rfl,rfl,g0,g1,g2,hp,rfl⟩:=fV h
 cases aH g0
 cases aH g1
 have gm:=fC g2
 simp only[aan,aaq]at hp
 obtain⟨iv,hc⟩:=hp
 refine⟨rfl,ae rfl ?_⟩
 clear h g0 g1 g2
 unfold Iz IA
 simp only[eu]
 have kT:=λrows k=>kTwo rows k 33153 (by decide)
 rw[show((33153:Nat):Int)=33153 from rfl]at kT
 simp only[↓ag,ah,simprocAttr,aK,aV,ey,h1,TQ _ _ s iv,h2,kT,h3]
 refine Eq.mpr (mh _ _ _ _ (xb 33153) (aY.own rfl _ rfl) (qU s)) ?_
 simp only[↓ag,ah,simprocAttr,aK,h3]
 have o1:=fp (xb 33153) _ (qU s)
 refine Eq.mpr (mh _ _ _ _ c (aY.uL (n:=32) rfl rfl hc) o1) ?_
 simp only[↓ag,ah,simprocAttr,aK,h3]
 have o2:=fp c _ o1
 refine Eq.mpr (mh _ _ _ _ m gm.to o2) ?_
 have o3:=fp m _ o2
 simp only[↓ag,ah,simprocAttr,aK,h4,Bd _ _ _ o3]
 have e:qw (feed (feed (feed (mq s) (xb 33153)) c) m)=mi s.id s.q c m:=by
  rw[mi,eY,mq,<-fo,<-fo,<-fo]
  simp only[aaB]
 rw[e]
 exact .val _ rfl
theorem kMash(rows:Rows)(k:D->Rows->Prop)(s:Site)(c m:List (BitVec 8))(d:D)(hd:aY rows d m)(iv:s.id.length=16)(hc:c.length=32):
  aG Mn rows k [fJ s,.agg (.ar 32 L8) (bs c),d]=k (.agg (.ar 32 L8) (bs (mi s.id s.q c m))) rows:=by
 refine(gP (lZ s rows) (ko c) (.bs hd) (by simp[iv,hc]) rfl k).trans ?_
 simp[aV,shift,af,Sh.pure]
theorem bY.dl{rows:Rows}{r n:Nat}{ex:Bool}{l:List (List (BitVec 8))}(hl:live rows r=some ⟨.ar 32 L8,l.map aV⟩)(hn:l.length=n):bY rows (qu (.ar 32 L8) aV) (.sl (.ar 32 L8) r [] 0 n ex) l:=by
 refine⟨⟨.dh (.ar 32 L8) (l.map aV) ex,?_,I8 Dh l ex⟩,λh=>by simp[bb]at h⟩
 have:elems rows (.sl (.ar 32 L8) r [] 0 n ex)=some (l.map aV):=by
  simp only[elems,hl];simp[aar,hn]
 simp only[view]
 rw[this]
 simp[Sh.pure,hn]
noncomputable def QF:Fn:=zy (cj fJ) (qu (.ar 32 L8) aV) (λs l=>decide (s.id.length=16)&&Ml l&&decide (l.length<=1000000)) λs l=>(aV (Gg s.id s.q l),[])
theorem fold_ok(C:aU)(hC:aI C P)(h1:C.fn 133=some EX)(h2:C.fn 132=some TO)(h3:C.fn 134=some tu)(h4:C.fn 135=some vO):aQ C.aZ P 121 (Fn.run QF):=by
 refine cA (To C hC) λds rows r h=>?_
 obtain⟨d0,d1,s,l,rfl,rfl,g0,g1,hp,rfl⟩:=dS h
 cases aH g0
 obtain⟨ex,hx⟩:=zd g1
 simp only[aan,aaq,uM]at hp
 obtain⟨⟨iv,uO⟩,Lr⟩:=hp
 refine⟨rfl,_,.cons (.refl _) (.cons hx .nil),ae rfl ?_⟩
 clear h g0 g1 hx
 unfold IC ID
 simp only[eu,TP]
 have kT:=λrows k=>kTwo rows k 32896 (by decide)
 rw[show((32896:Nat):Int)=32896 from rfl]at kT
 simp only[↓ag,ah,simprocAttr,aK,aV,ey,nQ,h1,TQ _ _ s iv,h2,kT,h3]
 refine Eq.mpr (mh _ _ _ _ (xb 32896) (aY.own rfl _ rfl) (qU s)) ?_
 have o1:=fp (xb 32896) _ (qU s)
 simp only[↓ag,ah,simprocAttr,aK,nQ,aaA]
 have hok:∀i,(feed (feed (mq s) (xb 32896)) (l.take i).flatten).ok=true:=λi=>fp _ _ o1
 have e:qw (feed (feed (mq s) (xb 32896)) (l.take l.length).flatten)=Gg s.id s.q l:=by
  rw[aa8,Gg,eY,mq,<-fo,<-fo]
  simp only[aaB]
 have hst:feed (feed (mq s) (xb 32896)) (l.take 0).flatten=feed (mq s) (xb 32896):=by rw[acF];rfl
 rw[<-hst]
 have hsucc:∀i (h:i<l.length),feed (feed (feed (mq s) (xb 32896)) (l.take i).flatten) l[i]=feed (feed (mq s) (xb 32896)) (l.take (i+1)).flatten:=λi h=>by
  rw[<-fo,aaX h,abW];simp
 generalize feed (mq s) (xb 32896)=B at*
 refine bx l.length (λi env rows=>has env [(14,.raw (it (i:Int))),(13,.raw (it (l.length:Int))),(12,.dh (.ar 32 L8) (l.map aV) ex),(5,.ptr O4 3 [0]),(4,.ptr (.ar 32 L8) 1 [0])]/\
  live rows 3=some ⟨O4,[uJ (feed B (l.take i).flatten)]⟩/\live rows 1=some ⟨.ar 32 L8,[.agg (.ar 32 L8) (bs sO)]⟩) ?_ ?_ ⟨?_,rfl,rfl⟩
 ·rintro i hi env rows ⟨hh,r3,r1⟩ R hR
  simp only[has]at hh
  have e0:((i:Int)<(l.length:Int))=True:=aas (by omega)
  have b0:∀n:Nat,((0:Int)<=(n:Int))=True:=λn=>aas (by omega)
  have e1:=cG i (by omega)
  have hx:=uO _ (abJ hi)
  have g:(l.map aV)[i]?=some (.agg (.ar 32 L8) (bs l[i])):=by simp[aV,hi]
  have hs:=hsucc i hi
  generalize l[i]=xi at*
  have r3A:=λL=>ab r3 L
  simp only[↓ag,ah,simprocAttr,aK,hh,e0,e1,b0,aaA,g,r3A,h3]
  refine Eq.mpr (mh _ _ _ _ xi (aY.uL (n:=32) (by rw[a9];rfl) rfl hx) (hok i)) ?_
  rw[hs]
  simp only[↓ag,ah,simprocAttr,aK,hh,e1,r3A,nQ]
  exact hR _ _ ⟨by simp only[has,↓ag,ah,simprocAttr,hh],aD (r3A _),dH (ab r1 _) (by decide)⟩
 ·rintro env rows ⟨hh,r3,r1⟩ R
  simp only[has]at hh
  have e0:((l.length:Int)<(l.length:Int))=False:=aaw (by omega)
  have w1:=λx=>aD (y:=x) r1
  simp only[↓ag,ah,simprocAttr,aK,hh,e0,r3,r1,h4,Bd _ _ _ (hok _),e,w1]
  exact .val _ rfl
 ·simp only[has,↓ag,ah,simprocAttr]
theorem kFold(rows:Rows)(k:D->Rows->Prop)(s:Site)(d:D)(l:List (List (BitVec 8)))(hd:bY rows (qu (.ar 32 L8) aV) d l)(iv:s.id.length=16)(uO:∀x∈l,x.length=32)(Lr:l.length<=1000000):
  aG QF rows k [fJ s,d]=k (.agg (.ar 32 L8) (bs (Gg s.id s.q l))) rows:=by
 refine(lY (lZ s rows) hd (by simp[iv,uM.2 uO,Lr]) rfl k).trans ?_
 simp[aV,shift,af,Sh.pure]
end kj
end Go.Am

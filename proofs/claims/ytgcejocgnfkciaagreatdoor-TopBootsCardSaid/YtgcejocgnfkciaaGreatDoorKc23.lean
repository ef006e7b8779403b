import Derived.Test.YtgcejocgnfkciaaGreatDoorKc22
namespace Go.Am
set_option linter.unusedSimpArgs false
set_option linter.unusedVariables false
attribute [local congr] cd bt cg bu bw bO bg bx bz bP a7 bQ bA b9
namespace iC
open Go.Am.F
set_option maxRecDepth 10000
theorem Yw{α:Type}{mk:α→D}(WZ:∀x y,mk x=mk y→x=y){pre:α→List (BitVec 8)→Bool}{M0:α→List (BitVec 8)→D}{rows:Rows}{k:D→Rows→Prop}{x:α}{d:D}{p:List (BitVec 8)}(h:bc rows d p)(hp:pre x p=true)
  (hr:aQ (mk x)=false)(hv:view rows 9 (mk x)=some (mk x))(hno:bZ (M0 x p)=true)(hsh:shift rows.length (M0 x p)=M0 x p):aJ (wS (b8 mk) dN pre fun x p=>(M0 x p,[])) rows k [mk x,d]=k (M0 x p) rows:=by
 obtain⟨⟨d',je,hb⟩,hn⟩:=h
 have e1:∀d2,dN d2=some p→(wS (b8 mk) dN pre fun x p=>(M0 x p,[])) [mk x,d2] []=some (M0 x p,[]):=fun d2 h2=>jP (bV WZ x) h2 hp
 unfold aJ
 have h1:aN [mk x,d]=aQ d:=by simp[aN,hr]
 rw[h1]
 cases hh:aQ d with
 |true=>
  simp only[forall_const,cW,hv,je,bd,e1 _ hb.rd,hno,aS,Bool.and_self,true_and,hsh,ae,List.append_nil]
  simp
 |false=>
  simp only[forall_const,bd,e1 _ (hn hh).rd,hsh,ae,List.append_nil]
  simp
def nH(l:List (BitVec 8))(x:BitVec 8):List (BitVec 8):=l.map fun b=>b^^^x
theorem M1(l:List (BitVec 8))(x:BitVec 8):(nH l x).length=l.length:=by simp[nH]
noncomputable def Rh:Fn:=wS (b8 JP) Z3 (fun b _=>decide (b.length=64)) fun b x=>(.cF L8 (bs (nH b x)) true,[])
theorem mpad_ok(C:be)(hC:aI C P):aO C.aZ P 218 (Fn.run Rh):=by
 refine aH (Tt C hC) fun ds rows r h=>?_
 obtain⟨d,e,b,x,rfl,rfl,hd,he,hp,rfl⟩:=dq h
 cases aF hd
 cases E8 he
 simp only[decide_eq_true_eq]at hp
 refine⟨rfl,ag rfl ?_⟩
 clear h hd he
 unfold Il Im
 simp only[JP,↓aj,ak,simprocAttr,aa]
 refine bB 64 (fun i env rows=>has env [(6,.raw (it (i:Int))),(1,.raw (u8 x)),(2,.ptr (.ar 64 L8) 0 [0])]∧rows=[some ⟨.ar 64 L8,[.agg (.ar 64 L8) (bs (nH (b.take i) x++b.drop i))]⟩]) ?_ ?_ ⟨?_,?_⟩
 ·rintro i hi env rows ⟨hh,rfl⟩ R hR
  simp only[has]at hh
  obtain⟨h6,h1,h2,-⟩:=hh
  have e0:((i:Int)<64)=True:=eq_true (by omega)
  have e1:((0:Int)≤(i:Int))=True:=eq_true (by omega)
  have e2:=cE i (by omega)
  have hl:(nH (b.take i) x).length=i:=by rw[M1,List.length_take];omega
  have eg:(bs (nH (b.take i) x++b.drop i))[i]?=some (.raw (u8 (b.getD i 0#8))):=by
   rw[mJ (by rw[List.length_append,hl,List.length_drop];omega)]
   congr 3
   simp[List.getD,List.getElem?_append_right (Nat.le_of_eq hl),hl]
  have es:(nH (b.take i) x++b.drop i).set i (b.getD i 0#8^^^x)=nH (b.take (i+1)) x++b.drop (i+1):=by
   have e3:b.drop i=b.getD i 0#8::b.drop (i+1):=by
    rw[List.drop_eq_getElem_cons (by omega)];simp[List.getD,(by omega:i<b.length)]
   rw[List.set_append_right _ _ (Nat.le_of_eq hl),hl,Nat.sub_self,e3,oV (z:=0#8) (by omega)]
   simp[nH]
  simp only[↓aj,ak,simprocAttr,aa,h6,h1,h2,e0,e1,e2,eg,OS,es,decide_true]
  exact hR _ _ ⟨by simp only[has,↓aj,ak,simprocAttr,aa,h1,h2],rfl⟩
 ·rintro env rows ⟨hh,rfl⟩ R
  simp only[has]at hh
  obtain⟨h6,h1,h2,-⟩:=hh
  have hf:nH (b.take 64) x++b.drop 64=nH b x:=by rw[List.take_of_length_le (by omega),List.drop_eq_nil_of_le (by omega),List.append_nil]
  rw[hf]
  simp only[↓aj,ak,simprocAttr,aa,h6,h1,h2]
  have hw:view [some ⟨.ar 64 L8,[.agg (.ar 64 L8) (bs (nH b x))]⟩] 9 (.sl L8 0 [0] 0 64 true)=some (.cF L8 (bs (nH b x)) true):=by
   have hl:(bs (nH b x)).length=64:=by rw[aC,M1,hp]
   have he:Am.elems [some ⟨.ar 64 L8,[.agg (.ar 64 L8) (bs (nH b x))]⟩] (.sl L8 0 [0] 0 64 true)=some (bs (nH b x)):=by
    have:(bs (nH b x)).take 64=bs (nH b x):=List.take_of_length_le (Nat.le_of_eq hl)
    simp[elems,live,cP,D.get,this]
   simp only[Am.view,he,hl]
   simp[Sh.pure]
  exact .frz _ _ hw
 ·simp only[has,↓aj,ak,simprocAttr,aa]
 ·rfl
theorem Ri(rows:Rows)(k:D→Rows→Prop)(b:List (BitVec 8))(x:BitVec 8)(h:b.length=64):aJ Rh rows k [.agg (.ar 64 L8) (bs b),.raw (u8 x)]=k (.cF L8 (bs (nH b x)) true) rows:=by
 refine(bi (by simp[aN,aQ,Sh.pure]) (r:=(.cF L8 (bs (nH b x)) true,[])) ?_).trans ?_
 ·exact jP (bV FX b) (Jr x) (by simp[h])
 ·simp[shift,ae,Sh.pure]
def DO(k:List (BitVec 8)):List (BitVec 8):=pA (if 64<k.length then dU k else k) 64
theorem Yx(k:List (BitVec 8)):(DO k).length=64:=by
 unfold DO
 split
 ·exact BE (by rw[dh];decide)
 ·exact BE (by omega)
structure Hs where
 i:St
 o:St
def mU(m:Hs):D:= .agg S34 [rY m.i,rY m.o]
theorem M2(x y:Hs)(h:mU x=mU y):x=y:=by
 obtain⟨a,b⟩:=x
 obtain⟨a',b'⟩:=y
 simp only[mU,D.agg.injEq,List.cons.injEq,true_and,and_true]at h
 rw[D5 _ _ h.1,D5 _ _ h.2]
def Hs.ok(m:Hs):Bool:=m.i.ok&&m.o.ok
theorem Kn{m:Hs}(h:m.ok=true):m.i.ok=true∧m.o.ok=true:=by simpa[Hs.ok]using h
def DP(k:List (BitVec 8)):Hs:=⟨feed Iq (nH (DO k) 54#8),feed Iq (nH (DO k) 92#8)⟩
theorem newM_ok(k:List (BitVec 8)):(DP k).ok=true:=by simp[Hs.ok,DP,eD _ _ mO]
def lu(m:Hs)(p:List (BitVec 8)):Hs:=⟨feed m.i p,m.o⟩
theorem sy{m:Hs}(h:m.ok=true)(p:List (BitVec 8)):(lu m p).ok=true:=by
 have:=Kn h
 simp[Hs.ok,lu,eD _ _ this.1,this.2]
def sumM(m:Hs):List (BitVec 8):=oq (feed m.o (oq m.i))
theorem AH(m:Hs):aQ (mU m)=false:=by simp[mU,rY,aQ,aN,Sh.pure]
theorem Yy(m:Hs)(rows:Rows):view rows 9 (mU m)=some (mU m):=by simp[mU,view,Sh.pure]
theorem II(m:Hs)(n:Nat):shift n (mU m)=mU m:=by simp[mU,shift,Sh.pure]
theorem IJ(m:Hs):bZ (mU m)=true:=by simp[mU,bZ,Sh.pure]
theorem M3(m:Hs):D.fits (mU m) S34=true:=by simp[mU,D.fits]
def Rj:Fn:=lE dN (fun k=>Nat.ble k.length most) fun k=>(mU (DP k),[])
theorem mnew_ok(C:be)(hC:aI C P)(h1:C.fn 95=some BI)(h2:C.fn 157=some Mr)(h3:C.fn 158=some qB)(h4:C.fn 218=some Rh):aO C.aZ P 206 (Fn.run Rj):=by
 refine cr (Tr C hC) fun ds rows r h=>?_
 obtain⟨d,p,rfl,rfl,hd,hp,rfl⟩:=a8 h
 obtain⟨x,hx⟩:=cy hd
 simp only[Nat.ble_eq]at hp
 unfold most at hp
 refine⟨rfl,_,.cons hx .nil,ag rfl ?_⟩
 clear h hd hx
 unfold Ih Ii
 have Nz:=Yx p
 have z64:(List.replicate 64 (D.raw (u8 0#8)))=bs (List.replicate 64 0#8):=Xg 64 0#8
 by_cases hl:64<p.length
 ·have hlI:((64:Int)<(p.length:Int))=True:=eq_true (by omega)
  have hk:a9 (List.replicate 64 0#8) 0 ((((dU p).drop 0).take 32).take (min (((dU p).drop 0).take 32).length 64))=DO p:=by
   have e1:((dU p).drop 0).take 32=dU p:=by rw[List.drop_zero,List.take_of_length_le (by rw[dh];exact Nat.le_refl _)]
   have:=tv (l:=[]) (x:=dU p) (n:=64) (by rw[dh];decide)
   simp only[List.length_nil,List.nil_append]at this
   have e2:pA [] 64=List.replicate 64 0#8:=rfl
   rw[e2]at this
   rw[e1,List.take_of_length_le (by rw[dh];exact Nat.le_refl _),this,DO,if_pos hl]
  simp only[↓aj,ak,simprocAttr,aa,aC,hlI,h1,decide_true]
  refine Eq.mpr (O2 _ _ _ 1 _ _ [p] rfl rfl (.cons (ec.to (.inr ⟨_,rfl⟩)) .nil) (by simp) (by simp;omega)) ?_
  have Mj:[p].flatten=p:=by simp
  rw[Mj]
  simp only[↓aj,ak,simprocAttr,aa,el_sp,Mm,List.drop_zero]
  have q1:((bs (dU p)).take 32).length=32:=by rw[ey,aC,List.length_take,dh];rfl
  refine⟨q1,?_⟩
  have q2:(bs (dU p)).take 32=bs (((dU p).drop 0).take 32):=by rw[List.drop_zero,ey]
  rw[q2]
  refine Eq.mpr (BD (l:=List.replicate 64 0#8) rfl (by simp)) ?_
  rw[hk]
  simp only[↓aj,ak,simprocAttr,aa,h2,h3,h4,O1,Ri _ _ _ _ Nz]
  refine Eq.mpr (jI _ _ _ _ (nH (DO p) 54#8) (ec.to (.inr ⟨_,rfl⟩)) mO) ?_
  simp only[↓aj,ak,simprocAttr,aa,h2,h3,h4,O1,Ri _ _ _ _ Nz]
  refine Eq.mpr (jI _ _ _ _ (nH (DO p) 92#8) (ec.to (.inr ⟨_,rfl⟩)) mO) ?_
  simp only[↓aj,ak,simprocAttr,aa,l5]
  exact .val _ (AH (DP p))
 ·have hlI:((64:Int)<(p.length:Int))=False:=eq_false (by omega)
  have hk:a9 (List.replicate 64 0#8) 0 (p.take (min p.length 64))=DO p:=by
   have:=tv (l:=[]) (x:=p) (n:=64) (by simp;omega)
   simp only[List.length_nil,List.nil_append]at this
   have e2:pA [] 64=List.replicate 64 0#8:=rfl
   rw[e2]at this
   rw[List.take_of_length_le (by omega),this,DO,if_neg hl]
  simp only[↓aj,ak,simprocAttr,aa,aC,hlI,h1,decide_false]
  refine Eq.mpr (BD (l:=List.replicate 64 0#8) rfl (by simp)) ?_
  rw[hk]
  simp only[↓aj,ak,simprocAttr,aa,h2,h3,h4,O1,Ri _ _ _ _ Nz]
  refine Eq.mpr (jI _ _ _ _ (nH (DO p) 54#8) (ec.to (.inr ⟨_,rfl⟩)) mO) ?_
  simp only[↓aj,ak,simprocAttr,aa,h2,h3,h4,O1,Ri _ _ _ _ Nz]
  refine Eq.mpr (jI _ _ _ _ (nH (DO p) 92#8) (ec.to (.inr ⟨_,rfl⟩)) mO) ?_
  simp only[↓aj,ak,simprocAttr,aa,l5]
  exact .val _ (AH (DP p))
theorem kMNew(rows:Rows)(k:D→Rows→Prop)(d:D)(p:List (BitVec 8))(h:bc rows d p)(hp:p.length≤1099511627776):aJ Rj rows k [d]=k (mU (DP p)) rows:=by
 refine(rE h (by simpa[most]using hp) (by simp[IJ,aS])).trans ?_
 simp[II,ae]
noncomputable def Ko:Fn:=wS (b8 mU) dN (fun m _=>m.ok) fun m p=>(mU (lu m p),[])
theorem Yz(C:be)(hC:aI C P)(h3:C.fn 158=some qB):aO C.aZ P 207 (Fn.run Ko):=by
 refine cr (FP C hC) fun ds rows r h=>?_
 obtain⟨d,e,m,p,rfl,rfl,hd,he,hok,rfl⟩:=dq h
 cases aF hd
 obtain⟨x,hx⟩:=cy he
 refine⟨rfl,_,.cons (.refl _) (.cons hx .nil),ag rfl ?_⟩
 clear h hd he hx
 have ho:=Kn hok
 unfold vI vJ
 simp only[mU,↓aj,ak,simprocAttr,aa,h3]
 refine Eq.mpr (jI _ _ _ _ p (ec.to (.inr ⟨_,rfl⟩)) ho.1) ?_
 simp only[↓aj,ak,simprocAttr,aa,l5]
 exact .val _ (AH (lu m p))
theorem Gr(rows:Rows)(k:D→Rows→Prop)(m:Hs)(d:D)(p:List (BitVec 8))(h:bc rows d p)(hm:m.ok=true):aJ Ko rows k [mU m,d]=k (mU (lu m p)) rows:=
 Yw M2 (M0:=fun m p=>mU (lu m p)) h hm (AH m) (Yy m rows) (IJ _) (II _ _)
noncomputable def Rk:Fn:=lE (b8 mU) (fun m=>m.ok) fun m=>(aW (sumM m),[])
theorem msum_ok(C:be)(hC:aI C P)(h3:C.fn 158=some qB)(h4:C.fn 159=some tw):aO C.aZ P 209 (Fn.run Rk):=by
 refine aH (Hk C hC) fun ds rows r h=>?_
 obtain⟨d,m,rfl,rfl,hd,hok,rfl⟩:=a8 h
 cases aF hd
 refine⟨rfl,ag rfl ?_⟩
 clear h hd
 have ho:=Kn hok
 have o2:=eD (oq m.i) _ ho.2
 have hl:=Ir _ ho.1
 unfold xJ xK
 simp only[mU,↓aj,ak,simprocAttr,aa,h3,h4,yF _ _ _ ho.1]
 refine Eq.mpr (jI _ _ _ _ (((oq m.i).drop 0).take 32) (bc.arr rfl (by omega)) ho.2) ?_
 have e1:((oq m.i).drop 0).take 32=oq m.i:=by rw[List.drop_zero,List.take_of_length_le (by omega)]
 rw[e1]
 simp only[↓aj,ak,simprocAttr,aa,h4,yF _ _ _ o2]
 exact .val _ rfl
theorem kMSum(rows:Rows)(k:D→Rows→Prop)(m:Hs)(h:m.ok=true):aJ Rk rows k [mU m]=k (.agg (.ar 32 L8) (bs (sumM m))) rows:=by
 refine(bi (by simp[aN,AH]) (r:=(aW (sumM m),[])) ?_).trans ?_
 ·exact ei (bV M2 m) h
 ·simp[shift,ae,aW,Sh.pure]
theorem wJ(m:Hs)(p q:List (BitVec 8)):lu (lu m p) q=lu m (p++q):=by simp[lu,eC]
def hmac(k p:List (BitVec 8)):List (BitVec 8):=sumM (lu (DP k) p)
end iC
end Go.Am

namespace Go.Am
set_option linter.unusedSimpArgs false
set_option linter.unusedVariables false
attribute [local congr] cd bt cg bu bw bO bg bx bz bP a7 bQ bA b9
namespace iC
open Go.Am.F
set_option maxRecDepth 10000
def eR(n:Nat):List (BitVec 8):=[BitVec.ofNat 8 (n/16777216),BitVec.ofNat 8 (n/65536),BitVec.ofNat 8 (n/256),BitVec.ofNat 8 n]
theorem M4(n:Nat):(eR n).length=4:=rfl
theorem Kp(n:Int)(m:BitVec 64)(k:D→Prop):bE .shr (it n) (u64 m) k=k (.raw (it (n.fdiv (2^(min m.toNat 64))))):=by
 simp only[bE,it,u64,Int.toNat_natCast,IntKind.bits]
 simp
theorem nI(n m:Nat):(n:Int).fdiv (m:Int)=((n/m:Nat):Int):=by
 rw[Int.fdiv_eq_ediv_of_nonneg _ (by omega)];rfl
def M5:Fn:=lE rC (fun n=>decide (0≤n)) fun n=>ez (eR n.toNat) false
theorem mnum_ok(C:be)(hC:aI C P):aO C.aZ P 208 (Fn.run M5):=by
 refine aH (Ts C hC) fun ds rows r h=>?_
 obtain⟨d,n,rfl,rfl,hd,hp,rfl⟩:=a8 h
 cases bX hd
 simp only[decide_eq_true_eq]at hp
 obtain⟨n,rfl⟩:=Int.eq_ofNat_of_zero_le hp
 refine⟨rfl,ag rfl ?_⟩
 clear h hd
 have e1:(n:Int).fdiv (2^(min 24 64))=((n/16777216:Nat):Int):=nI n 16777216
 have e2:(n:Int).fdiv (2^(min 16 64))=((n/65536:Nat):Int):=nI n 65536
 have e3:(n:Int).fdiv (2^(min 8 64))=((n/256:Nat):Int):=nI n 256
 have e4:∀m:Nat,BitVec.ofInt 8 (m:Int)=BitVec.ofNat 8 m:=fun m=>rfl
 unfold Ij Ik
 simp only[↓aj,ak,simprocAttr,aa,Kp,e1,e2,e3,e4]
 exact .own _ 0 0 _ true false _ rfl rfl (fun h=>by cases h)
theorem Rl(rows:Rows)(k:D→Rows→Prop)(n:Nat):aJ M5 rows k [.raw (it (n:Int))]=k (.sl L8 (0+rows.length) [] 0 4 false) (rows++[some ⟨L8,bs (eR n)⟩]):=by
 refine(bi rfl (r:=ez (eR n) false) ?_).trans ?_
 ·rw[M5,ei (nS _) (by simp)];rfl
 ·simp[ez,shift,ae,Sh.pure,M4]
def sb(b:ByteArray):List (BitVec 8):=b.data.toList.map fun x=>BitVec.ofNat 8 x.toNat
theorem Gs(b:ByteArray):ofBytes b=bs (sb b):=by
 simp only[ofBytes,bs,sb,List.map_map]
 refine List.map_congr_left fun x _=>?_
 have hx:x.toNat<256:=x.toNat_lt
 simp only[Function.comp_def,u8,BitVec.toNat_ofNat]
 rw[Nat.mod_eq_of_lt (by omega)]
def rdStr:D→Option ByteArray
 | .raw (.string b)=>some b
 | _=>none
theorem Pu{d:D}{b:ByteArray}(h:rdStr d=some b):d= .raw (.string b):=by
 unfold rdStr at h
 split at h
 ·cases h;rfl
 ·cases h
def yL:D→Option (List (List (BitVec 8)))
 | .raw (.slice none 0 0)=>some []
 | .cF s l _=>bif s== .ref then cW dN l else none
 | _=>none
theorem M6{d:D}{ls:List (List (BitVec 8))}(h:yL d=some ls):∃l e,U8 d (.cF .ref l e)∧cW dN l=some ls:=by
 unfold yL at h
 split at h
 ·cases h;exact⟨[],false,.nil _ _,rfl⟩
 ·rename_i s l e
  cases hb:(s==Sh.ref)with
  |false=>rw[hb]at h;cases h
  |true=>
   rw[hb]at h
   have:s= .ref:=by simpa using hb
   subst this
   exact⟨l,e,.refl _,h⟩
 ·cases h
def ui(ls:List (List (BitVec 8))):List (BitVec 8):=(ls.map fun x=>eR x.length++x).flatten
theorem Pv(ls:List (List (BitVec 8)))(x:List (BitVec 8)):ui (ls++[x])=ui ls++eR x.length++x:=by simp[ui]
def derT(lab:ByteArray)(ls:List (List (BitVec 8))):List (BitVec 8):=eR lab.size++sb lab++eR ls.length++ui ls
def Ui(k:List (BitVec 8))(lab:ByteArray)(ls:List (List (BitVec 8))):List (BitVec 8):=hmac k (derT lab ls)
def Gt(k:List (BitVec 8))(lab:ByteArray)(ls:List (List (BitVec 8))):Bool:=Nat.ble k.length 1099511627000&&(Nat.ble lab.size 1099511&&(Nat.ble ls.length 1099511&&Nat.ble ls.flatten.length 1099511627))
def Uj:Fn:=G2 dN rdStr yL Gt fun k lab ls=>(aW (Ui k lab ls),[])
theorem der_ok(C:be)(hC:aI C P)(h10:C.fn 206=some Rj)(h11:C.fn 207=some Ko)(h12:C.fn 209=some Rk)(h28:C.fn 208=some M5):aO C.aZ P 198 (Fn.run Uj):=by
 refine cr (JK C hC) fun ds rows r h=>?_
 obtain⟨d,d1,d2,key,lab,ls,rfl,rfl,hd,he,hf,hp,rfl⟩:=fq h
 obtain⟨x,hx⟩:=cy hd
 cases Pu he
 obtain⟨l,e,hn,hl⟩:=M6 hf
 simp only[Gt,Bool.and_eq_true,Nat.ble_eq]at hp
 obtain⟨hp0,Mj,sG,hp3⟩:=hp
 obtain⟨hlen,jz⟩:=jk hl
 refine⟨rfl,_,.cons hx (.cons (.refl _) (.cons hn .nil)),ag rfl ?_⟩
 clear h hd he hx hn hf
 have Nw:∀i (hi:i<ls.length),∃x,l[i]?=some x∧ec x ls[i]:=fun i hi=>by
  have Dn:i<l.length:=by omega
  have hli:l[i]?=some l[i]:=List.getElem?_eq_getElem Dn
  exact⟨_,hli,eU (jz i _ _ hli (List.getElem?_eq_getElem hi))⟩
 have hfit:∀x y,ec x y→D.fits x .ref=true:=fun x y hb=>by rcases hb with⟨h,_⟩|⟨e,h⟩<;>rw[h]<;>rfl
 have o1:=newM_ok key
 have o2:=sy o1 (eR lab.size)
 have o3:=sy o2 (sb lab)
 have o4:=sy o3 (eR l.length)
 unfold Ae Af
 simp only[↓aj,ak,simprocAttr,aa,h10]
 refine Eq.mpr (kMNew _ _ _ key (ec.to (.inr ⟨_,rfl⟩)) (by omega)) ?_
 simp only[↓aj,ak,simprocAttr,aa,h11,h28,Rl,Gs]
 refine Eq.mpr (Gr _ _ _ _ (eR lab.size) (bc.own rfl _ rfl) o1) ?_
 simp only[↓aj,ak,simprocAttr,aa,h11,h28,Rl,Gs]
 refine Eq.mpr (Gr _ _ _ _ (sb lab) (ec.to (.inr ⟨_,rfl⟩)) o2) ?_
 simp only[↓aj,ak,simprocAttr,aa,h11,h28,Rl]
 refine Eq.mpr (Gr _ _ _ _ (eR l.length) (bc.own rfl _ rfl) o3) ?_
 simp only[↓aj,ak,simprocAttr,aa,M3]
 have I3:lu (lu (lu (DP key) (eR lab.size)) (sb lab)) (eR l.length)=lu (DP key) (eR lab.size++sb lab++eR l.length++ui (ls.take 0)):=by
  rw[wJ,wJ];simp[ui]
 rw[I3]
 refine bB l.length (fun i env rows=>has env [(23,.cF .ref l e),(24,.raw (it l.length)),(25,.raw (it (i:Int))),(6,.ptr (.ar 32 L8) 0 [0]),(7,.ptr S34 3 [0])]∧
  (∃z,live rows 0=some ⟨.ar 32 L8,[z]⟩)∧live rows 3=some ⟨S34,[mU (lu (DP key) (eR lab.size++sb lab++eR l.length++ui (ls.take i)))]⟩) ?_ ?_ ⟨?_,⟨_,rfl⟩,rfl⟩
 ·rintro i hi env rows ⟨hh,⟨z,r0⟩,r3⟩ R hR
  simp only[has]at hh
  obtain⟨q23,q24,q25,q6,q7,-⟩:=hh
  obtain⟨x,hx,hb⟩:=Nw i (by omega)
  have e0:((i:Int)<(l.length:Int))=True:=eq_true (by omega)
  have e1:((0:Int)≤(i:Int))=True:=eq_true (by omega)
  have e2:=cE i (by omega)
  have hs:lu (lu (lu (DP key) (eR lab.size++sb lab++eR l.length++ui (ls.take i))) (eR ls[i].length)) ls[i]=lu (DP key) (eR lab.size++sb lab++eR l.length++ui (ls.take (i+1))):=by
   rw[wJ,wJ,List.take_succ_eq_append_getElem (by omega),Pv]
   simp only[List.append_assoc]
  generalize eR lab.size++sb lab++eR l.length++ui (ls.take i)=T at*
  generalize eR lab.size++sb lab++eR l.length++ui (ls.take (i+1))=T' at*
  have hm:=sy o1 T
  have LF:=sy hm (eR ls[i].length)
  simp only[↓aj,ak,simprocAttr,aa,aX,q23,q24,q25,q6,q7,e0,e1,hx,hfit _ _ hb,hb.dK,r3,h11,h28,Rl,decide_true]
  refine Eq.mpr (Gr _ _ _ _ (eR ls[i].length) (bc.own (vi (x:=⟨L8,bs (eR ls[i].length)⟩)) 4 rfl) hm) ?_
  simp only[↓aj,ak,simprocAttr,aa,aX,q23,q24,q25,q6,q7,h11]
  refine Eq.mpr (Gr _ _ _ _ ls[i] hb.to LF) ?_
  rw[hs]
  simp only[↓aj,ak,simprocAttr,aa,aX,q23,q24,q25,q6,q7,e2,M3,aA r3]
  exact hR _ _ ⟨by simp only[has,↓aj,ak,simprocAttr,aa,q23,q24,q6,q7],⟨z,(aE (by decide)).trans (bJ r0)⟩,mV (bJ r3)⟩
 ·rintro env rows ⟨hh,⟨z,r0⟩,r3⟩ R
  simp only[has]at hh
  obtain⟨q23,q24,q25,q6,q7,-⟩:=hh
  have e0:((l.length:Int)<(l.length:Int))=False:=eq_false (by omega)
  have hT:eR lab.size++sb lab++eR l.length++ui (ls.take l.length)=derT lab ls:=by
   rw[derT,←hlen,List.take_length]
  rw[hT]at r3
  have hm:=sy o1 (derT lab ls)
  have s0:∀x,live (rows.set 0 (some x)) 0=some x:=fun x=>mV r0
  simp only[↓aj,ak,simprocAttr,aa,q23,q24,q25,q6,q7,e0,r3,h12,kMSum _ _ _ hm,r0,s0,decide_false]
  exact .val _ rfl
 ·simp only[has,↓aj,ak,simprocAttr,aa]
def fNum:Fn:=lE dN (fun a=>Nat.ble 4 a.length) fun a=>(.raw (it (((cY a).toNat:Nat):Int)),[])
theorem num_ok(C:be)(hC:aI C P):aO C.aZ P 211 (Fn.run fNum):=by
 refine aH (FQ C hC) fun ds rows r h=>?_
 obtain⟨d,a,rfl,rfl,hd,hp,rfl⟩:=a8 h
 have ha:=eU hd
 simp only[Nat.ble_eq]at hp
 refine⟨rfl,ag rfl ?_⟩
 unfold vK vL
 have e0:∀(k:D→Rows→Prop) rows,nQ (.leaf (.int .u8)) 0 rows k d=k (.b5 (.raw (u8 (a.getD 0 0#8)))) rows:=fun k rows=>by have:=gh (k:=k) (rows:=rows) (n:=0) ha (by omega);simpa using this
 have e1:∀(k:D→Rows→Prop) rows,nQ (.leaf (.int .u8)) 1 rows k d=k (.b5 (.raw (u8 (a.getD 1 0#8)))) rows:=fun k rows=>by have:=gh (k:=k) (rows:=rows) (n:=1) ha (by omega);simpa using this
 have e2:∀(k:D→Rows→Prop) rows,nQ (.leaf (.int .u8)) 2 rows k d=k (.b5 (.raw (u8 (a.getD 2 0#8)))) rows:=fun k rows=>by have:=gh (k:=k) (rows:=rows) (n:=2) ha (by omega);simpa using this
 have e3:∀(k:D→Rows→Prop) rows,nQ (.leaf (.int .u8)) 3 rows k d=k (.b5 (.raw (u8 (a.getD 3 0#8)))) rows:=fun k rows=>by have:=gh (k:=k) (rows:=rows) (n:=3) ha (by omega);simpa using this
 simp only[↓aj,ak,simprocAttr,aa,e0,e1,e2,e3]
 exact .val _ rfl
def fPre:Fn:=wS dN dN (fun a b=>Nat.ble a.length most&&Nat.ble b.length most) fun a b=>(.raw (.bool (decide (b.length≤a.length)&&decide (a.take b.length=b))),[])
theorem pre_ok(C:be)(hC:aI C P)(h20:C.fn 94=some F5):aO C.aZ P 210 (Fn.run fPre):=by
 refine cr (Ak C hC) fun ds rows r h=>?_
 obtain⟨d,e,a,b,rfl,rfl,hd,he,hp,rfl⟩:=dq h
 obtain⟨x,hx⟩:=cy hd
 obtain⟨y,hy⟩:=cy he
 refine⟨rfl,_,.cons hx (.cons hy .nil),ag rfl ?_⟩
 simp only[Bool.and_eq_true,Nat.ble_eq]at hp
 unfold most at hp
 clear h hx hy hd he
 unfold qy qz
 by_cases hl:b.length≤a.length
 ·have wx:((b.length:Int)≤(a.length:Int))=True:=eq_true (by omega)
  have G1:((0:Int)≤(b.length:Int))=True:=eq_true (by omega)
  simp only[↓aj,ak,simprocAttr,aa,aC,wx,G1,h20]
  simp only[Nat.sub_zero,ey]
  refine Eq.mpr (Pa _ _ _ _ (a.take b.length) b (ec.to (.inr ⟨_,rfl⟩)) (ec.to (.inr ⟨_,rfl⟩)) (by rw[List.length_take];omega) (by omega)) ?_
  simp only[↓aj,ak,simprocAttr,aa]
  simp only[hl,decide_true,Bool.true_and]
  exact .val _ rfl
 ·have wx:((b.length:Int)≤(a.length:Int))=False:=eq_false (by omega)
  simp only[↓aj,ak,simprocAttr,aa,aC,wx]
  simp only[hl,decide_false,Bool.false_and]
  exact .val _ rfl
theorem kPre(rows:Rows)(k:D→Rows→Prop)(d e:D)(p q:List (BitVec 8))(h:bc rows d p)(h':bc rows e q)(hp:p.length≤1099511627776)(hq:q.length≤1099511627776):aJ fPre rows k [d,e]=k (.raw (.bool (decide (q.length≤p.length)&&decide (p.take q.length=q)))) rows:=by
 refine(Bl h h' (by simpa[most]using⟨hp,hq⟩) rfl).trans ?_
 simp[shift,ae]
theorem val_q(q:List (BitVec 8))(h:4≤q.length):(YI (q.take 4)).setWidth 32=cY q∧wz ((YI (q.take 4)).toNat:Int)=((cY q).toNat:Int):=by
 match q,h with
 |a::b::c::d::l,_=>
  have h1:(a::b::c::d::l).take 4=[a,b,c,d]:=rfl
  have h2:cY (a::b::c::d::l)=cY [a,b,c,d]:=rfl
  rw[h1,h2]
  refine⟨val_num a b c d,?_⟩
  have h3:=aah a b c d
  have h4:=Ml a b c d
  have h5:=a.isLt
  have h6:=b.isLt
  have h7:=c.isLt
  have h8:=d.isLt
  rw[bf (by omega)]
  omega
structure xQ where
 v:Int
 s:Int
 e:Int
 dg:List (BitVec 8)
abbrev SM:Sh:= .cons LI (.cons LI (.cons LI (.cons (.ar 32 L8) .nil)))
def cO(m:xQ):D:= .agg SM [.raw (it m.v),.raw (it m.s),.raw (it m.e),.agg (.ar 32 L8) (bs m.dg)]
theorem AI(x y:xQ)(h:cO x=cO y):x=y:=by
 obtain⟨v,s,e,d⟩:=x
 obtain⟨v',s',e',d'⟩:=y
 unfold cO at h
 injection h with _ h
 injection h with h1 h
 injection h with h2 h
 injection h with h3 h
 injection h with h4 _
 injection h4 with _ h4
 injection h1 with h1
 injection h2 with h2
 injection h3 with h3
 cases E9.1 h1
 cases E9.1 h2
 cases E9.1 h3
 cases tu h4
 rfl
def cL(m:xQ):Bool:=decide (0≤m.v)&&decide (m.v≤255)&&decide (4≤m.s)&&decide (m.s≤2048)&&decide (m.s.tmod 4=0)&&decide (0≤m.e)&&decide (m.e<m.s)&&decide (m.e.tmod 4=0)
noncomputable def BU:Fn:=lE (b8 cO) (fun _=>true) fun m=>(.raw (.bool (cL m)),[])
theorem YA (C : be) (hC : aI C P) : aO C.aZ P 84 (Fn.run BU) := by
 refine aH (p7 C hC) fun ds rows r h=>?_
 obtain⟨d,m,rfl,rfl,hd,hp,rfl⟩:=a8 h
 cases aF hd
 refine⟨rfl,ag rfl ?_⟩
 clear h hd
 obtain⟨v,s,e,dg⟩:=m
 unfold jG jH
 by_cases c1:0≤v
 case pos =>
  by_cases c2:v≤255
  case pos =>
   by_cases c3:4≤s
   case pos =>
    by_cases c4:s≤2048
    case pos =>
     by_cases c5:s.tmod 4=0
     case pos=>
      by_cases c6:0≤e
      case pos=>
       by_cases c7:e<s
       case pos=>
        by_cases c8:e.tmod 4=0
        case pos=>
         simp only[↓aj,ak,simprocAttr,aa,cL,cO,c1,c2,c3,c4,c5,c6,c7,c8,decide_true,decide_false]
         exact .val _ rfl
        case neg=>
         simp only[↓aj,ak,simprocAttr,aa,cL,cO,c1,c2,c3,c4,c5,c6,c7,c8,decide_true,decide_false]
         exact .val _ rfl
       case neg=>
        simp only[↓aj,ak,simprocAttr,aa,cL,cO,c1,c2,c3,c4,c5,c6,c7,decide_true,decide_false]
        exact .val _ rfl
      case neg=>
       simp only[↓aj,ak,simprocAttr,aa,cL,cO,c1,c2,c3,c4,c5,c6,decide_true,decide_false]
       exact .val _ rfl
     case neg=>
      simp only[↓aj,ak,simprocAttr,aa,cL,cO,c1,c2,c3,c4,c5,decide_true,decide_false]
      exact .val _ rfl
    case neg=>
     simp only[↓aj,ak,simprocAttr,aa,cL,cO,c1,c2,c3,c4,decide_true,decide_false]
     exact .val _ rfl
   case neg=>
    simp only[↓aj,ak,simprocAttr,aa,cL,cO,c1,c2,c3,decide_true,decide_false]
    exact .val _ rfl
  case neg=>
   by_cases c3:4≤s
   case pos=>
    by_cases c4:s≤2048
    case pos=>
     by_cases c5:s.tmod 4=0
     case pos=>
      simp only[↓aj,ak,simprocAttr,aa,cL,cO,c1,c2,c3,c4,c5,decide_true,decide_false]
      exact .val _ rfl
     case neg=>
      simp only[↓aj,ak,simprocAttr,aa,cL,cO,c1,c2,c3,c4,c5,decide_true,decide_false]
      exact .val _ rfl
    case neg=>
     simp only[↓aj,ak,simprocAttr,aa,cL,cO,c1,c2,c3,c4,decide_true,decide_false]
     exact .val _ rfl
   case neg=>
    simp only[↓aj,ak,simprocAttr,aa,cL,cO,c1,c2,c3,decide_true,decide_false]
    exact .val _ rfl
 case neg=>
  by_cases c3:4≤s
  case pos=>
   by_cases c4:s≤2048
   case pos=>
    by_cases c5:s.tmod 4=0
    case pos=>
     simp only[↓aj,ak,simprocAttr,aa,cL,cO,c1,c3,c4,c5,decide_true,decide_false]
     exact .val _ rfl
    case neg=>
     simp only[↓aj,ak,simprocAttr,aa,cL,cO,c1,c3,c4,c5,decide_true,decide_false]
     exact .val _ rfl
   case neg=>
    simp only[↓aj,ak,simprocAttr,aa,cL,cO,c1,c3,c4,decide_true,decide_false]
    exact .val _ rfl
  case neg=>
   simp only[↓aj,ak,simprocAttr,aa,cL,cO,c1,c3,decide_true,decide_false]
   exact .val _ rfl
theorem rright_ok (C : be) (hC : aI C P) : aO C.aZ P 136 (Fn.run BU) := by
 refine aH (ZM C hC) fun ds rows r h=>?_
 obtain⟨d,m,rfl,rfl,hd,hp,rfl⟩:=a8 h
 cases aF hd
 refine⟨rfl,ag rfl ?_⟩
 clear h hd
 obtain⟨v,s,e,dg⟩:=m
 unfold PH PI
 by_cases c1:0≤v
 case pos =>
  by_cases c2:v≤255
  case pos =>
   by_cases c3:4≤s
   case pos =>
    by_cases c4:s≤2048
    case pos =>
     by_cases c5:s.tmod 4=0
     case pos=>
      by_cases c6:0≤e
      case pos=>
       by_cases c8:e.tmod 4=0
       case pos=>
        by_cases c7:e<s
        case pos=>
         simp only[↓aj,ak,simprocAttr,aa,cL,cO,c1,c2,c3,c4,c5,c6,c8,c7,decide_true,decide_false]
         exact .val _ rfl
        case neg=>
         simp only[↓aj,ak,simprocAttr,aa,cL,cO,c1,c2,c3,c4,c5,c6,c8,c7,decide_true,decide_false]
         exact .val _ rfl
       case neg=>
        simp only[↓aj,ak,simprocAttr,aa,cL,cO,c1,c2,c3,c4,c5,c6,c8,decide_true,decide_false]
        exact .val _ rfl
      case neg=>
       simp only[↓aj,ak,simprocAttr,aa,cL,cO,c1,c2,c3,c4,c5,c6,decide_true,decide_false]
       exact .val _ rfl
     case neg=>
      simp only[↓aj,ak,simprocAttr,aa,cL,cO,c1,c2,c3,c4,c5,decide_true,decide_false]
      exact .val _ rfl
    case neg=>
     simp only[↓aj,ak,simprocAttr,aa,cL,cO,c1,c2,c3,c4,decide_true,decide_false]
     exact .val _ rfl
   case neg=>
    simp only[↓aj,ak,simprocAttr,aa,cL,cO,c1,c2,c3,decide_true,decide_false]
    exact .val _ rfl
  case neg=>
   simp only[↓aj,ak,simprocAttr,aa,cL,cO,c1,c2,decide_true,decide_false]
   exact .val _ rfl
 case neg=>
  simp only[↓aj,ak,simprocAttr,aa,cL,cO,c1,decide_true,decide_false]
  exact .val _ rfl
theorem AJ(m:xQ):aQ (cO m)=false:=by simp[cO,aQ,aN,Sh.pure]
theorem fA(m:xQ):(cO m).fits SM=true:=by simp[cO,D.fits]
theorem Gu(n:Nat)(m:xQ):shift n (cO m)=cO m:=by simp[cO,shift,Sh.pure]
theorem Pw(rows:Rows)(k:D→Rows→Prop)(m:xQ):aJ BU rows k [cO m]=k (.raw (.bool (cL m))) rows:=by
 refine(bi (by simp[aN,AJ]) (r:=(.raw (.bool (cL m)),[])) ?_).trans ?_
 ·rw[BU,ei (bV AI m) rfl]
 ·simp[shift,ae]
def qU:List (BitVec 8):=[67#8,85#8,82#8,84#8]
def cB(m:xQ):List (BitVec 8):=qU++eR m.v.toNat++eR m.s.toNat++eR m.e.toNat++m.dg
noncomputable def tB:Fn:=lE (b8 cO) (fun m=>decide (m.dg.length=32)) fun m=>bif cL m then(.cA [.sl L8 0 [] 0 48 false,.raw (it 0)],[some ⟨L8,bs (cB m)⟩])else(.cA [.raw (.slice none 0 0),.raw (it 1)],[])
def Px(m:xQ):Nat→List (BitVec 8)
 |0=>qU
 |1=>qU++eR m.v.toNat
 |2=>qU++eR m.v.toNat++eR m.s.toNat
 | _=>qU++eR m.v.toNat++eR m.s.toNat++eR m.e.toNat
theorem wK{m:xQ}(h:cL m=true):∃v s e:Nat,m.v=v∧m.s=s∧m.e=e∧v≤255∧s≤2048∧4≤s∧e<s∧s %4=0∧e %4=0:=by
 simp only[cL,Bool.and_eq_true,decide_eq_true_eq]at h
 obtain⟨⟨⟨⟨⟨⟨⟨h1,h2⟩,h3⟩,h4⟩,h5⟩,h6⟩,h7⟩,h8⟩:=h
 obtain⟨v,hv⟩:=Int.eq_ofNat_of_zero_le h1
 obtain⟨s,hs⟩:=Int.eq_ofNat_of_zero_le (by omega:0≤m.s)
 obtain⟨e,he⟩:=Int.eq_ofNat_of_zero_le h6
 rw[hs]at h5
 rw[he]at h8
 have h5':(s:Int).tmod 4=((s %4:Nat):Int):=rfl
 have h8':(e:Int).tmod 4=((e %4:Nat):Int):=rfl
 rw[h5']at h5
 rw[h8']at h8
 exact⟨v,s,e,hv,hs,he,by omega,by omega,by omega,by omega,by omega,by omega⟩
theorem body_ok(C:be)(hC:aI C P)(hr:C.fn 84=some BU):aO C.aZ P 31 (Fn.run tB):=by
 refine aH (qO C hC) fun ds rows r h=>?_
 obtain⟨d,m,rfl,rfl,hd,hp,rfl⟩:=a8 h
 cases aF hd
 simp only[decide_eq_true_eq]at hp
 refine⟨rfl,ag rfl ?_⟩
 clear h hd
 unfold jT jU
 cases hk:cL m
 ·simp only[↓aj,ak,simprocAttr,aa,fA,hr,Pw,hk,cond_false]
  exact .val _ rfl
 ·obtain⟨v,s,e,hv,hs,he,b1,b2,b3,b4,-,-⟩:=wK hk
  have e1:∀n:Nat,(n:Int).fdiv (2^(min 24 64))=((n/16777216:Nat):Int):=fun n=>nI n 16777216
  have e2:∀n:Nat,(n:Int).fdiv (2^(min 16 64))=((n/65536:Nat):Int):=fun n=>nI n 65536
  have e3:∀n:Nat,(n:Int).fdiv (2^(min 8 64))=((n/256:Nat):Int):=fun n=>nI n 256
  have e4:∀m:Nat,BitVec.ofInt 8 (m:Int)=BitVec.ofNat 8 m:=fun m=>rfl
  have hg:cO m= .agg SM [.raw (it (v:Int)),.raw (it (s:Int)),.raw (it (e:Int)),.agg (.ar 32 L8) (bs m.dg)]:=by rw[cO,hv,hs,he]
  have Vc:=fA m
  have hkm:=fun rows k=>Pw rows k m
  rw[hk]at hkm
  rw[hg]at Vc hkm⊢
  simp only[↓aj,ak,simprocAttr,aa,Vc,hr,hkm,cond_true]
  refine bB 3 (fun i env rows=>∃x,has env [(1,.ptr SM 0 [0]),(4,x),(18,.sl LI 2 [] 0 3 true),(19,.raw (it 3)),(20,.raw (it (i:Int)))]∧
   iK L8 x rows (bs (Px m i))∧live rows 0=some ⟨SM,[.agg SM [.raw (it (v:Int)),.raw (it (s:Int)),.raw (it (e:Int)),.agg (.ar 32 L8) (bs m.dg)]]⟩∧live rows 2=some ⟨LI,[.raw (it (v:Int)),.raw (it (s:Int)),.raw (it (e:Int))]⟩) ?_ ?_ ⟨.sl L8 1 [] 0 4 true,?_,.inr ⟨1,true,rfl,rfl⟩,rfl,rfl⟩
  ·rintro i hi env rows ⟨x,hh,how,r0,r2⟩ R hR
   simp only[has]at hh
   have Dn:i=0∨i=1∨i=2:=by omega
   have n0:=ia how r0 (by decide)
   have n2:=ia how r2 (by decide)
   rcases Dn with rfl|rfl|rfl
   all_goals
    simp only[↓aj,ak,simprocAttr,aa,aX,hh,r0,r2,Kp,e1,e2,e3,e4]
    refine iX how.push (by rw[aC];simp[Px,eR,qU,most]) (by rw[aC];simp[Px,eR,qU,most]) ?_
    intro x' r' how' Lf _ _
    simp only[↓aj,ak,simprocAttr,aa,hh]
    refine hR _ _ ⟨x',?_,?_,Lf 0 _ (aA r0 _) (fun ex=>n0 ex _),Lf 2 _ (aA r2 _) (fun ex=>n2 ex _)⟩
    ·simp only[has,↓aj,ak,simprocAttr,aa,hh]
    ·have sO:∀n l,bs l++[.raw (u8 (BitVec.ofNat 8 (n/16777216))),.raw (u8 (BitVec.ofNat 8 (n/65536))),.raw (u8 (BitVec.ofNat 8 (n/256))),.raw (u8 (BitVec.ofNat 8 n))]=bs (l++eR n):=fun n l=>by rw[←nU];rfl
     rw[sO]at how'
     simpa only[Px,hv,hs,he,Int.toNat_natCast]using how'
  ·rintro env rows ⟨x,hh,how,r0,r2⟩ R
   simp only[has]at hh
   have e16:(bs m.dg).length=32:=by rw[aC,hp]
   have hE:Am.elems rows (.sl L8 0 [0,3] 0 32 true)=some (bs m.dg):=by
    simp only[Am.elems,r0]
    show some (List.take 32 ((bs m.dg).drop 0))=_
    rw[List.drop_zero,List.take_of_length_le (by omega)]
   simp only[↓aj,ak,simprocAttr,aa,aX,hh,r0,r2,hE,e16]
   have b16:(bs (Px m 3)).length=16:=by rw[aC];simp[Px,eR,qU]
   refine iX how (by rw[e16,b16];decide) (by rw[e16,b16];decide) ?_
   intro x' r' how' _ _ _
   simp only[↓aj,ak,simprocAttr,aa,hh,how'.mI]
   have hb:bs (Px m 3)++bs m.dg=bs (cB m):=by rw[nU];rfl
   have hn:(bs (cB m)).length=48:=by rw[←hb,List.length_append,b16,e16]
   rw[hb]at how'
   rcases how' with⟨h1,-⟩|⟨r2,Jk,rfl,G1⟩
   ·rw[h1]at hn;simp at hn
   ·rw[hn]
    exact .G9 L8 r2 0 48 Jk false ⟨L8,_⟩ [.raw (it 0)] G1 rfl rfl (fun h=>by cases h)
  ·simp only[has,↓aj,ak,simprocAttr,aa]
theorem pH(m:xQ)(h:m.dg.length=32):(cB m).length=48:=by simp[cB,qU,eR,h]
theorem Py(rows:Rows)(k:D→Rows→Prop)(m:xQ)(h:m.dg.length=32)(hk:cL m=true):aJ tB rows k [cO m]=k (.cA [.sl L8 (0+rows.length) [] 0 48 false,.raw (it 0)]) (rows++[some ⟨L8,bs (cB m)⟩]):=by
 refine(bi (by simp[aN,AJ]) (r:=(.cA [.sl L8 0 [] 0 48 false,.raw (it 0)],[some ⟨L8,bs (cB m)⟩])) ?_).trans ?_
 ·rw[tB,ei (bV AI m) (by simp[h]),hk];rfl
 ·simp[shift,bh,ae,Sh.pure]
theorem kBodyN(rows:Rows)(k:D→Rows→Prop)(m:xQ)(h:m.dg.length=32)(hk:cL m=false):aJ tB rows k [cO m]=k (.cA [.raw (.slice none 0 0),.raw (it 1)]) rows:=by
 refine(bi (by simp[aN,AJ]) (r:=(.cA [.raw (.slice none 0 0),.raw (it 1)],[])) ?_).trans ?_
 ·rw[tB,ei (bV AI m) (by simp[h]),hk];rfl
 ·simp[shift,bh,ae]
def eS:xQ:=⟨0,0,0,ug⟩
def qH(p:List (BitVec 8)):xQ:=⟨(cY (p.drop 4)).toNat,(cY (p.drop 8)).toNat,(cY (p.drop 12)).toNat,p.drop 16⟩
def cZ(p:List (BitVec 8)):xQ×Int:=
 bif decide (p.length=48)&&decide (p.take 4=qU)then
  (bif cL (qH p)then(qH p,0)else(eS,1))
 else(eS,2)
noncomputable def BV:Fn:=lE dN (fun a=>Nat.ble a.length most) fun p=>(.cA [cO (cZ p).1,.raw (it (cZ p).2)],[])
theorem Pz(rows:Rows)(k:D→Rows→Prop)(x:List (BitVec 8))(e:Bool)(h:4≤x.length):aJ fNum rows k [.cF L8 (bs x) e]=k (.raw (it (((cY x).toNat:Nat):Int))) rows:=by
 refine(bi rfl (ei (zp x e) (by simpa using h))).trans ?_
 simp[shift,ae]
theorem manD_mk(a b c:Int)(l:List (BitVec 8)):D.agg SM [.raw (it a),.raw (it b),.raw (it c),.agg (.ar 32 L8) (bs l)]=cO ⟨a,b,c,l⟩:=rfl
theorem vV:D.agg SM [.raw (it 0),.raw (it 0),.raw (it 0),.agg (.ar 32 L8) (List.replicate 32 (.raw (u8 0#8)))]=cO eS:=by rw[cO,eS,ug,Xg]
set_option maxHeartbeats 2000000 in
theorem YB(C:be)(hC:aI C P)(h15:C.fn 84=some BU)(h17:C.fn 210=some fPre)(h18:C.fn 211=some fNum):aO C.aZ P 201 (Fn.run BV):=by
 refine cr (BB C hC) fun ds rows r h=>?_
 obtain⟨d,p,rfl,rfl,hd,hp,rfl⟩:=a8 h
 obtain⟨x,hx⟩:=cy hd
 refine⟨rfl,_,.cons hx .nil,ag rfl ?_⟩
 simp only[Nat.ble_eq]at hp
 unfold most at hp
 clear h hx hd
 unfold rV rX
 have hz:=vV
 have hfz:=fA eS
 have hT:[D.raw (u8 67#8),D.raw (u8 85#8),D.raw (u8 82#8),D.raw (u8 84#8)]=bs qU:=rfl
 by_cases hl:p.length=48
 ·have hq:cZ p=if p.take 4=qU then(if cL (qH p)then(qH p,0)else(eS,1))else(eS,2):=by
   simp only[cZ,hl,decide_true,Bool.true_and]
   by_cases h1:p.take 4=qU<;>cases h2:cL (qH p)<;>simp[h1]
  have h4:(4:Nat)≤qU.length:=by decide
  simp only[↓aj,ak,simprocAttr,aa,aC,hl,h17,hT,hz,hfz]
  refine⟨h4,Eq.mpr (kPre _ _ _ _ p qU (ec.to (.inr ⟨x,rfl⟩)) (iK.to (.inr ⟨1,true,rfl,rfl⟩)) (by omega) (by decide)) ?_⟩
  have t4:qU.length=4:=rfl
  have G1:((4:Nat)≤p.length)=True:=eq_true (by omega)
  have d4:4≤(p.drop 4).length:=by rw[List.length_drop];omega
  have d8:4≤(p.drop 8).length:=by rw[List.length_drop];omega
  have d12:4≤(p.drop 12).length:=by rw[List.length_drop];omega
  have tk4:(bs (p.drop 4)).take 44=bs (p.drop 4):=List.take_of_length_le (by rw[aC,List.length_drop];omega)
  have tk8:(bs (p.drop 8)).take 40=bs (p.drop 8):=List.take_of_length_le (by rw[aC,List.length_drop];omega)
  have tk12:(bs (p.drop 12)).take 36=bs (p.drop 12):=List.take_of_length_le (by rw[aC,List.length_drop];omega)
  have tk16:(bs (p.drop 16)).take 32=bs (p.drop 16):=List.take_of_length_le (by rw[aC,List.length_drop];omega)
  simp only[t4,G1,decide_true,Bool.true_and]
  by_cases ht:p.take 4=qU
  ·have hmo:∀l,D.agg SM [.raw (it ((cY (p.drop 4)).toNat:Int)),.raw (it ((cY (p.drop 8)).toNat:Int)),.raw (it ((cY (p.drop 12)).toNat:Int)),.agg (.ar 32 L8) (bs l)]=cO ⟨(cY (p.drop 4)).toNat,(cY (p.drop 8)).toNat,(cY (p.drop 12)).toNat,l⟩:=fun l=>rfl
   have hmf:cO ⟨(cY (p.drop 4)).toNat,(cY (p.drop 8)).toNat,(cY (p.drop 12)).toNat,p.drop 16⟩=cO (qH p):=rfl
   have Vc:=fA (qH p)
   simp only[hq,ht,if_true,decide_true]
   simp only[↓aj,ak,simprocAttr,aa,aC,hl,h18,fw,tk4,tk8,tk12,tk16,Pz _ _ _ _ d4,Pz _ _ _ _ d8,Pz _ _ _ _ d12,List.length_drop,hmo,hmf,Vc,h15,Pw]
   cases hk:cL (qH p)
   ·simp only[↓aj,ak,simprocAttr,aa,hz,hfz]
    exact .val _ rfl
   ·simp only[↓aj,ak,simprocAttr,aa,Vc]
    exact .val _ rfl
  ·simp only[hq,ht,if_false,decide_false]
   simp only[↓aj,ak,simprocAttr,aa,hz,hfz]
   exact .val _ rfl
 ·have wx:((p.length:Int)=48)=False:=eq_false (by omega)
  have hq:cZ p=(eS,2):=by simp[cZ,hl]
  rw[hq]
  simp only[↓aj,ak,simprocAttr,aa,aC,wx,hz,hfz]
  exact .val _ rfl
set_option maxHeartbeats 2000000 in
theorem aai(C:be)(hC:aI C P)(h15:C.fn 136=some BU)(h19:C.fn 75=some Rs):aO C.aZ P 74 (Fn.run BV):=by
 refine cr (ZK C hC) fun ds rows r h=>?_
 obtain⟨d,p,rfl,rfl,hd,hp,rfl⟩:=a8 h
 obtain⟨x,hx⟩:=cy hd
 refine⟨rfl,_,.cons hx .nil,ag rfl ?_⟩
 simp only[Nat.ble_eq]at hp
 unfold most at hp
 clear h hx hd
 unfold Fa M9
 have hz:=vV
 have hfz:=fA eS
 by_cases hl:p.length=48
 ·have hq:cZ p=if p.take 4=qU then(if cL (qH p)then(qH p,0)else(eS,1))else(eS,2):=by
   simp only[cZ,hl,decide_true,Bool.true_and]
   by_cases h1:p.take 4=qU<;>cases h2:cL (qH p)<;>simp[h1]
  have d4:((p.drop 4).take 4).length≤64:=by rw[List.length_take];omega
  have d8:((p.drop 8).take 4).length≤64:=by rw[List.length_take];omega
  have d12:((p.drop 12).take 4).length≤64:=by rw[List.length_take];omega
  have tk16:(bs (p.drop 16)).take 32=bs (p.drop 16):=List.take_of_length_le (by rw[aC,List.length_drop];omega)
  have hsh:∀l e,eK L8 (.cF L8 (bs l) e)=true:=fun l e=>ec.eK (.inr ⟨e,rfl⟩)
  have hst:(⟨(ub (p.take 4)).toArray⟩:ByteArray).toList=ub (p.take 4):=by rw[ByteArray.toList_eq]
  have N0:(⟨#[67,85,82,84]⟩:ByteArray).toList=ub qU:=by rw[ByteArray.toList_eq];rfl
  simp only[↓aj,ak,simprocAttr,aa,aC,hl,ey,fw,hsh,QE,hst,N0,ub_beq,h19,hz,hfz]
  by_cases ht:p.take 4=qU
  ·obtain⟨-,v1⟩:=val_q (p.drop 4) (by rw[List.length_drop];omega)
   obtain⟨-,v2⟩:=val_q (p.drop 8) (by rw[List.length_drop];omega)
   obtain⟨-,v3⟩:=val_q (p.drop 12) (by rw[List.length_drop];omega)
   have hmo:∀l,D.agg SM [.raw (it ((cY (p.drop 4)).toNat:Int)),.raw (it ((cY (p.drop 8)).toNat:Int)),.raw (it ((cY (p.drop 12)).toNat:Int)),.agg (.ar 32 L8) (bs l)]=cO ⟨(cY (p.drop 4)).toNat,(cY (p.drop 8)).toNat,(cY (p.drop 12)).toNat,l⟩:=fun l=>rfl
   have hmf:cO ⟨(cY (p.drop 4)).toNat,(cY (p.drop 8)).toNat,(cY (p.drop 12)).toNat,p.drop 16⟩=cO (qH p):=rfl
   have Vc:=fA (qH p)
   simp only[hq,ht,if_true,decide_true]
   simp only[↓aj,ak,simprocAttr,aa,aC,hl,h19,fw,ey,tk16,kVal _ _ _ _ d4,kVal _ _ _ _ d8,kVal _ _ _ _ d12,List.length_drop,v1,v2,v3,hmo,hmf,Vc,h15,Pw]
   cases hk:cL (qH p)
   ·simp only[↓aj,ak,simprocAttr,aa,hz,hfz]
    exact .val _ rfl
   ·simp only[↓aj,ak,simprocAttr,aa,Vc]
    exact .val _ rfl
  ·simp only[hq,ht,if_false,decide_false]
   simp only[↓aj,ak,simprocAttr,aa,hz,hfz]
   exact .val _ rfl
 ·have wx:((p.length:Int)=48)=False:=eq_false (by omega)
  have hq:cZ p=(eS,2):=by simp[cZ,hl]
  rw[hq]
  simp only[↓aj,ak,simprocAttr,aa,aC,wx,hz,hfz]
  exact .val _ rfl
theorem kParse(rows:Rows)(k:D→Rows→Prop)(d:D)(p:List (BitVec 8))(h:bc rows d p)(hp:p.length≤1099511627776):aJ BV rows k [d]=k (.cA [cO (cZ p).1,.raw (it (cZ p).2)]) rows:=by
 refine(rE h (by simpa[most]using hp) ?_).trans ?_
 ·simp[cO,bZ,fI,aS,Sh.pure]
 ·simp[shift,bh,Gu,ae]
def ofS(v e:Int)(p:List (BitVec 8)):xQ:=⟨v,p.length,e,dU p⟩
noncomputable def fOf:Fn:=G2 rC rC dN (fun _ _ p=>Nat.ble p.length 1099511627000) fun v e p=>(cO (ofS v e p),[])
theorem of_ok(C:be)(hC:aI C P)(hs:C.fn 95=some BI):aO C.aZ P 52 (Fn.run fOf):=by
 refine cr (Hc C hC) fun ds rows r h=>?_
 obtain⟨d,e,f,v,en,p,rfl,rfl,hd,he,hf,hp,rfl⟩:=fq h
 cases bX hd
 cases bX he
 obtain⟨x,hx⟩:=cy hf
 refine⟨rfl,_,.cons (.refl _) (.cons (.refl _) (.cons hx .nil)),ag rfl ?_⟩
 simp only[Nat.ble_eq]at hp
 clear h hd he hf hx
 unfold xn xp
 have ks:=fun k=>O2 [some ⟨SM,[cO eS]⟩,some ⟨.ref,[.cF L8 (bs p) x]⟩] k 1 1 true [.cF L8 (bs p) x] [p] rfl rfl (.cons (ec.to (.inr ⟨x,rfl⟩)) .nil) (by simp) (by simp;omega)
 simp only[List.flatten_cons,List.flatten_nil,List.append_nil]at ks
 have hz:=vV
 have hfz:=fA eS
 have hmo:=manD_mk
 have Vc:=fA (ofS v en p)
 have hmf:cO ⟨v,p.length,en,dU p⟩=cO (ofS v en p):=rfl
 simp only[-List.reduceReplicate,vV]
 simp only[↓aj,ak,simprocAttr,aa,aC,hz,hfz,hs,ks,hmo,hmf,Vc]
 exact .val _ (AJ _)
theorem kOf(rows:Rows)(k:D→Rows→Prop)(v e:Int)(d:D)(p:List (BitVec 8))(h:bc rows d p)(hp:p.length≤1099511627000):aJ fOf rows k [.raw (it v),.raw (it e),d]=k (cO (ofS v e p)) rows:=by
 refine(fT (.int v) (.int e) (.bs h) (by simpa using hp) ?_ k).trans ?_
 ·simp[cO,bZ,fI,aS,Sh.pure]
 ·simp[Gu,ae]
theorem Gv(n:Nat)(h:n<4294967296)(l:List (BitVec 8)):(cY (eR n++l)).toNat=n:=by
 have e:cY (eR n++l)=cY [BitVec.ofNat 8 (n/16777216),BitVec.ofNat 8 (n/65536),BitVec.ofNat 8 (n/256),BitVec.ofNat 8 n]:=rfl
 rw[e,Ml]
 simp only[BitVec.toNat_ofNat]
 omega
theorem PA(m:xQ)(hl:m.dg.length=32)(hk:cL m=true):cZ (cB m)=(m,0):=by
 obtain⟨v,s,e,hv,hs,he,b1,b2,b3,b4,-,-⟩:=wK hk
 have d4:(cB m).drop 4=eR m.v.toNat++(eR m.s.toNat++(eR m.e.toNat++m.dg)):=by
  simp only[cB,List.append_assoc];rfl
 have d8:(cB m).drop 8=eR m.s.toNat++(eR m.e.toNat++m.dg):=by
  simp only[cB,List.append_assoc];rfl
 have d12:(cB m).drop 12=eR m.e.toNat++m.dg:=by
  simp only[cB,List.append_assoc];rfl
 have d16:(cB m).drop 16=m.dg:=by
  simp only[cB,List.append_assoc];rfl
 have t4:(cB m).take 4=qU:=by
  simp only[cB,List.append_assoc];rfl
 have hm:qH (cB m)=m:=by
  obtain⟨v',s',e',dg⟩:=m
  simp only at hv hs he
  subst hv hs he
  simp only[qH,d4,d8,d12,d16,Int.toNat_natCast]
  rw[Gv v (by omega),Gv s (by omega),Gv e (by omega)]
 simp only[cZ,pH m hl,t4,hm,hk,decide_true,Bool.and_self,cond_true]
theorem YC(p:List (BitVec 8)):(cZ p).1.dg.length=32:=by
 unfold cZ
 cases h1:decide (p.length=48)<;>cases h2:decide (p.take 4=qU)<;>simp only[Bool.and_self,Bool.and_true,Bool.and_false,Bool.false_and,cond_false,cond_true]<;>try rfl
 cases cL (qH p)<;>simp only[cond_false,cond_true]
 ·rfl
 ·have:=of_decide_eq_true h1
  simp only[qH,List.length_drop];omega
end iC
end Go.Am


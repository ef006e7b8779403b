import Derived.Test.YtgcejocgnfkciaaGreatDoorKr16
namespace Go.Am
set_option linter.unusedSimpArgs false
set_option linter.unusedVariables false
attribute [local congr] cd bt cg bu bw bO bg bx bz bP a7 bQ bA b9
namespace iC
open Go.Am.F
set_option maxRecDepth 10000
theorem Mz(m b:Nat)(kd:IntKind)(hb:b≤64)(hm:m*2^b<9223372036854775808)(k:D→Prop):bE .shl (it (m:Int)) (.int kd (b:Int)) k=k (.raw (it ((m*2^b:Nat):Int))):=by
 have e:IntKind.i64.wrap ((m:Int)*2^(min (b:Int).toNat IntKind.i64.bits))=((m*2^b:Nat):Int):=by
  have:min (b:Int).toNat IntKind.i64.bits=b:=by show min (b:Int).toNat 64=b;omega
  rw[this,show((2:Int)^b)=((2^b:Nat):Int) by simp,←Int.natCast_mul]
  exact bf (by omega)
 simp only[bE,it]
 rw[e]
 simp
def w4(w:Nat):Bool:=decide (w=1)||decide (w=2)||decide (w=4)||decide (w=8)
theorem Iw{w:Nat}:w4 w=true↔w=1∨w=2∨w=4∨w=8:=by simp[w4];omega
noncomputable def TL:Fn:=lE (b8 iR) (fun x=>w4 x.w) fun x=>(.raw (it ((2^x.w-1:Nat):Int)),[])
theorem end_ok(C:be)(hC:aI C P):aO C.aZ P 99 (Fn.run TL):=by
 refine aH (Dv C hC) fun ds rows r h=>?_
 obtain⟨d,x,rfl,rfl,hd,hp,rfl⟩:=a8 h
 cases aF hd
 have hp:=Iw.1 hp
 refine⟨rfl,ag rfl ?_⟩
 clear h hd
 unfold tP tQ
 obtain⟨w,p,l⟩:=x
 have hf:∀x,(iR x).fits pD=true:=fun x=>rfl
 have NS:∀w p l,(iR ⟨w,p,l⟩).get [0]=some (.raw (it (w:Int))):=fun w p l=>rfl
 have s1:∀k,bE .shl (it 1) (it 1) k=k (.raw (it 2)):=fun k=>Mz 1 1 .i64 (by decide) (by decide) k
 have s2:∀k,bE .shl (it 1) (it 2) k=k (.raw (it 4)):=fun k=>Mz 1 2 .i64 (by decide) (by decide) k
 have s4:∀k,bE .shl (it 1) (it 4) k=k (.raw (it 16)):=fun k=>Mz 1 4 .i64 (by decide) (by decide) k
 have s8:∀k,bE .shl (it 1) (it 8) k=k (.raw (it 256)):=fun k=>Mz 1 8 .i64 (by decide) (by decide) k
 rcases hp with rfl|rfl|rfl|rfl
 ·simp only[↓aj,ak,simprocAttr,aa,aX,hf,NS,s1]
  exact .val _ rfl
 ·simp only[↓aj,ak,simprocAttr,aa,aX,hf,NS,s2]
  exact .val _ rfl
 ·simp only[↓aj,ak,simprocAttr,aa,aX,hf,NS,s4]
  exact .val _ rfl
 ·simp only[↓aj,ak,simprocAttr,aa,aX,hf,NS,s8]
  exact .val _ rfl
theorem kEnd(rows:Rows)(k:D→Rows→Prop)(x:Z5)(h:w4 x.w=true):aJ TL rows k [iR x]=k (.raw (it ((2^x.w-1:Nat):Int))) rows:=by
 refine(cC (Xx x) h rfl k).trans ?_
 simp[shift,ae]
def qC(p:List (BitVec 8))(i w:Nat):Nat:=((p.getD (i/(8/w)) 0#8>>>(8-w*(i %(8/w))-w))&&&BitVec.ofNat 8 (2^w-1)).toNat
def gj(p:List (BitVec 8))(i w:Int):Int:=if(w=1∨w=2∨w=4∨w=8)∧0≤i∧i<(p.length*(8/w.toNat):Nat)then(qC p i.toNat w.toNat:Int)else 0
def MA:Fn:=G2 dN rC rC (fun p _ _=>decide (p.length≤1099511627776)) fun p i w=>(.raw (it (gj p i w)),[])
theorem coef_ok(C:be)(hC:aI C P):aO C.aZ P 166 (Fn.run MA):=by
 refine aH (OP C hC) fun ds rows r h=>?_
 obtain⟨d,d1,d2,p,i,w,rfl,rfl,g0,g1,g2,hp,rfl⟩:=fq h
 have gb:=eU g0
 cases bX g1
 cases bX g2
 simp only[decide_eq_true_eq]at hp
 refine⟨rfl,ag rfl ?_⟩
 clear h g0 g1 g2
 have jO:=gb.dK
 unfold FJ FK
 have hfit:d.fits .ref=true:=by rcases gb with⟨rfl,_⟩|⟨e,rfl⟩<;>rfl
 by_cases c4:w=4
 ·subst c4
  by_cases h0:i<0
  ·have Aq:(i<0)=True:=eq_true h0
   have hz:gj p i 4=0:=by rw[gj,if_neg (fun h=>by omega)]
   rw[hz]
   simp only[↓aj,ak,simprocAttr,aa,jO,Aq,decide_true]
   exact .val _ rfl
  have Aq:(i<0)=False:=eq_false h0
  obtain⟨i,rfl⟩:=Int.eq_ofNat_of_zero_le (Int.not_lt.1 h0)
  have h84:wz (Int.tdiv 8 4)=2:=by decide
  have hm:wz ((p.length:Int)*2)=((p.length*2:Nat):Int):=by rw[bf (by omega)];omega
  by_cases hc:i<p.length*2
  ·have dZ:(((p.length*2:Nat):Int)≤(i:Int))=False:=eq_false (by omega)
   have hz:gj p (i:Int) 4=(qC p i 4:Int):=by
    rw[gj,if_pos ⟨by decide,by omega,by show(i:Int)<((p.length*2:Nat):Int);omega⟩]
    rfl
   have hr:i %2<2:=Nat.mod_lt _ (by decide)
   have q1:wz ((i:Int).tdiv 2)=((i/2:Nat):Int):=by rw[Int.tdiv_eq_ediv_of_nonneg (by omega),bf (by omega)];omega
   have q2:(i:Int).tmod 2=((i %2:Nat):Int):=by rw[Int.tmod_eq_emod_of_nonneg (by omega)];omega
   have q3:wz (4*((i %2:Nat):Int))=((4*(i %2):Nat):Int):=by rw[bf (by omega)];omega
   have q4:wz (8-((4*(i %2):Nat):Int))=((8-4*(i %2):Nat):Int):=by rw[bf (by omega)];omega
   have q5:wz (((8-4*(i %2):Nat):Int)-4)=((8-4*(i %2)-4:Nat):Int):=by rw[bf (by omega)];omega
   have b0:∀n:Nat,((0:Int)≤(n:Int))=True:=fun n=>eq_true (by omega)
   have ki:=fun k=>gh (k:=k) (rows:=([]:Rows)) (n:=((i/2:Nat):Int)) gb (by have:i/2<p.length:=Nat.div_lt_of_lt_mul (by rw[Nat.mul_comm];exact hc);omega)
   rw[hz]
   simp only[↓aj,ak,simprocAttr,aa,jO,Aq,h84,hm,dZ,q1,q2,q3,q4,q5,b0,ki,decide_false,Int.toNat_natCast]
   exact .val _ rfl
  ·have dZ:(((p.length*2:Nat):Int)≤(i:Int))=True:=eq_true (by omega)
   have hz:gj p (i:Int) 4=0:=by
    rw[gj,if_neg (fun h=>by have h2:(i:Int)<((p.length*2:Nat):Int):=h.2.2;omega)]
   rw[hz]
   simp only[↓aj,ak,simprocAttr,aa,jO,Aq,h84,hm,dZ,decide_true,decide_false]
   exact .val _ rfl
 have n4:(w=4)=False:=eq_false c4
 by_cases c1:w=1
 ·subst c1
  by_cases h0:i<0
  ·have Aq:(i<0)=True:=eq_true h0
   have hz:gj p i 1=0:=by rw[gj,if_neg (fun h=>by omega)]
   rw[hz]
   simp only[↓aj,ak,simprocAttr,aa,jO,Aq,decide_true]
   exact .val _ rfl
  have Aq:(i<0)=False:=eq_false h0
  obtain⟨i,rfl⟩:=Int.eq_ofNat_of_zero_le (Int.not_lt.1 h0)
  have h81:wz (Int.tdiv 8 1)=8:=by decide
  have hm:wz ((p.length:Int)*8)=((p.length*8:Nat):Int):=by rw[bf (by omega)];omega
  by_cases hc:i<p.length*8
  ·have dZ:(((p.length*8:Nat):Int)≤(i:Int))=False:=eq_false (by omega)
   have hz:gj p (i:Int) 1=(qC p i 1:Int):=by
    rw[gj,if_pos ⟨by decide,by omega,by show(i:Int)<((p.length*8:Nat):Int);omega⟩]
    rfl
   have hr:i %8<8:=Nat.mod_lt _ (by decide)
   have q1:wz ((i:Int).tdiv 8)=((i/8:Nat):Int):=by rw[Int.tdiv_eq_ediv_of_nonneg (by omega),bf (by omega)];omega
   have q2:(i:Int).tmod 8=((i %8:Nat):Int):=by rw[Int.tmod_eq_emod_of_nonneg (by omega)];omega
   have q3:wz (1*((i %8:Nat):Int))=((1*(i %8):Nat):Int):=by rw[bf (by omega)];omega
   have q4:wz (8-((1*(i %8):Nat):Int))=((8-1*(i %8):Nat):Int):=by rw[bf (by omega)];omega
   have q5:wz (((8-1*(i %8):Nat):Int)-1)=((8-1*(i %8)-1:Nat):Int):=by rw[bf (by omega)];omega
   have b0:∀n:Nat,((0:Int)≤(n:Int))=True:=fun n=>eq_true (by omega)
   have ki:=fun k=>gh (k:=k) (rows:=([]:Rows)) (n:=((i/8:Nat):Int)) gb (by have:i/8<p.length:=Nat.div_lt_of_lt_mul (by rw[Nat.mul_comm];exact hc);omega)
   rw[hz]
   simp only[↓aj,ak,simprocAttr,aa,jO,Aq,h81,hm,dZ,q1,q2,q3,q4,q5,b0,ki,decide_false,Int.toNat_natCast]
   exact .val _ rfl
  ·have dZ:(((p.length*8:Nat):Int)≤(i:Int))=True:=eq_true (by omega)
   have hz:gj p (i:Int) 1=0:=by
    rw[gj,if_neg (fun h=>by have h2:(i:Int)<((p.length*8:Nat):Int):=h.2.2;omega)]
   rw[hz]
   simp only[↓aj,ak,simprocAttr,aa,jO,Aq,h81,hm,dZ,decide_true,decide_false]
   exact .val _ rfl
 have n1:(w=1)=False:=eq_false c1
 by_cases c2:w=2
 ·subst c2
  by_cases h0:i<0
  ·have Aq:(i<0)=True:=eq_true h0
   have hz:gj p i 2=0:=by rw[gj,if_neg (fun h=>by omega)]
   rw[hz]
   simp only[↓aj,ak,simprocAttr,aa,jO,Aq,decide_true]
   exact .val _ rfl
  have Aq:(i<0)=False:=eq_false h0
  obtain⟨i,rfl⟩:=Int.eq_ofNat_of_zero_le (Int.not_lt.1 h0)
  have h82:wz (Int.tdiv 8 2)=4:=by decide
  have hm:wz ((p.length:Int)*4)=((p.length*4:Nat):Int):=by rw[bf (by omega)];omega
  by_cases hc:i<p.length*4
  ·have dZ:(((p.length*4:Nat):Int)≤(i:Int))=False:=eq_false (by omega)
   have hz:gj p (i:Int) 2=(qC p i 2:Int):=by
    rw[gj,if_pos ⟨by decide,by omega,by show(i:Int)<((p.length*4:Nat):Int);omega⟩]
    rfl
   have hr:i %4<4:=Nat.mod_lt _ (by decide)
   have q1:wz ((i:Int).tdiv 4)=((i/4:Nat):Int):=by rw[Int.tdiv_eq_ediv_of_nonneg (by omega),bf (by omega)];omega
   have q2:(i:Int).tmod 4=((i %4:Nat):Int):=by rw[Int.tmod_eq_emod_of_nonneg (by omega)];omega
   have q3:wz (2*((i %4:Nat):Int))=((2*(i %4):Nat):Int):=by rw[bf (by omega)];omega
   have q4:wz (8-((2*(i %4):Nat):Int))=((8-2*(i %4):Nat):Int):=by rw[bf (by omega)];omega
   have q5:wz (((8-2*(i %4):Nat):Int)-2)=((8-2*(i %4)-2:Nat):Int):=by rw[bf (by omega)];omega
   have b0:∀n:Nat,((0:Int)≤(n:Int))=True:=fun n=>eq_true (by omega)
   have ki:=fun k=>gh (k:=k) (rows:=([]:Rows)) (n:=((i/4:Nat):Int)) gb (by have:i/4<p.length:=Nat.div_lt_of_lt_mul (by rw[Nat.mul_comm];exact hc);omega)
   rw[hz]
   simp only[↓aj,ak,simprocAttr,aa,jO,Aq,h82,hm,dZ,q1,q2,q3,q4,q5,b0,ki,decide_false,Int.toNat_natCast]
   exact .val _ rfl
  ·have dZ:(((p.length*4:Nat):Int)≤(i:Int))=True:=eq_true (by omega)
   have hz:gj p (i:Int) 2=0:=by
    rw[gj,if_neg (fun h=>by have h2:(i:Int)<((p.length*4:Nat):Int):=h.2.2;omega)]
   rw[hz]
   simp only[↓aj,ak,simprocAttr,aa,jO,Aq,h82,hm,dZ,decide_true,decide_false]
   exact .val _ rfl
 have n2:(w=2)=False:=eq_false c2
 by_cases c8:w=8
 ·subst c8
  by_cases h0:i<0
  ·have Aq:(i<0)=True:=eq_true h0
   have hz:gj p i 8=0:=by rw[gj,if_neg (fun h=>by omega)]
   rw[hz]
   simp only[↓aj,ak,simprocAttr,aa,jO,Aq,decide_true]
   exact .val _ rfl
  have Aq:(i<0)=False:=eq_false h0
  obtain⟨i,rfl⟩:=Int.eq_ofNat_of_zero_le (Int.not_lt.1 h0)
  have h88:wz (Int.tdiv 8 8)=1:=by decide
  have hm:wz ((p.length:Int)*1)=((p.length*1:Nat):Int):=by rw[bf (by omega)];omega
  by_cases hc:i<p.length*1
  ·have dZ:(((p.length*1:Nat):Int)≤(i:Int))=False:=eq_false (by omega)
   have hz:gj p (i:Int) 8=(qC p i 8:Int):=by
    rw[gj,if_pos ⟨by decide,by omega,by show(i:Int)<((p.length*1:Nat):Int);omega⟩]
    rfl
   have hr:i %1<1:=Nat.mod_lt _ (by decide)
   have q1:wz ((i:Int).tdiv 1)=((i/1:Nat):Int):=by rw[Int.tdiv_eq_ediv_of_nonneg (by omega),bf (by omega)];omega
   have q2:(i:Int).tmod 1=((i %1:Nat):Int):=by rw[Int.tmod_eq_emod_of_nonneg (by omega)];omega
   have q3:wz (8*((i %1:Nat):Int))=((8*(i %1):Nat):Int):=by rw[bf (by omega)];omega
   have q4:wz (8-((8*(i %1):Nat):Int))=((8-8*(i %1):Nat):Int):=by rw[bf (by omega)];omega
   have q5:wz (((8-8*(i %1):Nat):Int)-8)=((8-8*(i %1)-8:Nat):Int):=by rw[bf (by omega)];omega
   have b0:∀n:Nat,((0:Int)≤(n:Int))=True:=fun n=>eq_true (by omega)
   have ki:=fun k=>gh (k:=k) (rows:=([]:Rows)) (n:=((i/1:Nat):Int)) gb (by have:i/1<p.length:=Nat.div_lt_of_lt_mul (by rw[Nat.mul_comm];exact hc);omega)
   rw[hz]
   simp only[↓aj,ak,simprocAttr,aa,jO,Aq,h88,hm,dZ,q1,q2,q3,q4,q5,b0,ki,decide_false,Int.toNat_natCast]
   exact .val _ rfl
  ·have dZ:(((p.length*1:Nat):Int)≤(i:Int))=True:=eq_true (by omega)
   have hz:gj p (i:Int) 8=0:=by
    rw[gj,if_neg (fun h=>by have h2:(i:Int)<((p.length*1:Nat):Int):=h.2.2;omega)]
   rw[hz]
   simp only[↓aj,ak,simprocAttr,aa,jO,Aq,h88,hm,dZ,decide_true,decide_false]
   exact .val _ rfl
 have n8:(w=8)=False:=eq_false c8
 have hz:gj p i w=0:=by rw[gj,if_neg (fun h=>by omega)]
 rw[hz]
 simp only[↓aj,ak,simprocAttr,aa,n1,n2,n4,n8,decide_false,Bool.not_false]
 exact .val _ rfl
theorem TM{p:List (BitVec 8)}{i w:Nat}(hw:w4 w=true)(hi:i<p.length*(8/w)):gj p (i:Int) (w:Int)=(qC p i w:Int):=by
 have h:=Iw.1 hw
 rw[gj,if_pos ⟨by omega,by omega,by rw[Int.toNat_natCast];omega⟩]
 simp
theorem kCoef(rows:Rows)(k:D→Rows→Prop)(d:D)(p:List (BitVec 8))(i w:Int)(hd:bc rows d p)(hp:p.length≤1099511627776):aJ MA rows k [d,.raw (it i),.raw (it w)]=k (.raw (it (gj p i w))) rows:=by
 refine(fT (.bs hd) (bT.int i) (bT.int w) (by simp[hp]) rfl k).trans ?_
 simp[shift,ae]
theorem XD(rows:Rows)(k:D→Rows→Prop)(d:D)(p:List (BitVec 8))(i w:Nat)(hd:bc rows d p)(hp:p.length≤1099511627776)(hw:w4 w=true)(hi:i<p.length*(8/w)):aJ MA rows k [d,.raw (it (i:Int)),.raw (it (w:Int))]=k (.raw (it (qC p i w:Int))) rows:=by
 rw[kCoef rows k d p i w hd hp,TM hw hi]
theorem MB(p:List (BitVec 8))(i w:Nat)(hw:w4 w=true):qC p i w≤2^w-1:=by
 have h:∀x:BitVec 8,(x&&&BitVec.ofNat 8 (2^w-1)).toNat≤2^w-1:=fun x=>by
  rw[BitVec.toNat_and,BitVec.toNat_ofNat]
  refine Nat.le_trans Nat.and_le_right ?_
  exact Nat.mod_le _ _
 exact h _
def Ar(d:List (BitVec 8))(w:Nat):Nat→Nat
 |0=>0
 |n+1=>Ar d w n+(2^w-1-qC d n w)
theorem QL(d:List (BitVec 8))(w n:Nat):Ar d w n≤n*(2^w-1):=by
 induction n with
 |zero=>simp[Ar]
 |succ n ih=>rw[Ar,Nat.add_mul];omega
def F3(x:Z5)(d:List (BitVec 8)):List (BitVec 8):=d++uG (Ar d x.w (256/x.w)*2^x.l)
def vQ(x:Z5)(d:List (BitVec 8))(n:Nat):List Nat:=(List.range n).map fun i=>qC (F3 x d) i x.w
def fz(t:Nat)(d:List (BitVec 8)):List Nat:=vQ (uB t) d (pT t)
def vR(n:Nat):D:= .raw (it (n:Int))
def outI(l:List Nat):D×Rows:=(.sl LI 0 [] 0 l.length false,[some ⟨LI,l.map vR⟩])
def parOK(x:Z5):Prop:=w4 x.w=true∧x.p≤34*(8/x.w)∧x.p≤265∧256/x.w*(2^x.w-1)*2^x.l<65536∧x.l≤7∧256/x.w≤32*(8/x.w)
theorem j8{t:Nat}(h:sH t=true):parOK (uB t):=by
 simp only[sH,Bool.and_eq_true,decide_eq_true_eq]at h
 have:t=1∨t=2∨t=3∨t=4:=by omega
 rcases this with rfl|rfl|rfl|rfl<;>exact⟨by decide,by decide,by decide,by decide,by decide,by decide⟩
theorem tdivN(a b:Nat)(ha:a<9223372036854775808):wz ((a:Int).tdiv (b:Int))=((a/b:Nat):Int):=by
 have h:a/b≤a:=Nat.div_le_self _ _
 rw[Int.tdiv_eq_ediv_of_nonneg (by omega),←Int.natCast_ediv]
 generalize a/b=c at*
 exact bf (by omega)
theorem iK.QM{s:Sh}{d:D}{rows:Rows}{els:List D}(h:iK s d rows els)(hs:s.pure=true):wR rows d (.sl s 0 [] 0 els.length false) [some ⟨s,els⟩]:=by
 rcases h with⟨rfl,rfl⟩|⟨r,ex,rfl,h⟩
 ·exact .Wl s
 ·exact .own s r 0 _ ex false _ h hs (fun h=>by cases h)
theorem app_arr{rows:Rows}{r i len:Nat}{q:List Nat}{old news:List D}{k:D→Rows→Prop}(he:elems rows (.sl L8 r (i::q) 0 len true)=some old)(hn:old.length=len)(hne:news.length≠0)(hb:len+news.length≤most)
  (hk:k (.sl L8 rows.length [] 0 (len+news.length) false) (rows++[some ⟨L8,old++news⟩])):uL rows L8 1 (.sl L8 r (i::q) 0 len true) news k:=by
 unfold uL
 rw[he]
 refine⟨rfl,hn,by rw[Nat.mul_one];exact hb,hb,?_⟩
 exact⟨rfl,fun h=>absurd h hne,fun _=>hk⟩
noncomputable def wE:Fn:=wS qN (b8 aW) (fun _ d=>decide (d.length=32)) fun t d=>outI (bif sH t.toNat then fz t.toNat d else[])
theorem TN(C:be)(hC:aI C P)(h1:C.fn 37=some l6)(h2:C.fn 99=some TL)(h3:C.fn 166=some MA)(h4:C.fn 162=some O5):aO C.aZ P 110 (Fn.run wE):=by
 refine aH (JE C hC) fun ds rows r h=>?_
 obtain⟨d0,d1,t,d,rfl,rfl,g0,g1,hp,rfl⟩:=dq h
 cases dL g0
 cases aF g1
 simp only[decide_eq_true_eq]at hp
 refine⟨rfl,ag rfl ?_⟩
 clear h g0 g1
 unfold zN zO
 have hz:D.agg pD [.raw (it 0),.raw (it 0),.raw (it 0)]=iR ⟨0,0,0⟩:=rfl
 simp only[hz]
 cases hk:sH t.toNat
 ·have kP:=fun rows k=>mY rows k t
  rw[hk]at kP
  simp only[↓aj,ak,simprocAttr,aa,aX,aW,h1,kP,cQ,Bool.not_false,cond_false]
  exact .Wl _
 ·have kP:=fun rows k=>mY rows k t
  have hx:=j8 hk
  have hpt:pT t.toNat=(uB t.toNat).p:=rfl
  rw[fz,hpt]
  rw[hk]at kP
  generalize uB t.toNat=x at*
  obtain⟨hw,Mj,sG,hs,hl,p8⟩:=hx
  have kE:=fun rows k=>kEnd rows k x hw
  have g0:(iR x).get [0]=some (.raw (it (x.w:Int))):=rfl
  have g1:(iR x).get [1]=some (.raw (it (x.p:Int))):=rfl
  have g2:(iR x).get [2]=some (.raw (it (x.l:Int))):=rfl
  have q1:wz (Int.tdiv 256 (x.w:Int))=((256/x.w:Nat):Int):=tdivN 256 x.w (by decide)
  have hw0:((x.w:Int)=0)=False:=eq_false (by have:=Iw.1 hw;omega)
  have hw0':((x.w:Int)≠0)=True:=eq_true (by have:=Iw.1 hw;omega)
  simp only[↓aj,ak,simprocAttr,aa,aX,aW,h1,kP,cQ,g0,q1,hw0,hw0',Bool.not_true,cond_true]
  have hpw:2^x.w≤256:=by rcases Iw.1 hw with h|h|h|h<;>rw[h]<;>decide
  have h256:256/x.w≤256:=Nat.div_le_self _ _
  have b0:∀n:Nat,((0:Int)≤(n:Int))=True:=fun n=>eq_true (by omega)
  refine bB (256/x.w) (fun i env rows=>has env [(22,.raw (it (i:Int))),(21,.raw (it ((256/x.w:Nat):Int))),(7,.raw (it (Ar d x.w i:Int))),(5,.ptr pD 1 [0]),(3,.ptr (.ar 32 L8) 0 [0])]∧
   rows=[some ⟨.ar 32 L8,[.agg (.ar 32 L8) (bs d)]⟩,some ⟨pD,[iR x]⟩]) ?_ ?_ ⟨?_,rfl⟩
  ·rintro i hi env rows ⟨hh,rfl⟩ R hR
   simp only[has]at hh
   have e0:((i:Int)<((256/x.w:Nat):Int))=True:=eq_true (by omega)
   have e1:=cE i (by omega)
   have hc:=MB d i x.w hw
   have jO:=QL d x.w i
   have hsl2:i*(2^x.w-1)≤256*255:=Nat.mul_le_mul (by omega) (by omega)
   have kc:=fun k=>XD [some ⟨.ar 32 L8,[.agg (.ar 32 L8) (bs d)]⟩,some ⟨pD,[iR x]⟩] k (.sl L8 0 [0] 0 32 true) d i x.w (bc.r9 (n:=32) rfl rfl hp) (by omega) hw (by rw[hp];omega)
   have q2:wz (((2^x.w-1:Nat):Int)-(qC d i x.w:Int))=((2^x.w-1-qC d i x.w:Nat):Int):=by rw[bf (by omega)];omega
   have q3:wz ((Ar d x.w i:Int)+((2^x.w-1-qC d i x.w:Nat):Int))=(Ar d x.w (i+1):Int):=by rw[bf (by omega),Ar];omega
   simp only[↓aj,ak,simprocAttr,aa,aX,hh,e0,e1,cQ,h2,kE,g0,h3,kc,q2,q3]
   exact hR _ _ ⟨by simp only[has,↓aj,ak,simprocAttr,aa,hh],rfl⟩
  ·rintro env rows ⟨hh,rfl⟩ R
   simp only[has]at hh
   have e0:(((256/x.w:Nat):Int)<((256/x.w:Nat):Int))=False:=eq_false (by omega)
   have jO:=QL d x.w (256/x.w)
   have hbd:Ar d x.w (256/x.w)*2^x.l<65536:=Nat.lt_of_le_of_lt (Nat.mul_le_mul_right _ jO) hs
   have kS:=fun k=>Mz (Ar d x.w (256/x.w)) x.l .i64 (by omega) (by omega) k
   have kS':∀k,bE .shl (it (Ar d x.w (256/x.w):Int)) (it (x.l:Int)) k=k (.raw (it ((Ar d x.w (256/x.w)*2^x.l:Nat):Int))):=kS
   have kT:=fun rows k=>kTwo rows k _ hbd
   have lz:(F3 x d).length=34:=by rw[F3,List.length_append,hp];rfl
   have hfd:bs d++bs (uG (Ar d x.w (256/x.w)*2^x.l))=bs (F3 x d):=nU _ _
   have ea:∀L ex,elems ([some ⟨.ar 32 L8,[.agg (.ar 32 L8) (bs d)]⟩,some ⟨pD,[iR x]⟩]++L) (.sl L8 0 [0] 0 32 ex)=some (bs d):=fun L ex=>oG (n:=32) rfl rfl hp
   simp only[↓aj,ak,simprocAttr,aa,aX,hh,e0,cQ,g2,kS',h4,kT]
   have tk:∀m,List.take 2 (bs (uG m))=bs (uG m):=fun m=>rfl
   have bl:∀m,(bs (uG m)).length=2:=fun m=>rfl
   rw[tk]
   refine⟨rfl,app_arr (oG (n:=32) rfl rfl hp) (by rw[aC];exact hp) (by rw[bl];decide) (by rw[bl];decide) ?_⟩
   rw[hfd,bl]
   simp only[↓aj,ak,simprocAttr,aa,aX,hh,cQ,g1]
   refine⟨by omega,by omega,by omega,?_⟩
   have qY:∀i,(vQ x d i).length=i:=fun i=>by simp[vQ]
   have hds:∀i,(vQ x d i).map vR++[.raw (it (qC (F3 x d) i x.w:Int))]=(vQ x d (i+1)).map vR:=fun i=>by simp[vQ,List.range_succ,vR]
   refine bB x.p (fun i env rows=>has env [(48,.raw (it (i:Int))),(47,.raw (it (x.p:Int))),(9,.sl L8 3 [] 0 34 false),(5,.ptr pD 1 [0])]∧
    live rows 3=some ⟨L8,bs (F3 x d)⟩∧live rows 1=some ⟨pD,[iR x]⟩∧∃d',look env 10=some d'∧iK LI d' rows ((vQ x d i).map vR)) ?_ ?_ ⟨?_,rfl,rfl,.sl LI 4 [] 0 0 (decide (0=(x.p:Int))),?_,.inr ⟨4,_,rfl,rfl⟩⟩
   ·clear hh
    rintro i hi env rows ⟨hh,r3,r1,d',h10,hO⟩ R hR
    simp only[has]at hh
    have e0:((i:Int)<(x.p:Int))=True:=eq_true (by omega)
    have e1:=cE i (by omega)
    have kc:=fun k=>XD rows k (.sl L8 3 [] 0 34 false) (F3 x d) i x.w (bc.own r3 _ lz.symm) (by omega) hw (by rw[lz];omega)
    have eb:∀v ex,elems (rows++[some ⟨LI,[.raw (it v)]⟩]) (.sl LI rows.length [] 0 1 ex)=some [.raw (it v)]:=fun v ex=>by
     have:live (rows++[some ⟨LI,[.raw (it v)]⟩]) rows.length=some ⟨LI,[.raw (it v)]⟩:=by rw[b6];rfl
     simp only[elems,this];rfl
    simp only[↓aj,ak,simprocAttr,aa,aX,hh,e0,e1,h10,cQ,r1,g0,h3,kc,eb]
    refine iX hO.push (by rw[List.length_map,qY];simp[most];omega) (by rw[List.length_map,qY];simp[most];omega) fun d2 ab F4 oD vS _=>?_
    rw[hds]at F4
    have r3':=oD 3 _ (aA r3 _) (fun ex=>ia hO r3 (by decide) ex _)
    have r1':=oD 1 _ (aA r1 _) (fun ex=>ia hO r1 (by decide) ex _)
    simp only[↓aj,ak,simprocAttr,aa,aX,hh,e1]
    exact hR _ _ ⟨by simp only[has,↓aj,ak,simprocAttr,aa,hh],r3',r1',d2,by simp only[↓aj,ak,simprocAttr,aa],F4⟩
   ·clear hh
    rintro env rows ⟨hh,r3,r1,d',h10,hO⟩ R
    simp only[has]at hh
    have e0:((x.p:Int)<(x.p:Int))=False:=eq_false (by omega)
    simp only[↓aj,ak,simprocAttr,aa,aX,hh,e0,h10,hO.mI]
    have:=iK.QM hO rfl
    rw[List.length_map]at this
    exact this
   ·simp only[has,↓aj,ak,simprocAttr,aa,hh]
   ·simp only[↓aj,ak,simprocAttr,aa]
  ·simp only[has,↓aj,ak,simprocAttr,aa]
   rfl
theorem J3(rows:Rows)(k:D→Rows→Prop)(t:BitVec 32)(d:List (BitVec 8))(hd:d.length=32)(ht:sH t.toNat=true):
  aJ wE rows k [.raw (u32 t),.agg (.ar 32 L8) (bs d)]=k (.sl LI (0+rows.length) [] 0 (pT t.toNat) false) (rows++[some ⟨LI,(fz t.toNat d).map vR⟩]):=by
 refine(jB (bT.raw (fK t)) (iQ d) (by simp[hd]) rfl k).trans ?_
 have hl:(fz t.toNat d).length=pT t.toNat:=by simp[fz,vQ]
 simp[ht,outI,shift,ae,Sh.pure,hl]
def DI(t:Nat)(s:Site)(aL:List (BitVec 8)):List (BitVec 8):=CW s.id s.q (vN s.id s.q aL (2^wT t-1) (pT t))
theorem bT.dlOwn{rows:Rows}{d:D}{l:List (List (BitVec 8))}(h:iK (.ar 32 L8) d rows (l.map aW)):bT rows (oo (.ar 32 L8) aW) d l:=by
 rcases h with⟨h,rfl⟩|⟨r,ex,rfl,h⟩
 ·have:l=[]:=by cases l with|nil=>rfl|cons x l=>cases h
  subst this
  exact bT.raw (by rfl)
 ·exact bT.dl h (by rw[List.length_map])
theorem O9{w:Nat}(h:w4 w=true):2^w≤256:=by rcases Iw.1 h with h|h|h|h<;>rw[h]<;>decide
theorem TO{s:Sh}{rows:Rows}{d:D}(ex:Bool):elems (rows++[some ⟨s,[d]⟩]) (.sl s rows.length [] 0 1 ex)=some [d]:=by
 have:live (rows++[some ⟨s,[d]⟩]) rows.length=some ⟨s,[d]⟩:=by rw[b6];rfl
 simp only[elems,this];rfl
noncomputable def D7:Fn:=G2 qN (b8 fb) (b8 aW) (fun _ s x=>decide (s.id.length=16)&&decide (x.length=32)) fun t s x=>bif sH t.toNat then(.cA [aW (DI t.toNat s x),.raw (it 0)],[])else(.cA [aW ug,.raw (it 6)],[])
theorem TP(C:be)(hC:aI C P)(h1:C.fn 37=some l6)(h2:C.fn 99=some TL)(h3:C.fn 100=some Ap)(h4:C.fn 98=some BL)(h5:C.fn 101=some My):aO C.aZ P 39 (Fn.run D7):=by
 refine aH (Jx C hC) fun ds rows r h=>?_
 obtain⟨d0,d1,d2,t,s,aL,rfl,rfl,g0,g1,g2,hp,rfl⟩:=fq h
 cases dL g0
 cases aF g1
 cases aF g2
 simp only[Bool.and_eq_true,decide_eq_true_eq]at hp
 obtain⟨gV,qX⟩:=hp
 clear h g0 g1 g2
 have hz:D.agg pD [.raw (it 0),.raw (it 0),.raw (it 0)]=iR ⟨0,0,0⟩:=rfl
 have kP:=fun rows k=>mY rows k t
 cases hk:sH t.toNat
 ·rw[hk]at kP
  refine⟨rfl,ag rfl ?_⟩
  unfold tc td
  simp only[hz,dW]
  simp only[↓aj,ak,simprocAttr,aa,aX,aW,h1,kP,cQ,dw,Bool.not_false,cond_false]
  exact .val _ rfl
 ·have hx:=j8 hk
  have ew:wT t.toNat=(uB t.toNat).w:=rfl
  have ep:pT t.toNat=(uB t.toNat).p:=rfl
  have hps:DI t.toNat s aL=CW s.id s.q (vN s.id s.q aL (2^(uB t.toNat).w-1) (uB t.toNat).p):=rfl
  rw[hps]
  rw[hk]at kP
  refine⟨rfl,ag rfl ?_⟩
  unfold tc td
  simp only[hz,dW]
  generalize uB t.toNat=x at*
  obtain⟨hw,Mj,sG,hs,hl,p8⟩:=hx
  have hpw:=O9 hw
  have kE:=fun rows k=>kEnd rows k x hw
  have g1:(iR x).get [1]=some (.raw (it (x.p:Int))):=rfl
  simp only[↓aj,ak,simprocAttr,aa,aX,aW,h1,kP,cQ,dw,g1,Bool.not_true,cond_true]
  refine⟨by omega,by omega,by omega,?_⟩
  have hds:∀i,(vN s.id s.q aL (2^x.w-1) i).map aW++[.agg (.ar 32 L8) (bs (Hn s.id s.q i (2^x.w-1-0) 0 (DH s.id s.q i aL)))]=(vN s.id s.q aL (2^x.w-1) (i+1)).map aW:=fun i=>by simp[vN,List.range_succ,aW]
  have qY:∀i,(vN s.id s.q aL (2^x.w-1) i).length=i:=fun i=>by simp[vN]
  refine bB x.p (fun i env rows=>has env [(25,.raw (it (i:Int))),(24,.raw (it (x.p:Int))),(8,.ptr pD 3 [0]),(6,.ptr (.ar 32 L8) 2 [0]),(5,.ptr (.ar 32 L8) 1 [0]),(4,.ptr vP 0 [0])]∧
   live rows 0=some ⟨vP,[fb s]⟩∧live rows 1=some ⟨.ar 32 L8,[.agg (.ar 32 L8) (bs aL)]⟩∧live rows 2=some ⟨.ar 32 L8,[.agg (.ar 32 L8) (bs ug)]⟩∧live rows 3=some ⟨pD,[iR x]⟩∧
   ∃d',look env 10=some d'∧iK (.ar 32 L8) d' rows ((vN s.id s.q aL (2^x.w-1) i).map aW)∧(∀r ex n,d'= .sl (.ar 32 L8) r [] 0 n ex→4≤r)) ?_ ?_ ⟨?_,rfl,rfl,rfl,rfl,.sl (.ar 32 L8) 4 [] 0 0 (decide (0=(x.p:Int))),?_,.inr ⟨4,_,rfl,rfl⟩,fun r ex n h=>?_⟩
  ·rintro i hi env rows ⟨hh,r0,r1,r2,r3,d',h10,hO,hne⟩ R hR
   simp only[has]at hh
   have e0:((i:Int)<(x.p:Int))=True:=eq_true (by omega)
   have e1:=cE i (by omega)
   have kS:=fun rows k=>QK rows k s i aL gV (by omega) qX
   have kC:=fun rows k=>O8 rows k s i 0 (2^x.w-1) (DH s.id s.q i aL) gV (by omega) (by decide) (by omega) (oH _ _ _ _ _)
   rw[show((0:Nat):Int)=0 from rfl]at kC
   have lt3:=bn r3
   simp only[↓aj,ak,simprocAttr,aa,aX,hh,e0,e1,h10,cQ,dw,r0,r1,r3,h2,kE,h3,kS,h4,kC,TO]
   refine Ao hO.push (by rw[List.length_map,qY];simp[most];omega) (by rw[List.length_map,qY];simp[most];omega) fun ab mh oD vS=>?_
   rw[hds,List.length_append]at mh
   have mh:live ab (rows.length+1)=_:=mh
   have hfr':∀r row,r<4→live rows r=some row→live ab r=some row:=fun r row hr hl=>oD r row (aA hl _) (fun ex n e=>by have:=hne _ _ _ e;omega)
   simp only[↓aj,ak,simprocAttr,aa,aX,hh,e1]
   exact hR _ _ ⟨by simp only[has,↓aj,ak,simprocAttr,aa,hh],hfr' 0 _ (by omega) r0,hfr' 1 _ (by omega) r1,hfr' 2 _ (by omega) r2,hfr' 3 _ (by omega) r3,.sl (.ar 32 L8) (rows.length+1) [] 0 ((vN s.id s.q aL (2^x.w-1) i).length+1) false,by simp only[↓aj,ak,simprocAttr,aa],.inr ⟨_,false,by rw[List.length_map,qY,qY],mh⟩,fun r ex n e=>by injection e with _ e;omega⟩
  ·rintro env rows ⟨hh,r0,r1,r2,r3,d',h10,hO,hne⟩ R
   simp only[has]at hh
   have e0:((x.p:Int)<(x.p:Int))=False:=eq_false (by omega)
   have w2:=fun y=>aG (y:=y) r2
   simp only[↓aj,ak,simprocAttr,aa,aX,hh,e0,h10,r0,dw,h5]
   refine Eq.mpr (kFold _ _ s _ _ (bT.dlOwn hO) gV (Xt _ _ _ _ _) (by rw[qY];omega)) ?_
   simp only[↓aj,ak,simprocAttr,aa,aX,hh,r2,w2]
   exact .val _ rfl
  ·simp only[has,↓aj,ak,simprocAttr,aa]
  ·simp only[↓aj,ak,simprocAttr,aa]
  ·injection h with _ h;omega
theorem kPublic(rows:Rows)(k:D→Rows→Prop)(t:BitVec 32)(s:Site)(x:List (BitVec 8))(gV:s.id.length=16)(hx:x.length=32)(ht:sH t.toNat=true):
  aJ D7 rows k [.raw (u32 t),fb s,.agg (.ar 32 L8) (bs x)]=k (.cA [.agg (.ar 32 L8) (bs (DI t.toNat s x)),.raw (it 0)]) rows:=by
 refine(fT (bT.raw (fK t)) (jC s rows) (iQ x) (by simp[gV,hx]) (by simp[ht,bZ,fI,aW,Sh.pure,aS]) k).trans ?_
 simp[ht,aW,shift,bh,ae,Sh.pure]
def F5:Fn:=wS dN dN (fun a b=>Nat.ble a.length most&&Nat.ble b.length most) fun a b=>(.raw (.bool (decide (a=b))),[])
theorem XE(C:be)(hC:aI C P):aO C.aZ P 94 (Fn.run F5):=by
 refine cr (Hg C hC) fun ds rows r h=>?_
 obtain⟨d,e,a,b,rfl,rfl,hd,he,hp,rfl⟩:=dq h
 obtain⟨x,hx⟩:=cy hd
 obtain⟨y,hy⟩:=cy he
 refine⟨rfl,_,.cons hx (.cons hy .nil),ag rfl ?_⟩
 unfold xB xC
 simp only[↓aj,ak,simprocAttr,aa,amC]
 refine⟨ec.eK (.inr ⟨x,rfl⟩),?_⟩
 simp only[QE,↓aj,ak,simprocAttr,aa]
 refine⟨ec.eK (.inr ⟨y,rfl⟩),?_⟩
 simp only[ByteArray.toList_eq,List.toList_toArray,ub_beq]
 exact .val _ rfl
theorem Pa(rows:Rows)(k:D→Rows→Prop)(d e:D)(p q:List (BitVec 8))(h:bc rows d p)(h':bc rows e q)(hp:p.length≤1099511627776)(hq:q.length≤1099511627776):aJ F5 rows k [d,e]=k (.raw (.bool (decide (p=q)))) rows:=by
 refine(Bl h h' (by simpa[most]using⟨hp,hq⟩) rfl).trans ?_
 simp[shift,ae]
structure JS where
 q:BitVec 32
 a:Int
 t:Int
 n:Int
 deriving DecidableEq
abbrev SJ:Sh:= .cons dk (.cons LI (.cons LI (.cons LI .nil)))
def jD(s:JS):D:= .agg SJ [.raw (u32 s.q),.raw (it s.a),.raw (it s.t),.raw (it s.n)]
theorem yG(x y:JS)(h:jD x=jD y):x=y:=by
 obtain⟨a,b,c,d⟩:=x
 obtain⟨a',b',c',d'⟩:=y
 simp only[jD,D.agg.injEq,List.cons.injEq,D.raw.injEq,E9,QA,and_true,true_and]at h
 obtain⟨rfl,rfl,rfl,rfl⟩:=h
 rfl
theorem Pb(s:JS):aQ (jD s)=false:=rfl
theorem cw(s:JS):(jD s).fits SJ=true:=rfl
theorem F6(n:Nat)(s:JS):shift n (jD s)=jD s:=by simp[jD,shift,Sh.pure]
theorem F7(s:JS):(jD s).get [0]=some (.raw (u32 s.q)):=rfl
theorem uh(s:JS):(jD s).get [1]=some (.raw (it s.a)):=rfl
theorem As(s:JS):(jD s).get [2]=some (.raw (it s.t)):=rfl
theorem QN(s:JS):(jD s).get [3]=some (.raw (it s.n)):=rfl
theorem Pc(a b:JS):eqA SJ (jD a) (jD b)=some (decide (a=b)):=by
 obtain⟨q,x,y,z⟩:=a
 obtain⟨q',x',y',z'⟩:=b
 have p8:∀p p':BitVec 32,(p.toNat:Int)=(p'.toNat:Int)↔p=p':=fun p p'=>⟨fun h=>BitVec.eq_of_toNat_eq (by omega),fun h=>by rw[h]⟩
 simp only[jD,eqA,beq_self_eq_true,Bool.and_self,cond_true,yV,sK,gW,u32,it,JS.mk.injEq]
 by_cases h1:q=q'<;>by_cases h2:x=x'<;>by_cases h3:y=y'<;>by_cases h4:z=z'<;>simp[h1,h2,h3,h4,p8]
def iE(i:Int):Bool:=decide (i=0)||decide (i=1)
def Au:Fn:=lE rC (fun _=>true) fun i=>(.raw (.bool (iE i)),[])
theorem slot_ok(C:be)(hC:aI C P):aO C.aZ P 120 (Fn.run Au):=by
 refine aH (FA C hC) fun ds rows r h=>?_
 obtain⟨d,i,rfl,rfl,hd,hp,rfl⟩:=a8 h
 cases bX hd
 refine⟨rfl,ag rfl ?_⟩
 clear h hd
 unfold vD vE iE
 by_cases c:i=0
 ·have c1:(i=0)=True:=eq_true c
  simp only[↓aj,ak,simprocAttr,aa,c1,decide_true,Bool.true_or]
  exact .val _ rfl
 ·have c1:(i=0)=False:=eq_false c
  simp only[↓aj,ak,simprocAttr,aa,c1,decide_false,Bool.false_or]
  exact .val _ rfl
theorem XF(rows:Rows)(k:D→Rows→Prop)(i:Int):aJ Au rows k [.raw (it i)]=k (.raw (.bool (iE i))) rows:=by
 refine(bi rfl (ei (nS i) rfl)).trans ?_
 simp[shift,ae]
def bK(s:JS):Bool:=iE s.a&&(iE s.t||(decide (s.t=-1)&&decide (s.n=0)))&&decide (0≤s.n)&&decide (s.n≤3)
noncomputable def mZ:Fn:=lE (b8 jD) (fun _=>true) fun s=>(.raw (.bool (bK s)),[])
set_option maxHeartbeats 1000000 in
theorem TQ(C:be)(hC:aI C P)(hs:C.fn 120=some Au):aO C.aZ P 59 (Fn.run mZ):=by
 refine aH (uw C hC) fun ds rows r h=>?_
 obtain⟨d,s,rfl,rfl,hd,hp,rfl⟩:=a8 h
 cases aF hd
 refine⟨rfl,ag rfl ?_⟩
 clear h hd
 obtain⟨q,a,t,n⟩:=s
 unfold mu mw
 rcases Classical.em (t=-1)with c1|c1<;>rcases Classical.em (n=0)with c2|c2<;>rcases Classical.em (0≤n)with c3|c3<;>rcases Classical.em (n≤3)with c4|c4<;>
  (have e1:=c1;have e2:=c2;have e3:=c3;have e4:=c4
   first|replace e1:=eq_false e1|replace e1:=eq_true e1
   first|replace e2:=eq_false e2|replace e2:=eq_true e2
   first|replace e3:=eq_false e3|replace e3:=eq_true e3
   first|replace e4:=eq_false e4|replace e4:=eq_true e4
   clear c1 c2 c3 c4
   cases h1:iE t<;>cases h2:iE a<;>
    (simp only[↓aj,ak,simprocAttr,aa,jD,bK,hs,XF,h1,h2,e1,e2,e3,e4,decide_true,decide_false];exact .val _ rfl))
theorem Pe(C:be)(hC:aI C P):aO C.aZ P 16 (Fn.run mZ):=by
 refine aH (Ha C hC) fun ds rows r h=>?_
 obtain⟨d,s,rfl,rfl,hd,hp,rfl⟩:=a8 h
 cases aF hd
 refine⟨rfl,ag rfl ?_⟩
 clear h hd
 obtain⟨q,a,t,n⟩:=s
 unfold xj xk
 rcases Classical.em (a<0)with c0|c0
 ·have e0:=eq_true c0
  have h2:iE a=false:=by unfold iE;rw[decide_eq_false (by omega),decide_eq_false (by omega)];rfl
  simp only[↓aj,ak,simprocAttr,aa,jD,bK,h2,e0,decide_true,decide_false]
  exact .val _ rfl
 rcases Classical.em (1<a)with c1|c1
 ·have e0:=eq_false c0
  have e1:=eq_true c1
  have h2:iE a=false:=by unfold iE;rw[decide_eq_false (by omega),decide_eq_false (by omega)];rfl
  simp only[↓aj,ak,simprocAttr,aa,jD,bK,h2,e0,e1,decide_true,decide_false]
  exact .val _ rfl
 have e0:=eq_false c0
 have e1:=eq_false c1
 have h2:iE a=true:=by
  unfold iE
  have:a=0∨a=1:=by omega
  rcases this with rfl|rfl<;>rfl
 rcases Classical.em (n<0)with c3|c3
 ·have e3:=eq_true c3
  have e4:(0≤n)=False:=eq_false (by omega)
  simp only[↓aj,ak,simprocAttr,aa,jD,bK,h2,e0,e1,e3,e4,decide_true,decide_false]
  try simp only[Bool.and_false,Bool.false_and]
  exact .val _ rfl
 rcases Classical.em (3<n)with c5|c5
 ·have e3:=eq_false c3
  have e4:(0≤n)=True:=eq_true (by omega)
  have e5:=eq_true c5
  have e6:(n≤3)=False:=eq_false (by omega)
  simp only[↓aj,ak,simprocAttr,aa,jD,bK,h2,e0,e1,e3,e4,e5,e6,decide_true,decide_false]
  try simp only[Bool.and_false,Bool.false_and]
  exact .val _ rfl
 have e3:=eq_false c3
 have e4:(0≤n)=True:=eq_true (by omega)
 have e5:=eq_false c5
 have e6:(n≤3)=True:=eq_true (by omega)
 have hR:∀b:Bool,((iE t||(decide (t=-1)&&decide (n=0)))=b)→bK ⟨q,a,t,n⟩=b:=fun b hb=>by
  simp only[bK,h2,hb]
  rw[decide_eq_true (by omega:0≤n),decide_eq_true (by omega:n≤3)]
  cases b<;>rfl
 rcases(by omega:t=-1∨t=0∨t=1∨(t≠-1∧t≠0∧t≠1))with rfl|rfl|rfl|⟨g1,g2,g3⟩
 ·rcases Classical.em (n=0)with c2|c2
  ·have f2:=eq_true c2
   have:=hR true (by rw[decide_eq_true c2];rfl)
   simp only[↓aj,ak,simprocAttr,aa,jD,this,e0,e1,e3,e5,f2,decide_true,decide_false]
   exact .val _ rfl
  ·have f2:=eq_false c2
   have:=hR false (by rw[decide_eq_false c2];rfl)
   simp only[↓aj,ak,simprocAttr,aa,jD,this,e0,e1,e3,e5,f2,decide_true,decide_false]
   exact .val _ rfl
 ·have:=hR true rfl
  simp only[↓aj,ak,simprocAttr,aa,jD,this,e0,e1,e3,e5,decide_true,decide_false]
  exact .val _ rfl
 ·have:=hR true rfl
  simp only[↓aj,ak,simprocAttr,aa,jD,this,e0,e1,e3,e5,decide_true,decide_false]
  exact .val _ rfl
 ·have f1:=eq_false g1
  have f2:=eq_false g2
  have f3:=eq_false g3
  have:=hR false (by unfold iE;rw[decide_eq_false g1,decide_eq_false g2,decide_eq_false g3];rfl)
  simp only[↓aj,ak,simprocAttr,aa,jD,this,e0,e1,e3,e5,f1,f2,f3,decide_true,decide_false]
  exact .val _ rfl
theorem J4(rows:Rows)(k:D→Rows→Prop)(s:JS):aJ mZ rows k [jD s]=k (.raw (.bool (bK s))) rows:=by
 refine(bi (by simp[aN,Pb]) (r:=(.raw (.bool (bK s)),[])) ?_).trans ?_
 ·rw[mZ,ei (bV yG s) rfl]
 ·simp[shift,ae]
theorem MC{s:JS}(h:bK s=true):∃a t n:Nat,s.a=a∧s.t=(t:Int)-1∧s.n=n∧a≤1∧t≤2∧n≤3:=by
 simp only[bK,iE,Bool.and_eq_true,Bool.or_eq_true,decide_eq_true_eq]at h
 obtain⟨⟨⟨h1,h2⟩,h3⟩,h4⟩:=h
 exact⟨s.a.toNat,(s.t+1).toNat,s.n.toNat,by omega,by omega,by omega,by omega,by omega,by omega⟩
def bctl:List (BitVec 8):=[66#8,67#8,84#8,76#8]
def tailJ(s:JS):List (BitVec 8):=[BitVec.ofInt 8 s.a,BitVec.ofInt 8 (s.t+1),BitVec.ofInt 8 s.n,0#8]
def Av(s:JS):List (BitVec 8):=bctl++(bC s.q++tailJ s)
def cU(s:JS):List (BitVec 8):=Av s++(dU (Av s)).take 20
theorem D8(s:JS):(Av s).length=12:=rfl
theorem QO(p:List (BitVec 8)):((dU p).take 20).length=20:=by rw[List.length_take,dh];rfl
theorem eY(s:JS):(cU s).length=32:=by rw[cU,List.length_append,D8,QO]
noncomputable def qD:Fn:=lE (b8 jD) (fun _=>true) fun s=>bif bK s then ez (cU s) false else(.raw (.slice none 0 0),[])
theorem TR(C:be)(hC:aI C P)(hr:C.fn 59=some mZ)(hs:C.fn 95=some BI):aO C.aZ P 60 (Fn.run qD):=by
 refine aH (ux C hC) fun ds rows r h=>?_
 obtain⟨d,s,rfl,rfl,hd,hp,rfl⟩:=a8 h
 cases aF hd
 refine⟨rfl,ag rfl ?_⟩
 clear h hd hp
 unfold my mz
 have kr:=fun rows k=>J4 rows k s
 cases hk:bK s
 ·rw[hk]at kr
  simp only[↓aj,ak,simprocAttr,aa,cw,hr,kr,cond_false]
  exact .val _ rfl
 ·rw[hk]at kr
  obtain⟨a,t,n,ha,ht,hn,b1,b2,b3⟩:=MC hk
  have w:wz (s.t+1)=s.t+1:=bf (by omega)
  simp only[↓aj,ak,simprocAttr,aa,aX,cw,F7,uh,As,QN,w,hr,kr,cond_true]
  have hpre:[D.raw (u8 66#8),D.raw (u8 67#8),D.raw (u8 84#8),D.raw (u8 76#8),.raw (u8 ((s.q>>>24).setWidth 8)),.raw (u8 ((s.q>>>16).setWidth 8)),.raw (u8 ((s.q>>>8).setWidth 8)),.raw (u8 (s.q.setWidth 8)),.raw (u8 (BitVec.ofInt 8 s.a)),.raw (u8 (BitVec.ofInt 8 (s.t+1))),.raw (u8 (BitVec.ofInt 8 s.n)),.raw (u8 0#8)]=bs (Av s):=rfl
  rw[hpre]
  have pl:(bs (Av s)).length=12:=rfl
  have lz:[Av s].flatten=Av s:=by simp
  simp only[hs]
  refine Eq.mpr (O2 _ _ 4 1 _ _ [Av s] rfl rfl (.cons (bc.own (l:=Av s) rfl 12 rfl) .nil) (by simp) (by rw[lz,D8];omega)) ?_
  rw[lz]
  have jO:(bs (dU (Av s))).length=32:=by rw[aC,dh]
  have JW:cU s=Av s++(dU (Av s)).take 20:=rfl
  have Ow:=eY s
  have hp0:=D8 s
  generalize cU s=B at JW Ow⊢
  generalize Av s=p at JW jO pl hp0⊢
  have e20:(bs ((dU p).take 20)).length=20:=by rw[aC,QO]
  have t12:p.take 12=p:=List.take_of_length_le (by omega)
  simp only[↓aj,ak,simprocAttr,aa,jO,el_sp,Mm,List.drop_zero,ey,e20,t12,pl]
  rw[nU,←JW]
  have hO:ez B false=(.sl L8 0 [] 0 32 false,[some ⟨L8,bs B⟩]):=by rw[ez,Ow]
  rw[hO]
  exact .own L8 6 0 32 false false _ rfl rfl id
theorem QP(rows:Rows)(k:D→Rows→Prop)(s:JS)(h:bK s=true):aJ qD rows k [jD s]=k (.sl L8 (0+rows.length) [] 0 32 false) (rows++[some ⟨L8,bs (cU s)⟩]):=by
 refine(bi (by simp[aN,Pb]) (r:=ez (cU s) false) ?_).trans ?_
 ·rw[qD,ei (bV yG s) rfl,h];rfl
 ·simp[ez,shift,ae,eY,Sh.pure]
theorem kBytesN(rows:Rows)(k:D→Rows→Prop)(s:JS)(h:bK s=false):aJ qD rows k [jD s]=k (.raw (.slice none 0 0)) rows:=by
 refine(bi (by simp[aN,Pb]) (r:=(.raw (.slice none 0 0),[])) ?_).trans ?_
 ·rw[qD,ei (bV yG s) rfl,h];rfl
 ·simp[shift,ae]
abbrev AX:Sh:= .cons dk (.cons LB .nil)
abbrev G3:Sh:= .cons .ref .nil
abbrev Pf:Sh:= .cons .ref (.cons LB .nil)
abbrev Wd:=BitVec 32×Bool
def AY(p:Wd):D:= .agg AX [.raw (u32 p.1),.raw (.bool p.2)]
structure pU where
 ws:List Wd
 e:Bool
 s:Bool
abbrev pU.w(c:pU):List (BitVec 32):=c.ws.map (·.1)
def Z6(c:pU):D:= .b5 (.agg G3 [.cF AX (c.ws.map AY) c.e])
def qZ(c:pU):D:= .b5 (.agg Pf [Z6 c,.raw (.bool c.s)])
theorem wdD_inj(x y:Wd)(h:AY x=AY y):x=y:=by
 unfold AY at h
 injection h with _ h
 injection h with h1 h
 injection h with h2 _
 injection h1 with h1
 injection h2 with h2
 injection h2 with h2
 exact Prod.ext (Go.Am.QA.1 h1) h2
theorem QQ{a b:List Wd}(h:a.map AY=b.map AY):a=b:=(List.map_inj_right wdD_inj).1 h
def XG(x:List Wd×Bool):D:=Z6 ⟨x.1,x.2,false⟩
theorem QR(x y:List Wd×Bool)(h:XG x=XG y):x=y:=by
 unfold XG Z6 at h
 injection h with h
 injection h with _ h
 injection h with h _
 injection h with _ h1 h2
 exact Prod.ext (QQ h1) h2
theorem D9(x y:pU)(h:qZ x=qZ y):x=y:=by
 obtain⟨xw,xe,xs⟩:=x
 obtain⟨yw,ye,ys⟩:=y
 unfold qZ Z6 at h
 injection h with h
 injection h with _ h
 injection h with h1 h
 injection h with h2 _
 injection h1 with h1
 injection h1 with _ h1
 injection h1 with h1 _
 injection h1 with _ h1 h3
 injection h2 with h2
 injection h2 with h2
 cases QQ h1
 subst h2
 subst h3
 rfl
def MD(l:List (BitVec 32)):D×Rows:=(.sl dk 0 [] 0 l.length false,[some ⟨dk,us l⟩])
theorem J5{s:Sh}{l:List D}{i:Nat}(h:i<l.length)(e:Bool)(rows:Rows)(k:D→Rows→Prop):nQ s (i:Int) rows k (.cF s l e)=k (.b5 l[i]) rows:=by
 simp only[nQ,Int.toNat_natCast,List.getElem?_eq_getElem h,bd,true_and]
 rw[eq_true (by omega:(0:Int)≤(i:Int)),eq_true (by omega:(i:Int)<(l.length:Int)),true_and,true_and]
theorem us_snoc(l:List (BitVec 32))(i:Nat)(h:i<l.length):us (l.take i)++[.raw (u32 l[i])]=us (l.take (i+1)):=by
 rw[List.take_succ_eq_append_getElem h,←OU]
 rfl
noncomputable def fWds:Fn:=lE (b8 XG) (fun x=>decide (x.1.length=64)) fun x=>MD (x.1.map (·.1))
theorem wds_ok(C:be)(hC:aI C P):aO C.aZ P 78 (Fn.run fWds):=by
 refine aH (ym C hC) fun ds rows r h=>?_
 obtain⟨d,⟨x,e⟩,rfl,rfl,hd,hp,rfl⟩:=a8 h
 cases aF hd
 simp only[decide_eq_true_eq]at hp
 refine⟨rfl,ag rfl ?_⟩
 clear h hd
 unfold o9 pb
 have hl:(x.map AY).length=64:=by rw[List.length_map,hp]
 have hm:(x.map (·.1)).length=64:=by rw[List.length_map,hp]
 simp only[XG,Z6,↓aj,ak,simprocAttr,aa,hl]
 refine bB 64 (fun i env rows=>has env [(13,.raw (it (i:Int))),(12,.raw (it 64)),(11,.cF AX (x.map AY) e)]∧∃d,look env 3=some d∧iK dk d rows (us ((x.map (·.1)).take i))) ?_ ?_ ⟨?_,_,?_,.nil⟩
 ·rintro i hi env rows ⟨hh,d,h3,hO⟩ R hR
  simp only[has]at hh
  have e0:((i:Int)<64)=True:=eq_true (by omega)
  have e1:=cE i (by omega)
  have gi:=fun rows k=>J5 (s:=AX) (l:=x.map AY) (i:=i) (by omega) e rows k
  have gx:(x.map AY)[i]'(by omega)= .agg AX [.raw (u32 (x[i]'(by omega)).1),.raw (.bool (x[i]'(by omega)).2)]:=by rw[List.getElem_map];rfl
  rw[gx]at gi
  simp only[↓aj,ak,simprocAttr,aa,aX,hh,h3,e0,gi]
  refine iX hO.push (by rw[mN,List.length_take];simp[most];omega) (by rw[mN,List.length_take];simp[most];omega) fun d2 ab F4 oD vS _=>?_
  have hs:=us_snoc (x.map (·.1)) i (by omega)
  rw[List.getElem_map]at hs
  rw[hs]at F4
  simp only[↓aj,ak,simprocAttr,aa,aX,hh,e1]
  exact hR _ _ ⟨by simp only[has,↓aj,ak,simprocAttr,aa,hh],d2,by simp only[↓aj,ak,simprocAttr,aa],F4⟩
 ·rintro env rows ⟨hh,d,h3,hO⟩ R
  simp only[has]at hh
  have e0:((64:Int)<64)=False:=eq_false (by omega)
  rw[List.take_of_length_le (by omega)]at hO
  simp only[↓aj,ak,simprocAttr,aa,hh,h3,e0,hO.mI]
  have:=iK.QM hO rfl
  rw[mN]at this
  exact this
 ·simp only[has,↓aj,ak,simprocAttr,aa]
 ·simp only[↓aj,ak,simprocAttr,aa]
theorem kWds(rows:Rows)(k:D→Rows→Prop)(c:pU)(h:c.ws.length=64):aJ fWds rows k [Z6 c]=k (.sl dk (0+rows.length) [] 0 64 false) (rows++[some ⟨dk,us c.w⟩]):=by
 refine(bi (by rfl) (ei (bV QR (c.ws,c.e)) (by simp[h]))).trans ?_
 simp[MD,shift,ae,Sh.pure,h]
noncomputable def Aw:Fn:=lE (b8 qZ) (fun c=>decide (c.ws.length=64)) fun c=>MD c.w
theorem allc_ok(C:be)(hC:aI C P)(h1:C.fn 78=some fWds):aO C.aZ P 76 (Fn.run Aw):=by
 refine aH (Fq C hC) fun ds rows r h=>?_
 obtain⟨d,c,rfl,rfl,hd,hp,rfl⟩:=a8 h
 cases aF hd
 simp only[decide_eq_true_eq]at hp
 refine⟨rfl,ag rfl ?_⟩
 clear h hd
 unfold vt vu
 have hm:c.w.length=64:=by rw[List.length_map,hp]
 have kW:=fun rows k=>kWds rows k c hp
 have f1:(Z6 c).fits .ref=true:=rfl
 simp only[qZ,↓aj,ak,simprocAttr,aa,h1,kW,f1]
 rw[MD,hm]
 exact .own _ _ 0 _ _ _ _ rfl rfl (fun h=>by cases h)
theorem Ix(rows:Rows)(k:D→Rows→Prop)(c:pU)(h:c.ws.length=64):aJ Aw rows k [qZ c]=k (.sl dk (0+rows.length) [] 0 64 false) (rows++[some ⟨dk,us c.w⟩]):=by
 refine(bi (by rfl) (ei (bV D9 c) (by simp[h]))).trans ?_
 simp[MD,shift,ae,Sh.pure,h]
def Ho(x:BitVec 8):Nat:=((List.range 8).filter fun i=>x.getLsbD i).length
def QS:Fn:=lE Z3 (fun _=>true) fun x=>(.raw (it (Ho x:Int)),[])
def popT:ByteArray:=match fN with
 | .seq _ (.seq (.region _ (_::⟨_,.sI (.const (.string b)) _,_⟩::_)) _)=>b
 | _=>⟨#[]⟩
theorem XH:∀n,n<256→popT.data.toList[n]?=some (UInt8.ofNat (Ho (BitVec.ofNat 8 n))):=by decide
theorem ones_ok(C:be)(hC:aI C P):aO C.aZ P 183 (Fn.run QS):=by
 refine aH (tn C hC) fun ds rows r h=>?_
 obtain⟨d,x,rfl,rfl,hd,hp,rfl⟩:=a8 h
 cases E8 hd
 refine⟨rfl,ag rfl ?_⟩
 clear h hd
 have hT:=XH x.toNat x.isLt
 rw[BitVec.ofNat_toNat,BitVec.setWidth_eq]at hT
 have hle:Ho x≤8:=by
  refine Nat.le_trans (List.length_filter_le _ _) ?_
  decide
 have hc:(UInt8.ofNat (Ho x)).toBitVec.toNat=Ho x:=by
  show(BitVec.ofNat 8 (Ho x)).toNat=_
  rw[BitVec.toNat_ofNat];omega
 simp only[popT,fN]at hT
 unfold fN lW
 simp only[↓aj,ak,simprocAttr,aa,hT,Int.natCast_nonneg,hc]
 exact .val _ rfl
theorem kOnes(rows:Rows)(k:D→Rows→Prop)(x:BitVec 8):aJ QS rows k [.raw (u8 x)]=k (.raw (it (Ho x:Int))) rows:=by
 refine(bi (by rfl) (ei (Jr x) rfl)).trans ?_
 simp[shift,ae]
def tzL:List (BitVec 8):=[0,1,28,2,29,14,24,3,30,22,20,15,25,17,4,8,31,27,13,23,21,19,16,7,26,12,18,6,11,5,10,9]
def tzD:D:= .agg (.ar 32 L8) (bs tzL)
def Z7(x:BitVec 32):Nat:=if x=0#32 then 32 else(tzL.getD (((x&&&-x)*125613361#32)>>>27).toNat 0#8).toNat
def fTz:Fn:=lE qN (fun _=>true) fun x=>(.raw (it (Z7 x:Int)),[])
theorem u_neg32(x:BitVec 32)(k:D→Prop):Vl .neg (u32 x) k=k (.raw (u32 (-x))):=by
 have h:(0-(x.toNat:Int)) %4294967296=((-x).toNat:Int):=by rw[BitVec.toNat_neg];omega
 show k (.raw (.int .u32 (IntKind.u32.wrap (0-(x.toNat:Int)))))=_
 rw[zo,h]
 rfl
theorem tz_ok(C:be)(hC:aI C P)(hg:C.aZ 1=some tzD):aO C.aZ P 77 (Fn.run fTz):=by
 refine aH (oz C hC) fun ds rows r h=>?_
 obtain⟨d,x,rfl,rfl,hd,hp,rfl⟩:=a8 h
 cases dL hd
 refine⟨rfl,ag rfl ?_⟩
 clear h hd
 unfold iY iZ
 by_cases hx:x=0#32
 ·have hx':(x=0#32)=True:=eq_true hx
  simp only[↓aj,ak,simprocAttr,aa,Z7,hx',decide_true,if_true]
  exact .val _ rfl
 ·have hx':(x=0#32)=False:=eq_false hx
  have hlt:(((x&&&-x)*125613361#32)>>>27).toNat<32:=by
   rw[BitVec.toNat_ushiftRight,Nat.shiftRight_eq_div_pow]
   have:=((x&&&-x)*125613361#32).isLt
   omega
  simp only[Z7,if_neg hx]
  generalize hy:((x&&&-x)*125613361#32)>>>27=y at*
  have hl:(((y.toNat:Int))<32)=True:=eq_true (by omega)
  have hb:=mJ (l:=tzL) (i:=y.toNat) hlt
  simp only[↓aj,ak,simprocAttr,aa,u_neg32,hg,tzD,hx',hy,hl,hb,decide_false,Int.natCast_nonneg,Int.toNat_natCast]
  exact .val _ rfl
theorem kTz(rows:Rows)(k:D→Rows→Prop)(x:BitVec 32):aJ fTz rows k [.raw (u32 x)]=k (.raw (it (Z7 x:Int))) rows:=by
 refine(bi (by rfl) (ei (fK x) rfl)).trans ?_
 simp[shift,ae]
theorem tz_le(x:BitVec 32):Z7 x≤32:=by
 have h:∀n,n<32→(tzL.getD n 0#8).toNat<32:=by decide
 unfold Z7
 split
 ·exact Nat.le_refl _
 ·rcases Nat.lt_or_ge (((x&&&-x)*125613361#32)>>>27).toNat 32 with c|c
  ·exact Nat.le_of_lt (h _ c)
  ·rw[List.getD_eq_getElem?_getD,List.getElem?_eq_none (by exact c)];decide
def TS(w:BitVec 32)(i:Nat):Bool:=decide (5≤Ho ((w>>>(8*i)).setWidth 8))
def fOn:Fn:=wS qN rC (fun _ i=>decide (0≤i)&&decide (i≤3)) fun w i=>(.raw (.bool (TS w i.toNat)),[])
theorem on_ok(C:be)(hC:aI C P)(h1:C.fn 183=some QS):aO C.aZ P 135 (Fn.run fOn):=by
 refine aH (W8 C hC) fun ds rows r h=>?_
 obtain⟨d,e,w,i,rfl,rfl,hd,he,hp,rfl⟩:=dq h
 cases dL hd
 cases bX he
 simp only[Bool.and_eq_true,decide_eq_true_eq]at hp
 obtain⟨n,rfl⟩:=Int.eq_ofNat_of_zero_le hp.1
 refine⟨rfl,ag rfl ?_⟩
 clear h hd he
 unfold L5 L6
 have e1:wz (8*(n:Int))=((8*n:Nat):Int):=by rw[bf (by omega)];omega
 have e2:((5:Int)≤(Ho ((w>>>(8*n)).setWidth 8):Int))=(5≤Ho ((w>>>(8*n)).setWidth 8)):=by simp;omega
 simp only[↓aj,ak,simprocAttr,aa,h1,kOnes,e1,e2,Int.natCast_nonneg,Int.toNat_natCast,TS]
 exact .val _ rfl
theorem kOn(rows:Rows)(k:D→Rows→Prop)(w:BitVec 32)(i:Nat)(h:i≤3):aJ fOn rows k [.raw (u32 w),.raw (it (i:Int))]=k (.raw (.bool (TS w i))) rows:=by
 refine(bi (by rfl) (jP (fK w) (nS i) (by simp;omega))).trans ?_
 simp[shift,ae]
def CX(w:BitVec 32):Nat→Nat
 |0=>0
 |i+1=>if TS w i then i+1 else CX w i
def dH(c:pU):Nat:=CX (c.w.getD 0 0#32) 4
noncomputable def Iy:Fn:=lE (b8 qZ) (fun c=>decide (c.ws.length=64)) fun c=>(.raw (it (dH c:Int)),[])
theorem life_ok(C:be)(hC:aI C P)(h1:C.fn 76=some Aw)(h2:C.fn 135=some fOn):aO C.aZ P 71 (Fn.run Iy):=by
 refine aH (Du C hC) fun ds rows r h=>?_
 obtain⟨d,c,rfl,rfl,hd,hp,rfl⟩:=a8 h
 cases aF hd
 simp only[decide_eq_true_eq]at hp
 refine⟨rfl,ag rfl ?_⟩
 clear h hd
 unfold tN tO
 have hm:c.w.length=64:=by rw[List.length_map,hp]
 have kA:=fun rows k=>Ix rows k c hp
 have g0:=ku (l:=c.w) (i:=0) (by omega)
 rw[dH]
 generalize c.w.getD 0 0#32=w at*
 simp only[↓aj,ak,simprocAttr,aa]
 refine bB 4 (fun i env rows=>has env [(5,.raw (it (i:Int))),(3,.raw (it (CX w i:Int))),(0,qZ c)]) ?_ ?_ ?_
 ·rintro i hi env rows hh R hR
  simp only[has]at hh
  have e0:((i:Int)<4)=True:=eq_true (by omega)
  have e1:=cE i (by omega)
  have kO:=fun rows k=>kOn rows k w i (by omega)
  cases ho:TS w i with
  |true=>
   simp only[↓aj,ak,simprocAttr,aa,aX,hh,e0,e1,h1,h2,kA,g0,kO,ho]
   exact hR _ _ (by simp only[has,↓aj,ak,simprocAttr,aa,hh,CX,ho,if_true])
  |false=>
   simp only[↓aj,ak,simprocAttr,aa,aX,hh,e0,e1,h1,h2,kA,g0,kO,ho]
   exact hR _ _ (by simp only[has,↓aj,ak,simprocAttr,aa,hh,CX,ho]<;>simp)
 ·rintro env rows hh R
  simp only[has]at hh
  have e0:((4:Int)<4)=False:=eq_false (by omega)
  simp only[↓aj,ak,simprocAttr,aa,hh,e0]
  exact .val _ rfl
 ·simp only[has,↓aj,ak,simprocAttr,aa,CX]
theorem TT{α:Type}(l:List α)(i:Nat)(z:α)(h:i<l.length):l.drop i=l.getD i z::l.drop (i+1):=by
 rw[List.drop_eq_getElem_cons h]
 simp[List.getD,h]
def Pg:List (BitVec 32)→Nat
 |[]=>0
 |w::l=>if Z7 (~~~w)<32 then Z7 (~~~w)else Z7 (~~~w)+Pg l
def iS(c:pU):Nat:=min (Pg ((c.w.drop 1).take 8)) 255
noncomputable def XI:Fn:=lE (b8 qZ) (fun c=>decide (c.ws.length=64)) fun c=>(.raw (it (iS c:Int)),[])
theorem ctr_ok(C:be)(hC:aI C P)(h1:C.fn 76=some Aw)(h2:C.fn 77=some fTz):aO C.aZ P 26 (Fn.run XI):=by
 refine aH (yj C hC) fun ds rows r h=>?_
 obtain⟨d,c,rfl,rfl,hd,hp,rfl⟩:=a8 h
 cases aF hd
 simp only[decide_eq_true_eq]at hp
 refine⟨rfl,ag rfl ?_⟩
 clear h hd
 unfold o5 o6
 have hm:c.w.length=64:=by rw[List.length_map,hp]
 have kA:=fun rows k=>Ix rows k c hp
 rw[iS]
 generalize c.w=W at*
 have hl8:((W.drop 1).take 8).length=8:=by simp;omega
 have hgw:∀i,i<8→((W.drop 1).take 8).getD i 0#32=W.getD (1+i) 0#32:=fun i hi=>by
  rw[List.getD_eq_getElem?_getD,List.getElem?_take_of_lt hi,List.getElem?_drop,←List.getD_eq_getElem?_getD]
 generalize (W.drop 1).take 8=V at*
 have fin:∀n:Nat,(bif false then max (n:Int) 255 else min (n:Int) 255)=((min n 255:Nat):Int):=fun n=>by simp;omega
 simp only[↓aj,ak,simprocAttr,aa,aX,h1,kA]
 refine bB 8 (fun i env rows=>has env [(11,.raw (it (i:Int))),(10,.raw (it 8)),(9,.sl dk 0 [] 1 8 false)]∧rows=[some ⟨dk,us W⟩]∧∃n:Nat,look env 3=some (.raw (it (n:Int)))∧n≤32*i∧Pg (V)=n+Pg (V.drop i)) ?_ ?_ ⟨?_,rfl,0,?_,by omega,by simp⟩
 ·rintro i hi env rows ⟨hh,rfl,n,h3,hn,hc⟩ R hR
  simp only[has]at hh
  have e0:((i:Int)<8)=True:=eq_true (by omega)
  have e1:=cE i (by omega)
  have hw:=TT V i 0#32 (by omega)
  have gw:(us W)[1+i]?=some (.raw (u32 (V.getD i 0#32))):=by rw[ku (by omega),hgw i hi]
  rw[hw,Pg]at hc
  generalize V.getD i 0#32=v at*
  have ht:=tz_le (~~~v)
  have kT:=fun rows k=>kTz rows k (~~~v)
  generalize Z7 (~~~v)=t at*
  have e2:wz ((n:Int)+(t:Int))=((n+t:Nat):Int):=by rw[bf (by omega)];omega
  by_cases hlt:t<32
  ·have VH:((t:Int)<32)=True:=eq_true (by omega)
   rw[if_pos hlt]at hc
   simp only[↓aj,ak,simprocAttr,aa,aX,hh,h3,e0,gw,h2,kT,e2,VH,fin,Int.natCast_nonneg,Int.toNat_natCast]
   rw[hc]
   exact .val _ rfl
  ·have VH:((t:Int)<32)=False:=eq_false (by omega)
   rw[if_neg hlt]at hc
   simp only[↓aj,ak,simprocAttr,aa,aX,hh,h3,e0,e1,gw,h2,kT,e2,VH,Int.natCast_nonneg,Int.toNat_natCast]
   exact hR _ _ ⟨by simp only[has,↓aj,ak,simprocAttr,aa,hh],rfl,n+t,by simp only[↓aj,ak,simprocAttr,aa],by omega,by omega⟩
 ·rintro env rows ⟨hh,rfl,n,h3,hn,hc⟩ R
  simp only[has]at hh
  have e0:((8:Int)<8)=False:=eq_false (by omega)
  rw[List.drop_of_length_le (Nat.le_of_eq hl8),Pg,Nat.add_zero]at hc
  simp only[↓aj,ak,simprocAttr,aa,hh,h3,e0,fin]
  rw[hc]
  exact .val _ rfl
 ·simp only[has,↓aj,ak,simprocAttr,aa];rfl
 ·simp only[↓aj,ak,simprocAttr,aa]
abbrev uD(x:BitVec 32):D:= .raw (u32 x)
theorem XJ(x y:BitVec 32)(h:uD x=uD y):x=y:=by
 injection h with h
 exact Go.Am.QA.1 h
theorem QT(l:List (BitVec 32))(n:Nat):(us l).drop n=us (l.drop n):=by simp[us]
theorem QU(l:List (BitVec 32))(n:Nat):(us l).take n=us (l.take n):=by simp[us]
theorem bT.us{rows:Rows}{r off len:Nat}{ex:Bool}{l:List (BitVec 32)}(hl:live rows r=some ⟨dk,us l⟩)(hn:off+len≤l.length):bT rows (oo dk uD) (.sl dk r [] off len ex) ((l.drop off).take len):=by
 refine⟨⟨.cF dk (iC.us ((l.drop off).take len)) ex,?_,FW XJ _ ex⟩,fun h=>by simp[aQ]at h⟩
 have:elems rows (.sl dk r [] off len ex)=some (iC.us ((l.drop off).take len)):=by
  simp only[elems,hl,QT,QU]
 have hL:((l.drop off).take len).length=len:=by rw[List.length_take,List.length_drop];omega
 simp only[view]
 rw[this]
 simp only[mN,hL]
 simp[Sh.pure]
theorem TU(l:List (BitVec 32))(i:Nat)(h:i<l.length):jQ (l.take i)++bC l[i]=jQ (l.take (i+1)):=by
 rw[List.take_succ_eq_append_getElem h,jQ,jQ,List.map_append,List.flatten_append]
 simp
noncomputable def fOct:Fn:=lE (oo dk uD) (fun l=>decide (l.length≤1000)) fun l=>ez (jQ l) false
theorem oct_ok(C:be)(hC:aI C P):aO C.aZ P 132 (Fn.run fOct):=by
 refine cr (JG C hC) fun ds rows r h=>?_
 obtain⟨d,l,rfl,rfl,hd,hp,rfl⟩:=a8 h
 obtain⟨e,hx⟩:=wB hd
 simp only[decide_eq_true_eq]at hp
 refine⟨rfl,_,.cons hx .nil,ag rfl ?_⟩
 clear h hd hx
 unfold zV zW
 have hl:(l.map uD).length=l.length:=by rw[List.length_map]
 simp only[↓aj,ak,simprocAttr,aa,hl]
 refine bB l.length (fun i env rows=>has env [(8,.raw (it (i:Int))),(7,.raw (it (l.length:Int))),(6,.cF dk (l.map uD) e)]∧∃d,look env 3=some d∧iK L8 d rows (bs (jQ (l.take i)))) ?_ ?_ ⟨?_,_,?_,.nil⟩
 ·rintro i hi env rows ⟨hh,d,h3,hO⟩ R hR
  simp only[has]at hh
  have e0:((i:Int)<(l.length:Int))=True:=eq_true (by omega)
  have e1:=cE i (by omega)
  have gi:=fun rows k=>J5 (s:=dk) (l:=l.map uD) (i:=i) (by omega) e rows k
  rw[List.getElem_map]at gi
  have hs:=TU l i hi
  generalize l[i]'hi=w at*
  simp only[↓aj,ak,simprocAttr,aa,aX,hh,h3,e0,gi]
  refine iX hO.push (by rw[aC,nC,List.length_take];simp[most];omega) (by rw[aC,nC,List.length_take];simp[most];omega) fun d2 ab F4 oD vS _=>?_
  have hO2:iK L8 d2 ab (bs (jQ (l.take (i+1)))):=by rw[←hs,←nU];exact F4
  simp only[↓aj,ak,simprocAttr,aa,aX,hh,e1]
  exact hR _ _ ⟨by simp only[has,↓aj,ak,simprocAttr,aa,hh],d2,by simp only[↓aj,ak,simprocAttr,aa],hO2⟩
 ·rintro env rows ⟨hh,d,h3,hO⟩ R
  simp only[has]at hh
  have e0:((l.length:Int)<(l.length:Int))=False:=eq_false (by omega)
  rw[List.take_length]at hO
  simp only[↓aj,ak,simprocAttr,aa,hh,h3,e0,hO.mI]
  exact hO.Jl
 ·simp only[has,↓aj,ak,simprocAttr,aa]
 ·simp only[↓aj,ak,simprocAttr,aa]
theorem kOct{rows:Rows}{d:D}{l:List (BitVec 32)}(h:bT rows (oo dk uD) d l)(hl:l.length≤1000)(k:D→Rows→Prop):aJ fOct rows k [d]=k (.sl L8 (0+rows.length) [] 0 (jQ l).length false) (rows++[some ⟨L8,bs (jQ l)⟩]):=by
 refine(cC h (by simp[hl]) rfl k).trans ?_
 simp[ez,shift,ae,Sh.pure]
def jE(c:pU):List (BitVec 8):=jQ ((c.w.drop 9).take 14)
noncomputable def QV:Fn:=lE (b8 qZ) (fun c=>decide (c.ws.length=64)) fun c=>ez (jE c) false
theorem keyc_ok(C:be)(hC:aI C P)(h1:C.fn 76=some Aw)(h2:C.fn 132=some fOct):aO C.aZ P 69 (Fn.run QV):=by
 refine aH (Fp C hC) fun ds rows r h=>?_
 obtain⟨d,c,rfl,rfl,hd,hp,rfl⟩:=a8 h
 cases aF hd
 simp only[decide_eq_true_eq]at hp
 refine⟨rfl,ag rfl ?_⟩
 clear h hd
 unfold vp vq
 have hm:c.w.length=64:=by rw[List.length_map,hp]
 have kA:=fun rows k=>Ix rows k c hp
 rw[jE]
 have hl:((c.w.drop 9).take 14).length≤1000:=by rw[List.length_take];omega
 have kO:=fun ex k=>kOct (bT.us (rows:=[some ⟨dk,us c.w⟩]) (r:=0) (off:=9) (len:=14) (ex:=ex) (l:=c.w) rfl (by omega)) hl k
 have nb:Jm (qZ c) (.raw (.pointer none))=some false:=rfl
 simp only[↓aj,ak,simprocAttr,aa,aX,h1,h2,kA,kO,nb]
 exact .own _ _ 0 _ _ _ _ rfl rfl (fun h=>by cases h)
theorem kKeyC{rows:Rows}{d:D}{c:pU}(h:bT rows (b8 qZ) d c)(hc:c.ws.length=64)(k:D→Rows→Prop):aJ QV rows k [d]=k (.sl L8 (0+rows.length) [] 0 56 false) (rows++[some ⟨L8,bs (jE c)⟩]):=by
 refine(cC h (by simp[hc]) rfl k).trans ?_
 have:(jE c).length=56:=by rw[jE,nC,List.length_take,List.length_drop,List.length_map,hc];rfl
 simp[ez,shift,ae,Sh.pure,this]
theorem XK{rows:Rows}{d:D}{c:pU}(h:bT rows (b8 qZ) d c)(hc:c.ws.length=64)(k:D→Rows→Prop):aJ Iy rows k [d]=k (.raw (it (dH c:Int))) rows:=by
 refine(cC h (by simp[hc]) rfl k).trans ?_
 simp[shift,ae]
theorem kCtr{rows:Rows}{d:D}{c:pU}(h:bT rows (b8 qZ) d c)(hc:c.ws.length=64)(k:D→Rows→Prop):aJ XI rows k [d]=k (.raw (it (iS c:Int))) rows:=by
 refine(cC h (by simp[hc]) rfl k).trans ?_
 simp[shift,ae]
theorem bT.qZ{rows:Rows}(c:pU):bT rows (b8 iC.qZ) (iC.qZ c) c:=⟨⟨_,rfl,bV D9 c⟩,fun _=>bV D9 c⟩
end iC
end Go.Am

import Derived.Test.YtgcejocgnfkciaaGreatDoorKr15
namespace Go.Am
set_option linter.unusedSimpArgs false
set_option linter.unusedVariables false
attribute [local congr] cd bt cg bu bw bO bg bx bz bP a7 bQ bA b9
namespace iC
open Go.Am.F
set_option maxRecDepth 10000
theorem Ao{s:Sh}{d:D}{rows:Rows}{els news:List D}{bytes:Nat}{k:D→Rows→Prop}(h:iK s d rows els)(hb:(els.length+news.length)*bytes≤most)(HI:els.length+news.length≤most)
  (hk:∀ab,live ab rows.length=some ⟨s,els++news⟩→(∀r x,live rows r=some x→(∀ex n,d≠ .sl s r [] 0 n ex)→live ab r=some x)→ab.length=rows.length+1→k (.sl s rows.length [] 0 (els.length+news.length) false) ab):uL rows s bytes d news k:=by
 unfold uL
 rw[h.elems,h.dK]
 refine⟨h.eK,rfl,hb,HI,?_⟩
 rcases h with⟨rfl,rfl⟩|⟨r,ex,rfl,hl⟩
 ·simp only[isNil,Bool.true_or,cond_true,kill]
  exact hk _ vi (fun r x hx _=>bJ hx) (by simp)
 ·simp only[isNil,owned,Bool.false_or,cond_true,kill]
  have h1:(rows.set r none).length=rows.length:=by simp
  refine hk _ (by rw[←h1];exact vi) (fun r' x hx hne=>?_) (by simp)
  have hr:r≠r':=fun e=>hne ex _ (by rw[e])
  refine bJ ?_
  unfold live at hx⊢
  rw[List.getElem?_set_ne hr];exact hx
theorem aG{rows:Rows}{r:Nat}{x y:Row}(h:live rows r=some x):live (rows.set r (some y)) r=some y:=by
 have:=bn h
 simp[live,this]
theorem cK{rows:Rows}{r q:Nat}{x y:Row}(h:live rows r=some x)(hn:q≠r):live (rows.set q (some y)) r=some x:=by
 unfold live at h⊢
 rw[List.getElem?_set_ne hn];exact h
theorem ia{s s':Sh}{d:D}{rows:Rows}{els els':List D}{r:Nat}(h:iK s d rows els)(hl:live rows r=some ⟨s',els'⟩)(hs:s'≠s):∀ex n,d≠ .sl s r [] 0 n ex:=by
 intro ex n e
 rcases h with⟨-,rfl⟩|⟨r2,Jk,rfl,G1⟩
 ·cases e
 ·injection e with _ e
  subst e
  rw[G1]at hl
  injection hl with hl
  injection hl with h1 h2
  exact hs h1.symm
theorem Is{s:Sh}{d:D}{rows:Rows}{els:List D}(h:iK s d rows els):D.fits d .ref=true:=by
 rcases h with⟨-,rfl⟩|⟨r,ex,rfl,-⟩<;>rfl
theorem JX{β:Type}{DF:D→Option β}{y:β}{pre:List (BitVec 8)→β→Bool}{out:List (BitVec 8)→β→D×Rows}{rows:Rows}{k:D→Rows→Prop}{d:D}{v:Value}{a:List (BitVec 8)}(h:bc rows d a)(h2:DF (.raw v)=some y)(hp:pre a y=true)
  (hr:(bZ (out a y).1&&aS (out a y).2)=true):aJ (wS dN DF pre out) rows k [d,.raw v]=k (shift rows.length (out a y).1) (rows++ae rows.length (out a y).2):=by
 obtain⟨⟨d',je,hb⟩,hn⟩:=h
 have hv:view rows 9 (.raw v)=some (.raw v):=rfl
 unfold aJ
 simp only[cW,je,hv,bd,jP hb.rd h2 hp,hr,true_and]
 cases hh:aN [d,.raw v]with
 |true=>simp
 |false=>
  simp[aN]at hh
  simp only[jP (hn hh.1).rd h2 hp]
  simp
def tx:Fn:=lE dN (fun a=>Nat.ble a.length most) fun a=>ez a false
theorem Mt(C:be)(hC:aI C P):aO C.aZ P 73 (Fn.run tx):=by
 refine cr (Hf C hC) fun ds rows r h=>?_
 obtain⟨d,a,rfl,rfl,hd,hp,rfl⟩:=a8 h
 obtain⟨x,hx⟩:=cy hd
 refine⟨rfl,_,.cons hx .nil,ag rfl ?_⟩
 simp only[Nat.ble_eq]at hp
 clear h hx hd
 unfold xz xA
 simp only[↓aj,ak,simprocAttr,aa,aC]
 unfold most at hp
 refine⟨fun h0=>?_,by omega,by omega,.own L8 1 0 a.length false false _ rfl rfl id⟩
 cases a with
 |nil=>exact .Wl L8
 |cons b l=>simp at h0
theorem JY(rows:Rows)(k:D→Rows→Prop)(d:D)(p:List (BitVec 8))(h:bc rows d p)(hp:p.length≤1099511627776):aJ tx rows k [d]=k (.sl L8 (0+rows.length) [] 0 p.length false) (rows++[some ⟨L8,bs p⟩]):=by
 refine(rE h (by simpa[most]using hp) rfl).trans ?_
 rfl
end iC
end Go.Am
namespace Go.Am
set_option linter.unusedSimpArgs false
set_option linter.unusedVariables false
namespace iC
def bT{α:Type}(rows:Rows)(rd:D→Option α)(d:D)(a:α):Prop:=(∃d',view rows 9 d=some d'∧rd d'=some a)∧(aQ d=false→rd d=some a)
theorem bT.raw{α:Type}{rows:Rows}{rd:D→Option α}{v:Value}{a:α}(h:rd (.raw v)=some a):bT rows rd (.raw v) a:=⟨⟨_,rfl,h⟩,fun _=>h⟩
theorem bT.int{rows:Rows}(n:Int):bT rows rC (.raw (it n)) n:= .raw (nS n)
theorem bT.agg{α:Type}{rows:Rows}{rd:D→Option α}{s:Sh}{l:List D}{a:α}(hs:s.pure=true)(h:rd (.agg s l)=some a):bT rows rd (.agg s l) a:=⟨⟨.agg s l,by simp[view,hs],h⟩,fun _=>h⟩
theorem bT.bs{rows:Rows}{d:D}{l:List (BitVec 8)}(h:bc rows d l):bT rows dN d l:=by
 obtain⟨⟨d',je,hb⟩,hn⟩:=h
 exact⟨⟨d',je,hb.rd⟩,fun hh=>(hn hh).rd⟩
theorem bT.parts{rows:Rows}{r n:Nat}{ex:Bool}{l:List D}{ls:List (List (BitVec 8))}(hl:live rows r=some ⟨.ref,l⟩)(hn:l.length=n)
  (hv:aY (fun x y=>bc rows x y) l ls):bT rows pz (.sl .ref r [] 0 n ex) ls:=by
 obtain⟨l',h1,h2⟩:=pC hv
 have he:elems rows (.sl .ref r [] 0 n ex)=some l:=by simp[elems,hl,←hn]
 have hvw:view rows 9 (.sl .ref r [] 0 n ex)=some (.cF .ref l' ex):=by
  simp only[view,he,hn,beq_self_eq_true,Bool.not_true,cond_false,Sh.pure,h1]
 exact⟨⟨_,hvw,by simpa[pz]using h2⟩,fun h=>by simp[aQ]at h⟩
theorem rZ{A:Fn}{rows:Rows}{k:D→Rows→Prop}{ds ds':List D}{r:D×Rows}(hv:cW (view rows 9) ds=some ds')(hA:A ds' []=some r)(hn:aN ds=false→A ds []=some r)(hr:(bZ r.1&&aS r.2)=true):
  aJ A rows k ds=k (shift rows.length r.1) (rows++ae rows.length r.2):=by
 unfold aJ
 cases hh:aN ds with
 |true=>simp[bd,hv,hA,hr]
 |false=>simp[bd,hn hh]
theorem cC{α:Type}{rd:D→Option α}{pre:α→Bool}{out:α→D×Rows}{rows:Rows}{d:D}{a:α}(h:bT rows rd d a)(hp:pre a=true)(hr:(bZ (out a).1&&aS (out a).2)=true)(k:D→Rows→Prop):
  aJ (lE rd pre out) rows k [d]=k (shift rows.length (out a).1) (rows++ae rows.length (out a).2):=by
 obtain⟨⟨x,hx,hx'⟩,hn⟩:=h
 refine rZ (ds':=[x]) (by simp only[cW,hx]) (ei hx' hp) (fun hh=>?_) hr
 simp only[aN,Bool.or_eq_false_iff,and_true]at hh
 exact ei (hn hh) hp
theorem jB{α β:Type}{rd:D→Option α}{rd':D→Option β}{pre:α→β→Bool}{out:α→β→D×Rows}{rows:Rows}{d e:D}{a:α}{b:β}(h:bT rows rd d a)(h':bT rows rd' e b)(hp:pre a b=true)
  (hr:(bZ (out a b).1&&aS (out a b).2)=true)(k:D→Rows→Prop):
  aJ (wS rd rd' pre out) rows k [d,e]=k (shift rows.length (out a b).1) (rows++ae rows.length (out a b).2):=by
 obtain⟨⟨x,hx,hx'⟩,hn⟩:=h
 obtain⟨⟨y,hy,hy'⟩,hm⟩:=h'
 refine rZ (ds':=[x,y]) (by simp only[cW,hx,hy]) (jP hx' hy' hp) (fun hh=>?_) hr
 simp only[aN,Bool.or_eq_false_iff,and_true]at hh
 exact jP (hn hh.1) (hm hh.2) hp
theorem fT{α β γ:Type}{rd:D→Option α}{rd':D→Option β}{DF:D→Option γ}{pre:α→β→γ→Bool}{out:α→β→γ→D×Rows}{rows:Rows}{d e f:D}{a:α}{b:β}{c:γ}(h:bT rows rd d a)(h':bT rows rd' e b)(h2:bT rows DF f c)(hp:pre a b c=true)
  (hr:(bZ (out a b c).1&&aS (out a b c).2)=true)(k:D→Rows→Prop):
  aJ (G2 rd rd' DF pre out) rows k [d,e,f]=k (shift rows.length (out a b c).1) (rows++ae rows.length (out a b c).2):=by
 obtain⟨⟨x,hx,hx'⟩,hn⟩:=h
 obtain⟨⟨y,hy,hy'⟩,hm⟩:=h'
 obtain⟨⟨z,hz,I5⟩,ho⟩:=h2
 refine rZ (ds':=[x,y,z]) (by simp only[cW,hx,hy,hz]) (by simp only[yD,hx',hy',I5,Option.bind_some,hp,cond_true]) (fun hh=>?_) hr
 simp only[aN,Bool.or_eq_false_iff,and_true]at hh
 simp only[yD,hn hh.1,hm hh.2.1,ho hh.2.2,Option.bind_some,hp,cond_true]
end iC
end Go.Am
namespace Go.Am
set_option linter.unusedSimpArgs false
set_option linter.unusedVariables false
attribute [local congr] cd bt cg bu bw bO bg bx bz bP a7 bQ bA b9
namespace iC
open Go.Am.F
set_option maxRecDepth 10000
theorem r8{l:List (List (BitVec 8))}(h:∀x∈l,x.length=32):l.flatten.length=32*l.length:=by
 induction l with
 |nil=>rfl
 |cons x l ih=>rw[List.flatten_cons,List.length_append,ih (fun y hy=>h y (by simp[hy])),h x (by simp),List.length_cons];omega
theorem bc.at{rows:Rows}{r n i off len:Nat}{q:List Nat}{e:Bool}{row:Row}{l:List (BitVec 8)}(h:live rows r=some row)(hg:cP row.els (i::q)=some (.agg (.ar n L8) (bs l)))(hle:off+len≤l.length):bc rows (.sl L8 r (i::q) off len e) ((l.drop off).take len):=by
 refine⟨⟨.cF L8 (bs ((l.drop off).take len)) e,?_,.inr ⟨e,rfl⟩⟩,fun h=>by simp[aQ]at h⟩
 have h2:Am.elems rows (.sl L8 r (i::q) off len e)=some (bs ((l.drop off).take len)):=by
  simp only[elems,h,hg]
  simp[bs]
 simp only[Am.view]
 rw[h2]
 have hl:(bs ((l.drop off).take len)).length=len:=by simp[bs];omega
 simp[Sh.pure,hl]
theorem oG{rows:Rows}{r n i len:Nat}{q:List Nat}{e:Bool}{row:Row}{l:List (BitVec 8)}(h:live rows r=some row)(hg:cP row.els (i::q)=some (.agg (.ar n L8) (bs l)))(hl:l.length=len):Am.elems rows (.sl L8 r (i::q) 0 len e)=some (bs l):=by
 simp only[elems,h,hg]
 simp[bs,←hl,List.take_of_length_le]
theorem bc.r9{rows:Rows}{r n i len:Nat}{q:List Nat}{e:Bool}{row:Row}{l:List (BitVec 8)}(h:live rows r=some row)(hg:cP row.els (i::q)=some (.agg (.ar n L8) (bs l)))(hl:l.length=len):bc rows (.sl L8 r (i::q) 0 len e) l:=by
 have:=bc.at (off:=0) (len:=len) (e:=e) h hg (by omega)
 rwa [List.drop_zero,List.take_of_length_le (by omega)]at this
def ug:List (BitVec 8):=List.replicate 32 0#8
theorem dW:List.replicate 32 (D.raw (u8 0#8))=bs ug:=rfl
theorem inj_id(x y:List (BitVec 8))(h:D.agg (.ar 16 L8) (bs x)= .agg (.ar 16 L8) (bs y)):x=y:=by
 injection h with _ h;exact tu h
def xN(l:List (BitVec 8)):D:= .agg (.ar 16 L8) (bs l)
theorem D6{rows:Rows}(x:List (BitVec 8)):bT rows (b8 xN) (.agg (.ar 16 L8) (bs x)) x:=bT.agg rfl (bV inj_id x)
def It(l:List (List (BitVec 8))):Bool:=l.all fun x=>decide (x.length=32)
theorem sa{l:List (List (BitVec 8))}:It l=true↔∀x∈l,x.length=32:=by simp[It]
theorem iQ{rows:Rows}(x:List (BitVec 8)):bT rows (b8 aW) (.agg (.ar 32 L8) (bs x)) x:=bT.agg rfl (bV Al x)
theorem QJ:∀(a b:List (BitVec 8)),a.length=b.length→yV (bs a) (bs b)=some (decide (a=b))
 |[],[],_=>rfl
 | x :: a, y :: b, h => by
  have e1:sK (.raw (u8 x)) (.raw (u8 y))=some (decide (x=y)):=by
   simp only[sK,gW,u8]
   by_cases h:x=y
   ·subst h;simp
   ·have:¬(x.toNat:Int)=(y.toNat:Int):=fun e=>h (BitVec.eq_of_toNat_eq (by omega))
    simp[h,this]
  show yV (.raw (u8 x)::bs a) (.raw (u8 y)::bs b)=_
  rw[eL_c,e1,QJ a b (by simpa using h)]
  by_cases h1:x=y<;>by_cases h2:a=b<;>simp[h1,h2]
theorem JZ(a b:List (BitVec 8))(ha:a.length=32)(hb:b.length=32):eqA (.ar 32 L8) (.agg (.ar 32 L8) (bs a)) (.agg (.ar 32 L8) (bs b))=some (decide (a=b)):=by
 have:=QJ a b (by omega)
 simp[eqA,this]
end iC
end Go.Am
namespace Go.Am
set_option linter.unusedSimpArgs false
set_option linter.unusedVariables false
namespace iC
def Xr(l:List (BitVec 8)):Nat:=l.foldl (fun n b=>n*256+b.toNat) 0
theorem TF(a b c d:BitVec 8):Xr [a,b,c,d]=(cY [a,b,c,d]).toNat:=by
 have ha:=a.isLt
 have hb:=b.isLt
 have hc:=c.isLt
 have hd:=d.isLt
 have e:∀(x:BitVec 8) (k:Nat),k≤24→(x.setWidth 32<<<k).toNat=x.toNat*2^k:=by
  intro x k hk
  have hx:=x.isLt
  rw[BitVec.toNat_shiftLeft,BitVec.toNat_setWidth,Nat.shiftLeft_eq,Nat.mod_eq_of_lt (a:=x.toNat) (by omega)]
  apply Nat.mod_eq_of_lt
  calc x.toNat*2^k<2^8*2^k:=Nat.mul_lt_mul_of_pos_right hx (Nat.pow_pos (by decide))
   _≤2^8*2^24:=Nat.mul_le_mul_left _ (Nat.pow_le_pow_right (by decide) hk)
   _=2^32:=by decide
 have e8:∀(x:BitVec 8),(x.setWidth 32).toNat=x.toNat:=fun x=>by
  have:=x.isLt
  rw[BitVec.toNat_setWidth,Nat.mod_eq_of_lt (by omega)]
 have o:∀(x y k:Nat),y<2^k→(x*2^k)|||y=x*2^k+y:=fun x y k h=>by
  rw[Nat.mul_comm,←Nat.two_pow_add_eq_or_of_lt h]
 show Xr [a,b,c,d]=(a.setWidth 32<<<24|||b.setWidth 32<<<16|||c.setWidth 32<<<8|||d.setWidth 32).toNat
 rw[BitVec.toNat_or,BitVec.toNat_or,BitVec.toNat_or,e a 24 (by decide),e b 16 (by decide),e c 8 (by decide),e8 d,o _ (b.toNat*2^16) 24 (by omega)]
 rw[show a.toNat*2^24+b.toNat*2^16=(a.toNat*256+b.toNat)*2^16 by omega,o _ (c.toNat*2^8) 16 (by omega)]
 rw[show(a.toNat*256+b.toNat)*2^16+c.toNat*2^8=((a.toNat*256+b.toNat)*256+c.toNat)*2^8 by omega,o _ d.toNat 8 (by omega)]
 simp only[Xr,List.foldl_cons,List.foldl_nil]
 omega
theorem O3(x:BitVec 32):Xr (bC x)=x.toNat:=by
 have hx:=x.isLt
 simp only[bC,Xr,List.foldl_cons,List.foldl_nil,BitVec.toNat_setWidth,BitVec.toNat_ushiftRight,Nat.shiftRight_eq_div_pow]
 omega
def uG(n:Nat):List (BitVec 8):=[BitVec.ofNat 8 (n/256),BitVec.ofNat 8 n]
def xO(id:List (BitVec 8))(q:BitVec 32)(i j:Nat)(x:List (BitVec 8)):List (BitVec 8):=dU (id++bC q++uG i++[BitVec.ofNat 8 j]++x)
theorem oH(id:List (BitVec 8))(q:BitVec 32)(i j:Nat)(x:List (BitVec 8)):(xO id q i j x).length=32:=dh _
def Hn(id:List (BitVec 8))(q:BitVec 32)(i:Nat):Nat→Nat→List (BitVec 8)→List (BitVec 8)
 |0,_,x=>x
 |n+1,a,x=>Hn id q i n (a+1) (xO id q i a x)
theorem wD(id:List (BitVec 8))(q:BitVec 32)(i:Nat):∀(n a:Nat) (x:List (BitVec 8)),x.length=32→(Hn id q i n a x).length=32
 |0,_,x,h=>h
 |n+1,a,x,_=>wD id q i n (a+1) _ (oH _ _ _ _ _)
theorem J0(id:List (BitVec 8))(q:BitVec 32)(i m:Nat):∀(n a:Nat) (x:List (BitVec 8)),Hn id q i (n+m) a x=Hn id q i m (a+n) (Hn id q i n a x)
 |0,a,x=>by rw[Nat.zero_add];rfl
 |n+1,a,x=>by
  rw[show n+1+m=(n+m)+1 by omega]
  show Hn id q i (n+m) (a+1) (xO id q i a x)=Hn id q i m (a+(n+1)) (Hn id q i n (a+1) (xO id q i a x))
  rw[J0 id q i m n (a+1),show a+1+n=a+(n+1) by omega]
theorem Xs(id:List (BitVec 8))(q:BitVec 32)(i n a:Nat)(x:List (BitVec 8)):Hn id q i (n+1) a x=xO id q i (a+n) (Hn id q i n a x):=J0 id q i 1 n a x
def DH(id:List (BitVec 8))(q:BitVec 32)(i:Nat)(aL:List (BitVec 8)):List (BitVec 8):=xO id q i 255 aL
def CW(id:List (BitVec 8))(q:BitVec 32)(l:List (List (BitVec 8))):List (BitVec 8):=dU (id++bC q++uG 32896++l.flatten)
def vN(id:List (BitVec 8))(q:BitVec 32)(aL:List (BitVec 8))(e n:Nat):List (List (BitVec 8)):=(List.range n).map fun i=>Hn id q i e 0 (DH id q i aL)
theorem Xt(id:List (BitVec 8))(q:BitVec 32)(aL:List (BitVec 8))(e n:Nat):∀x∈vN id q aL e n,x.length=32:=by
 intro x hx
 obtain⟨i,-,rfl⟩:=List.mem_map.1 hx
 exact wD _ _ _ _ _ _ (oH _ _ _ _ _)
def Xu{α β γ δ:Type}(r0:D→Option α)(r1:D→Option β)(r2:D→Option γ)(r3:D→Option δ)(pre:α→β→γ→δ→Bool)(out:α→β→γ→δ→D×Rows):Fn
 |[d0,d1,d2,d3],[]=>match r0 d0,r1 d1,r2 d2,r3 d3 with
  |some x0,some x1,some x2,some x3=>bif pre x0 x1 x2 x3 then some (out x0 x1 x2 x3)else none
  | _,_,_,_=>none
 | _,_=>none
theorem sc{α β γ δ:Type}{r0:D→Option α}{r1:D→Option β}{r2:D→Option γ}{r3:D→Option δ}{pre:α→β→γ→δ→Bool}{out:α→β→γ→δ→D×Rows}{ds:List D}{rows:Rows}{r:D×Rows}(h:Xu r0 r1 r2 r3 pre out ds rows=some r):
  ∃d0 d1 d2 d3 x0 x1 x2 x3,ds=[d0,d1,d2,d3]∧rows=[]∧r0 d0=some x0∧r1 d1=some x1∧r2 d2=some x2∧r3 d3=some x3∧pre x0 x1 x2 x3=true∧r=out x0 x1 x2 x3:=by
 unfold Xu at h
 split at h
 ·rename_i d0 d1 d2 d3
  split at h
  ·rename_i x0 x1 x2 x3 h0 h1 h2 h3
   cases hp:pre x0 x1 x2 x3 with
   |false=>rw[hp]at h;cases h
   |true=>rw[hp]at h;cases h;exact⟨d0,d1,d2,d3,x0,x1,x2,x3,rfl,rfl,h0,h1,h2,h3,hp,rfl⟩
  ·cases h
 ·cases h
theorem O4{α β γ δ:Type}{r0:D→Option α}{r1:D→Option β}{r2:D→Option γ}{r3:D→Option δ}{pre:α→β→γ→δ→Bool}{out:α→β→γ→δ→D×Rows}{d0 d1 d2 d3:D}{x0:α}{x1:β}{x2:γ}{x3:δ}(h0:r0 d0=some x0)(h1:r1 d1=some x1)(h2:r2 d2=some x2)(h3:r3 d3=some x3)(hp:pre x0 x1 x2 x3=true):
  Xu r0 r1 r2 r3 pre out [d0,d1,d2,d3] []=some (out x0 x1 x2 x3):=by
 simp[Xu,h0,h1,h2,h3,hp]
theorem vO{α β γ δ:Type}{r0:D→Option α}{r1:D→Option β}{r2:D→Option γ}{r3:D→Option δ}{pre:α→β→γ→δ→Bool}{out:α→β→γ→δ→D×Rows}{rows:Rows}{d0 d1 d2 d3:D}{x0:α}{x1:β}{x2:γ}{x3:δ}(h0:bT rows r0 d0 x0)(h1:bT rows r1 d1 x1)(h2:bT rows r2 d2 x2)(h3:bT rows r3 d3 x3)(hp:pre x0 x1 x2 x3=true)
  (hr:(bZ (out x0 x1 x2 x3).1&&aS (out x0 x1 x2 x3).2)=true)(k:D→Rows→Prop):
  aJ (Xu r0 r1 r2 r3 pre out) rows k [d0,d1,d2,d3]=k (shift rows.length (out x0 x1 x2 x3).1) (rows++ae rows.length (out x0 x1 x2 x3).2):=by
 obtain⟨⟨y0,a0,b0⟩,c0⟩:=h0
 obtain⟨⟨y1,a1,b1⟩,c1⟩:=h1
 obtain⟨⟨y2,a2,b2⟩,c2⟩:=h2
 obtain⟨⟨y3,a3,b3⟩,c3⟩:=h3
 refine rZ (ds':=[y0,y1,y2,y3]) (by simp only[cW,a0,a1,a2,a3]) (O4 b0 b1 b2 b3 hp) (fun hh=>?_) hr
 simp only[aN,Bool.or_eq_false_iff,and_true]at hh
 exact O4 (c0 hh.1) (c1 hh.2.1) (c2 hh.2.2.1) (c3 hh.2.2.2) hp
def gn5{α β γ δ ε:Type}(r0:D→Option α)(r1:D→Option β)(r2:D→Option γ)(r3:D→Option δ)(r4:D→Option ε)(pre:α→β→γ→δ→ε→Bool)(out:α→β→γ→δ→ε→D×Rows):Fn
 |[d0,d1,d2,d3,d4],[]=>match r0 d0,r1 d1,r2 d2,r3 d3,r4 d4 with
  |some x0,some x1,some x2,some x3,some x4=>bif pre x0 x1 x2 x3 x4 then some (out x0 x1 x2 x3 x4)else none
  | _,_,_,_,_=>none
 | _,_=>none
theorem Mu{α β γ δ ε:Type}{r0:D→Option α}{r1:D→Option β}{r2:D→Option γ}{r3:D→Option δ}{r4:D→Option ε}{pre:α→β→γ→δ→ε→Bool}{out:α→β→γ→δ→ε→D×Rows}{ds:List D}{rows:Rows}{r:D×Rows}(h:gn5 r0 r1 r2 r3 r4 pre out ds rows=some r):
  ∃d0 d1 d2 d3 d4 x0 x1 x2 x3 x4,ds=[d0,d1,d2,d3,d4]∧rows=[]∧r0 d0=some x0∧r1 d1=some x1∧r2 d2=some x2∧r3 d3=some x3∧r4 d4=some x4∧pre x0 x1 x2 x3 x4=true∧r=out x0 x1 x2 x3 x4:=by
 unfold gn5 at h
 split at h
 ·rename_i d0 d1 d2 d3 d4
  split at h
  ·rename_i x0 x1 x2 x3 x4 h0 h1 h2 h3 h4
   cases hp:pre x0 x1 x2 x3 x4 with
   |false=>rw[hp]at h;cases h
   |true=>rw[hp]at h;cases h;exact⟨d0,d1,d2,d3,d4,x0,x1,x2,x3,x4,rfl,rfl,h0,h1,h2,h3,h4,hp,rfl⟩
  ·cases h
 ·cases h
theorem Xv{α β γ δ ε:Type}{r0:D→Option α}{r1:D→Option β}{r2:D→Option γ}{r3:D→Option δ}{r4:D→Option ε}{pre:α→β→γ→δ→ε→Bool}{out:α→β→γ→δ→ε→D×Rows}{d0 d1 d2 d3 d4:D}{x0:α}{x1:β}{x2:γ}{x3:δ}{x4:ε}(h0:r0 d0=some x0)(h1:r1 d1=some x1)(h2:r2 d2=some x2)(h3:r3 d3=some x3)(h4:r4 d4=some x4)(hp:pre x0 x1 x2 x3 x4=true):
  gn5 r0 r1 r2 r3 r4 pre out [d0,d1,d2,d3,d4] []=some (out x0 x1 x2 x3 x4):=by
 simp[gn5,h0,h1,h2,h3,h4,hp]
theorem Mv{α β γ δ ε:Type}{r0:D→Option α}{r1:D→Option β}{r2:D→Option γ}{r3:D→Option δ}{r4:D→Option ε}{pre:α→β→γ→δ→ε→Bool}{out:α→β→γ→δ→ε→D×Rows}{rows:Rows}{d0 d1 d2 d3 d4:D}{x0:α}{x1:β}{x2:γ}{x3:δ}{x4:ε}(h0:bT rows r0 d0 x0)(h1:bT rows r1 d1 x1)(h2:bT rows r2 d2 x2)(h3:bT rows r3 d3 x3)(h4:bT rows r4 d4 x4)(hp:pre x0 x1 x2 x3 x4=true)
  (hr:(bZ (out x0 x1 x2 x3 x4).1&&aS (out x0 x1 x2 x3 x4).2)=true)(k:D→Rows→Prop):
  aJ (gn5 r0 r1 r2 r3 r4 pre out) rows k [d0,d1,d2,d3,d4]=k (shift rows.length (out x0 x1 x2 x3 x4).1) (rows++ae rows.length (out x0 x1 x2 x3 x4).2):=by
 obtain⟨⟨y0,a0,b0⟩,c0⟩:=h0
 obtain⟨⟨y1,a1,b1⟩,c1⟩:=h1
 obtain⟨⟨y2,a2,b2⟩,c2⟩:=h2
 obtain⟨⟨y3,a3,b3⟩,c3⟩:=h3
 obtain⟨⟨y4,a4,b4⟩,c4⟩:=h4
 refine rZ (ds':=[y0,y1,y2,y3,y4]) (by simp only[cW,a0,a1,a2,a3,a4]) (Xv b0 b1 b2 b3 b4 hp) (fun hh=>?_) hr
 simp only[aN,Bool.or_eq_false_iff,and_true]at hh
 exact Xv (c0 hh.1) (c1 hh.2.1) (c2 hh.2.2.1) (c3 hh.2.2.2.1) (c4 hh.2.2.2.2) hp
end iC
end Go.Am
namespace Go.Am
set_option linter.unusedSimpArgs false
set_option linter.unusedVariables false
attribute [local congr] cd bt cg bu bw bO bg bx bz bP a7 bQ bA b9
namespace iC
open Go.Am.F
set_option maxRecDepth 10000
abbrev pD:Sh:= .cons LI (.cons LI (.cons LI .nil))
theorem mP{x y:BitVec 32}(h:u32 x=u32 y):x=y:=by
 injection h with _ h
 exact BitVec.eq_of_toNat_eq (by omega)
def wT(t:Nat):Nat:=if t=1 then 1 else if t=2 then 2 else if t=3 then 4 else if t=4 then 8 else 0
def pT(t:Nat):Nat:=if t=1 then 265 else if t=2 then 133 else if t=3 then 67 else if t=4 then 34 else 0
def lT(t:Nat):Nat:=if t=1 then 7 else if t=2 then 6 else if t=3 then 4 else 0
def sH(t:Nat):Bool:=decide (1≤t)&&decide (t≤4)
theorem Iu{t:BitVec 32}(h:sH t.toNat=true):t=1#32∨t=2#32∨t=3#32∨t=4#32:=by
 simp only[sH,Bool.and_eq_true,decide_eq_true_eq]at h
 have:t.toNat=1∨t.toNat=2∨t.toNat=3∨t.toNat=4:=by omega
 rcases this with h|h|h|h
 ·exact .inl (BitVec.eq_of_toNat_eq h)
 ·exact .inr (.inl (BitVec.eq_of_toNat_eq h))
 ·exact .inr (.inr (.inl (BitVec.eq_of_toNat_eq h)))
 ·exact .inr (.inr (.inr (BitVec.eq_of_toNat_eq h)))
theorem okT_not{t:Nat}(h:sH t=false):wT t=0∧pT t=0∧lT t=0:=by
 simp only[sH,Bool.and_eq_false_iff,decide_eq_false_iff_not]at h
 refine⟨?_,?_,?_⟩<;>simp only[wT,pT,lT]<;>(repeat' split)<;>omega
structure Z5 where
 w:Nat
 p:Nat
 l:Nat
def iR(x:Z5):D:= .agg pD [.raw (it (x.w:Int)),.raw (it (x.p:Int)),.raw (it (x.l:Int))]
theorem J1{x y:Nat}(h:it (x:Int)=it (y:Int)):x=y:=by
 injection h with _ h;omega
theorem Xw(x y:Z5)(h:iR x=iR y):x=y:=by
 obtain⟨a,b,c⟩:=x
 obtain⟨d,e,f⟩:=y
 simp only[iR,D.agg.injEq,List.cons.injEq,D.raw.injEq,true_and,and_true]at h
 rw[J1 h.1,J1 h.2.1,J1 h.2.2]
theorem cQ(x:Z5):(iR x).fits pD=true:=rfl
def uB(t:Nat):Z5:=⟨wT t,pT t,lT t⟩
theorem Xx{rows:Rows}(x:Z5):bT rows (b8 iR) (iR x) x:=bT.agg rfl (bV Xw x)
def BJ:D:= .agg (.ar 4 pD) [iR ⟨1,265,7⟩,iR ⟨2,133,6⟩,iR ⟨4,67,4⟩,iR ⟨8,34,0⟩]
def l6:Fn:=lE qN (fun _=>true) fun t=>(.cA [iR (uB t.toNat),.raw (.bool (sH t.toNat))],[])
theorem TG(C:be)(hC:aI C P)(hg:C.aZ 0=some BJ):aO C.aZ P 37 (Fn.run l6):=by
 refine aH (Jw C hC) fun ds rows r h=>?_
 obtain⟨d,t,rfl,rfl,hd,hp,rfl⟩:=a8 h
 cases dL hd
 refine⟨rfl,ag rfl ?_⟩
 clear h hd
 unfold zw zy
 have hz:D.agg pD [.raw (it 0),.raw (it 0),.raw (it 0)]=iR ⟨0,0,0⟩:=rfl
 simp only[hz]
 cases hk:sH t.toNat
 ·obtain⟨hw,hp,hl⟩:=okT_not hk
  have e:uB t.toNat=⟨0,0,0⟩:=by rw[uB,hw,hp,hl]
  rw[e]
  simp only[sH,Bool.and_eq_false_iff,decide_eq_false_iff_not]at hk
  have p8:=t.isLt
  by_cases c:t<1#32
  ·have c1:(t<1#32)=True:=eq_true c
   simp only[↓aj,ak,simprocAttr,aa,aX,cQ,c1,decide_true]
   exact .val _ rfl
  ·have c1:(t<1#32)=False:=eq_false c
   have c2:(4#32<t)=True:=eq_true (by
    rw[BitVec.lt_def]at c⊢
    have e1:(1#32).toNat=1:=rfl
    have e4:(4#32).toNat=4:=rfl
    omega)
   simp only[↓aj,ak,simprocAttr,aa,aX,cQ,c1,c2,decide_true,decide_false]
   exact .val _ rfl
 ·rcases Iu hk with rfl|rfl|rfl|rfl
  ·simp only[↓aj,ak,simprocAttr,aa,aX,cQ,hg,BJ,BitVec.reduceLT,BitVec.reduceSub,BitVec.reduceToNat,decide_true,decide_false]
   exact .val _ rfl
  ·simp only[↓aj,ak,simprocAttr,aa,aX,cQ,hg,BJ,BitVec.reduceLT,BitVec.reduceSub,BitVec.reduceToNat,decide_true,decide_false]
   exact .val _ rfl
  ·simp only[↓aj,ak,simprocAttr,aa,aX,cQ,hg,BJ,BitVec.reduceLT,BitVec.reduceSub,BitVec.reduceToNat,decide_true,decide_false]
   exact .val _ rfl
  ·simp only[↓aj,ak,simprocAttr,aa,aX,cQ,hg,BJ,BitVec.reduceLT,BitVec.reduceSub,BitVec.reduceToNat,decide_true,decide_false]
   exact .val _ rfl
theorem mY(rows:Rows)(k:D→Rows→Prop)(t:BitVec 32):aJ l6 rows k [.raw (u32 t)]=k (.cA [iR (uB t.toNat),.raw (.bool (sH t.toNat))]) rows:=by
 refine(cC (bT.raw (fK t)) rfl rfl k).trans ?_
 simp[iR,shift,bh,ae,Sh.pure]
abbrev vP:Sh:= .cons (.ar 16 L8) (.cons dk .nil)
structure Site where
 id:List (BitVec 8)
 q:BitVec 32
def fb(s:Site):D:= .agg vP [.agg (.ar 16 L8) (bs s.id),.raw (u32 s.q)]
theorem TH(x y:Site)(h:fb x=fb y):x=y:=by
 obtain⟨a,b⟩:=x
 obtain⟨c,d⟩:=y
 simp only[fb,D.agg.injEq,List.cons.injEq,D.raw.injEq,true_and,and_true]at h
 rw[tu h.1,mP h.2]
theorem dw(s:Site):(fb s).fits vP=true:=rfl
theorem jC(s:Site)(rows:Rows):bT rows (b8 fb) (fb s) s:=bT.agg rfl (bV TH s)
theorem Xy(m b:Nat)(kd:IntKind)(hb:b≤64)(k:D→Prop):bE .shr (it (m:Int)) (.int kd (b:Int)) k=k (.raw (it ((m/2^b:Nat):Int))):=by
 have e:(m:Int).fdiv (2^(min (b:Int).toNat IntKind.i64.bits))=((m/2^b:Nat):Int):=by
  have:min (b:Int).toNat IntKind.i64.bits=b:=by show min (b:Int).toNat 64=b;omega
  rw[this,Int.fdiv_eq_ediv_of_nonneg _ (Int.le_of_lt (Int.pow_pos (by decide)))]
  rw[show((2:Int)^b)=((2^b:Nat):Int) by simp]
  omega
 simp only[bE,it]
 rw[e]
 simp
def O5:Fn:=lE rC (fun n=>decide (0≤n)&&decide (n<65536)) fun n=>ez (uG n.toNat) false
theorem two_ok(C:be)(hC:aI C P):aO C.aZ P 162 (Fn.run O5):=by
 refine aH (Tp C hC) fun ds rows r h=>?_
 obtain⟨d,n,rfl,rfl,hd,hp,rfl⟩:=a8 h
 cases bX hd
 simp only[Bool.and_eq_true,decide_eq_true_eq]at hp
 refine⟨rfl,ag rfl ?_⟩
 clear h hd
 obtain⟨m,rfl⟩:=Int.eq_ofNat_of_zero_le hp.1
 have hm:m<65536:=by omega
 unfold Ic Ie
 have e8:∀k,bE .shr (it (m:Int)) (u64 8#64) k=k (.raw (it ((m/256:Nat):Int))):=fun k=>Xy m 8 .u64 (by decide) k
 have e1:BitVec.ofInt 8 ((m/256:Nat):Int)=BitVec.ofNat 8 (m/256):=BitVec.ofInt_natCast _ _
 have e2:BitVec.ofInt 8 (m:Int)=BitVec.ofNat 8 m:=BitVec.ofInt_natCast _ _
 simp only[↓aj,ak,simprocAttr,aa,e8,e1,e2]
 exact .own _ 0 0 2 true false _ rfl rfl (fun h=>by cases h)
theorem kTwo(rows:Rows)(k:D→Rows→Prop)(n:Nat)(h:n<65536):aJ O5 rows k [.raw (it (n:Int))]=k (.sl L8 (0+rows.length) [] 0 2 false) (rows++[some ⟨L8,bs (uG n)⟩]):=by
 refine(cC (bT.int _) (by simp;omega) rfl k).trans ?_
 simp[ez,shift,ae,Sh.pure,uG]
def xP:Fn:=lE qN (fun _=>true) fun q=>ez (bC q) false
theorem four_ok(C:be)(hC:aI C P):aO C.aZ P 167 (Fn.run xP):=by
 refine aH (OQ C hC) fun ds rows r h=>?_
 obtain⟨d,n,rfl,rfl,hd,hp,rfl⟩:=a8 h
 cases dL hd
 refine⟨rfl,ag rfl ?_⟩
 clear h hd
 unfold FL FM
 simp only[↓aj,ak,simprocAttr,aa]
 exact .own _ 0 0 4 true false _ rfl rfl (fun h=>by cases h)
theorem Mw(rows:Rows)(k:D→Rows→Prop)(q:BitVec 32):aJ xP rows k [.raw (u32 q)]=k (.sl L8 (0+rows.length) [] 0 4 false) (rows++[some ⟨L8,bs (bC q)⟩]):=by
 refine(cC (bT.raw (fK q)) rfl rfl k).trans ?_
 simp[ez,shift,ae,Sh.pure,bC]
def stZ:St:=⟨List.replicate 8 0#32,List.replicate 64 0#8,0#64⟩
theorem O6:D.agg KM [.agg (.ar 8 dk) (List.replicate 8 (.raw (u32 0#32))),.agg (.ar 64 L8) (List.replicate 64 (.raw (u8 0#8))),.raw (u64 0#64)]=rY stZ:=rfl
def jR(s:Site):St:=feed Iq (s.id++bC s.q)
theorem oI(s:Site):(jR s).ok=true:=eD _ _ mO
noncomputable def BK:Fn:=lE (b8 fb) (fun s=>decide (s.id.length=16)) fun s=>(rY (jR s),[])
theorem Xz(C:be)(hC:aI C P)(h1:C.fn 157=some Mr)(h2:C.fn 158=some qB)(h3:C.fn 167=some xP):aO C.aZ P 161 (Fn.run BK):=by
 refine aH (L9 C hC) fun ds rows r h=>?_
 obtain⟨d,s,rfl,rfl,hd,hp,rfl⟩:=a8 h
 cases aF hd
 simp only[decide_eq_true_eq]at hp
 refine⟨rfl,ag rfl ?_⟩
 clear h hd
 unfold Cz CK
 simp only[O6]
 have NS:(fb s).get [0]=some (.agg (.ar 16 L8) (bs s.id)):=rfl
 have Sy:(fb s).get [1]=some (.raw (u32 s.q)):=rfl
 simp only[↓aj,ak,simprocAttr,aa,aX,dw,l5,h1,h2,O1]
 refine Eq.mpr (jI _ _ _ _ s.id (bc.r9 (n:=16) rfl (by simp only[↓aj,ak,simprocAttr,aa,NS]) hp) mO) ?_
 have hok1:=eD s.id Iq mO
 have oD:feed (feed Iq s.id) (bC s.q)=jR s:=(eC _ _ _).symm
 simp only[↓aj,ak,simprocAttr,aa,aX,Sy,h3,Mw,h2]
 refine Eq.mpr (jI _ _ _ _ (bC s.q) (bc.own rfl _ rfl) hok1) ?_
 rw[oD]
 simp only[↓aj,ak,simprocAttr,aa,aX,l5]
 exact .val _ rfl
theorem O7(rows:Rows)(k:D→Rows→Prop)(s:Site)(h:s.id.length=16):aJ BK rows k [fb s]=k (rY (jR s)) rows:=by
 refine(cC (jC s rows) (by simp[h]) rfl k).trans ?_
 simp[rY,shift,ae,Sh.pure]
def TI(i n:Int):Bool:=decide (0≤i)&&decide (i<n)
theorem J2{i n:Int}:TI i n=true↔0≤i∧i<n:=by simp[TI]
noncomputable def Mx:Fn:=Xu (b8 fb) rC rC (b8 aW) (fun s i j x=>decide (s.id.length=16)&&TI i 65536&&TI j 256&&decide (x.length=32)) fun s i j x=>(aW (xO s.id s.q i.toNat j.toNat x),[])
theorem step_ok(C:be)(hC:aI C P)(h1:C.fn 161=some BK)(h2:C.fn 162=some O5)(h3:C.fn 158=some qB)(h4:C.fn 159=some tw):aO C.aZ P 160 (Fn.run Mx):=by
 refine aH (OO C hC) fun ds rows r h=>?_
 obtain⟨d0,d1,d2,d3,s,i,j,x,rfl,rfl,g0,g1,g2,g3,hp,rfl⟩:=sc h
 cases aF g0
 cases bX g1
 cases bX g2
 cases aF g3
 simp only[Bool.and_eq_true,decide_eq_true_eq,J2]at hp
 obtain⟨⟨⟨gV,hi⟩,hj⟩,hx⟩:=hp
 refine⟨rfl,ag rfl ?_⟩
 clear h g0 g1 g2 g3
 obtain⟨i,rfl⟩:=Int.eq_ofNat_of_zero_le hi.1
 obtain⟨j,rfl⟩:=Int.eq_ofNat_of_zero_le hj.1
 have hi':i<65536:=by omega
 have mr:j<256:=by omega
 unfold FH FI
 simp only[dW]
 have ej:BitVec.ofInt 8 (j:Int)=BitVec.ofNat 8 j:=BitVec.ofInt_natCast _ _
 have kT:=fun rows k=>kTwo rows k i hi'
 simp only[↓aj,ak,simprocAttr,aa,aX,aW,dw,h1,O7 _ _ s gV,h2,kT,h3]
 refine Eq.mpr (jI _ _ _ _ (uG i) (bc.own rfl _ rfl) (oI s)) ?_
 simp only[↓aj,ak,simprocAttr,aa,aX,ej,h3]
 have o1:=eD (uG i) _ (oI s)
 refine Eq.mpr (jI _ _ _ _ [BitVec.ofNat 8 j] (bc.own rfl _ rfl) o1) ?_
 simp only[↓aj,ak,simprocAttr,aa,aX,h3]
 have o2:=eD [BitVec.ofNat 8 j] _ o1
 refine Eq.mpr (jI _ _ _ _ x (bc.r9 (n:=32) rfl rfl hx) o2) ?_
 have o3:=eD x _ o2
 simp only[↓aj,ak,simprocAttr,aa,aX,h4,yF _ _ _ o3]
 have e:oq (feed (feed (feed (jR s) (uG i)) [BitVec.ofNat 8 j]) x)=xO s.id s.q i j x:=by
  rw[xO,dU,jR,←eC,←eC,←eC]
  simp only[List.append_assoc]
 rw[e]
 exact .val _ rfl
theorem kStep(rows:Rows)(k:D→Rows→Prop)(s:Site)(i j:Nat)(x:List (BitVec 8))(gV:s.id.length=16)(hi:i<65536)(hj:j<256)(hx:x.length=32):
  aJ Mx rows k [fb s,.raw (it (i:Int)),.raw (it (j:Int)),.agg (.ar 32 L8) (bs x)]=k (.agg (.ar 32 L8) (bs (xO s.id s.q i j x))) rows:=by
 refine(vO (jC s rows) (bT.int _) (bT.int _) (iQ x) (by simp[gV,hx,TI];omega) rfl k).trans ?_
 simp[aW,shift,ae,Sh.pure]
noncomputable def Ap:Fn:=G2 (b8 fb) rC (b8 aW) (fun s i x=>decide (s.id.length=16)&&TI i 65536&&decide (x.length=32)) fun s i x=>(aW (DH s.id s.q i.toNat x),[])
theorem TJ(C:be)(hC:aI C P)(h1:C.fn 160=some Mx):aO C.aZ P 100 (Fn.run Ap):=by
 refine aH (JB C hC) fun ds rows r h=>?_
 obtain⟨d0,d1,d2,s,i,x,rfl,rfl,g0,g1,g2,hp,rfl⟩:=fq h
 cases aF g0
 cases bX g1
 cases aF g2
 simp only[Bool.and_eq_true,decide_eq_true_eq,J2]at hp
 obtain⟨⟨gV,hi⟩,hx⟩:=hp
 refine⟨rfl,ag rfl ?_⟩
 clear h g0 g1 g2
 obtain⟨i,rfl⟩:=Int.eq_ofNat_of_zero_le hi.1
 have hi':i<65536:=by omega
 unfold zH zI
 simp only[dW]
 have kS:=fun rows k=>kStep rows k s i 255 x gV hi' (by decide) hx
 rw[show((255:Nat):Int)=255 from rfl]at kS
 simp only[↓aj,ak,simprocAttr,aa,aX,aW,dw,h1,kS]
 exact .val _ rfl
theorem QK(rows:Rows)(k:D→Rows→Prop)(s:Site)(i:Nat)(x:List (BitVec 8))(gV:s.id.length=16)(hi:i<65536)(hx:x.length=32):
  aJ Ap rows k [fb s,.raw (it (i:Int)),.agg (.ar 32 L8) (bs x)]=k (.agg (.ar 32 L8) (bs (DH s.id s.q i x))) rows:=by
 refine(fT (jC s rows) (bT.int _) (iQ x) (by simp[gV,hx,TI];omega) rfl k).trans ?_
 simp[aW,shift,ae,Sh.pure]
noncomputable def BL:Fn:=gn5 (b8 fb) rC rC rC (b8 aW) (fun s i a b x=>decide (s.id.length=16)&&TI i 65536&&TI a 257&&TI b 257&&decide (x.length=32)) fun s i a b x=>(aW (Hn s.id s.q i.toNat (b.toNat-a.toNat) a.toNat x),[])
theorem XA(C:be)(hC:aI C P)(h1:C.fn 160=some Mx):aO C.aZ P 98 (Fn.run BL):=by
 refine aH (L4 C hC) fun ds rows r h=>?_
 obtain⟨d0,d1,d2,d3,d4,s,i,a,b,x,rfl,rfl,g0,g1,g2,g3,g4,hp,rfl⟩:=Mu h
 cases aF g0
 cases bX g1
 cases bX g2
 cases bX g3
 cases aF g4
 simp only[Bool.and_eq_true,decide_eq_true_eq,J2]at hp
 obtain⟨⟨⟨⟨gV,hi⟩,ha⟩,hb⟩,hx⟩:=hp
 refine⟨rfl,ag rfl ?_⟩
 clear h g0 g1 g2 g3 g4
 obtain⟨i,rfl⟩:=Int.eq_ofNat_of_zero_le hi.1
 obtain⟨a,rfl⟩:=Int.eq_ofNat_of_zero_le ha.1
 obtain⟨b,rfl⟩:=Int.eq_ofNat_of_zero_le hb.1
 have hi':i<65536:=by omega
 unfold Cv Cw
 simp only[dW]
 simp only[↓aj,ak,simprocAttr,aa,aX,aW,dw,h1]
 have em:max (a:Int) 0=(a:Int):=by omega
 have eb:min (b:Int) 256=(b:Int):=by omega
 simp only[em]
 refine bB (b-a) (fun j env rows=>has env [(11,.raw (it ((a+j:Nat):Int))),(10,.ptr (.ar 32 L8) 2 [0]),(9,.ptr (.ar 32 L8) 1 [0]),(5,.ptr vP 0 [0]),(1,.raw (it (i:Int))),(3,.raw (it (b:Int)))]∧
  rows=[some ⟨vP,[fb s]⟩,some ⟨.ar 32 L8,[.agg (.ar 32 L8) (bs (Hn s.id s.q i j a x))]⟩,some ⟨.ar 32 L8,[.agg (.ar 32 L8) (bs ug)]⟩]) ?_ ?_ ⟨?_,rfl⟩
 ·rintro j hj env rows ⟨hh,rfl⟩ R hR
  simp only[has]at hh
  have e0:(((a+j:Nat):Int)<(b:Int))=True:=eq_true (by omega)
  have e1:wz (((a+j:Nat):Int)+1)=((a+(j+1):Nat):Int):=by rw[bf (by omega)];omega
  have kS:=fun rows k=>kStep rows k s i (a+j) _ gV hi' (by omega) (wD s.id s.q i j a x hx)
  simp only[↓aj,ak,simprocAttr,aa,aX,hh,eb,e0,e1,dw,h1,kS,←Xs]
  exact hR _ _ ⟨by simp only[has,↓aj,ak,simprocAttr,aa,hh],rfl⟩
 ·rintro env rows ⟨hh,rfl⟩ R
  simp only[has]at hh
  have e0:(((a+(b-a):Nat):Int)<(b:Int))=False:=eq_false (by omega)
  simp only[↓aj,ak,simprocAttr,aa,aX,hh,eb,e0]
  exact .val _ rfl
 ·simp only[has,↓aj,ak,simprocAttr,aa]
  simp
theorem O8(rows:Rows)(k:D→Rows→Prop)(s:Site)(i a b:Nat)(x:List (BitVec 8))(gV:s.id.length=16)(hi:i<65536)(ha:a≤256)(hb:b≤256)(hx:x.length=32):
  aJ BL rows k [fb s,.raw (it (i:Int)),.raw (it (a:Int)),.raw (it (b:Int)),.agg (.ar 32 L8) (bs x)]=k (.agg (.ar 32 L8) (bs (Hn s.id s.q i (b-a) a x))) rows:=by
 refine(Mv (jC s rows) (bT.int _) (bT.int _) (bT.int _) (iQ x) (by simp[gV,hx,TI];omega) rfl k).trans ?_
 simp[aW,shift,ae,Sh.pure]
def jJ(id:List (BitVec 8))(q:BitVec 32)(c msg:List (BitVec 8)):List (BitVec 8):=dU (id++bC q++uG 33153++c++msg)
noncomputable def Iv:Fn:=G2 (b8 fb) (b8 aW) dN (fun s c _=>decide (s.id.length=16)&&decide (c.length=32)) fun s c m=>(aW (jJ s.id s.q c m),[])
theorem mash_ok(C:be)(hC:aI C P)(h1:C.fn 161=some BK)(h2:C.fn 162=some O5)(h3:C.fn 158=some qB)(h4:C.fn 159=some tw):aO C.aZ P 111 (Fn.run Iv):=by
 refine aH (OH C hC) fun ds rows r h=>?_
 obtain⟨d0,d1,d2,s,c,m,rfl,rfl,g0,g1,g2,hp,rfl⟩:=fq h
 cases aF g0
 cases aF g1
 have gm:=eU g2
 simp only[Bool.and_eq_true,decide_eq_true_eq]at hp
 obtain⟨gV,hc⟩:=hp
 refine⟨rfl,ag rfl ?_⟩
 clear h g0 g1 g2
 unfold Fy Fz
 simp only[dW]
 have kT:=fun rows k=>kTwo rows k 33153 (by decide)
 rw[show((33153:Nat):Int)=33153 from rfl]at kT
 simp only[↓aj,ak,simprocAttr,aa,aX,aW,dw,h1,O7 _ _ s gV,h2,kT,h3]
 refine Eq.mpr (jI _ _ _ _ (uG 33153) (bc.own rfl _ rfl) (oI s)) ?_
 simp only[↓aj,ak,simprocAttr,aa,aX,h3]
 have o1:=eD (uG 33153) _ (oI s)
 refine Eq.mpr (jI _ _ _ _ c (bc.r9 (n:=32) rfl rfl hc) o1) ?_
 simp only[↓aj,ak,simprocAttr,aa,aX,h3]
 have o2:=eD c _ o1
 refine Eq.mpr (jI _ _ _ _ m gm.to o2) ?_
 have o3:=eD m _ o2
 simp only[↓aj,ak,simprocAttr,aa,aX,h4,yF _ _ _ o3]
 have e:oq (feed (feed (feed (jR s) (uG 33153)) c) m)=jJ s.id s.q c m:=by
  rw[jJ,dU,jR,←eC,←eC,←eC]
  simp only[List.append_assoc]
 rw[e]
 exact .val _ rfl
theorem XB(rows:Rows)(k:D→Rows→Prop)(s:Site)(c m:List (BitVec 8))(d:D)(hd:bc rows d m)(gV:s.id.length=16)(hc:c.length=32):
  aJ Iv rows k [fb s,.agg (.ar 32 L8) (bs c),d]=k (.agg (.ar 32 L8) (bs (jJ s.id s.q c m))) rows:=by
 refine(fT (jC s rows) (iQ c) (.bs hd) (by simp[gV,hc]) rfl k).trans ?_
 simp[aW,shift,ae,Sh.pure]
theorem bT.dl{rows:Rows}{r n:Nat}{ex:Bool}{l:List (List (BitVec 8))}(hl:live rows r=some ⟨.ar 32 L8,l.map aW⟩)(hn:l.length=n):bT rows (oo (.ar 32 L8) aW) (.sl (.ar 32 L8) r [] 0 n ex) l:=by
 refine⟨⟨.cF (.ar 32 L8) (l.map aW) ex,?_,FW Al l ex⟩,fun h=>by simp[aQ]at h⟩
 have:elems rows (.sl (.ar 32 L8) r [] 0 n ex)=some (l.map aW):=by
  simp only[elems,hl];simp[List.take_of_length_le,hn]
 simp only[view]
 rw[this]
 simp[Sh.pure,hn]
noncomputable def My:Fn:=wS (b8 fb) (oo (.ar 32 L8) aW) (fun s l=>decide (s.id.length=16)&&It l&&decide (l.length≤1000000)) fun s l=>(aW (CW s.id s.q l),[])
theorem fold_ok(C:be)(hC:aI C P)(h1:C.fn 161=some BK)(h2:C.fn 162=some O5)(h3:C.fn 158=some qB)(h4:C.fn 159=some tw):aO C.aZ P 101 (Fn.run My):=by
 refine cr (OE C hC) fun ds rows r h=>?_
 obtain⟨d0,d1,s,l,rfl,rfl,g0,g1,hp,rfl⟩:=dq h
 cases aF g0
 obtain⟨ex,hx⟩:=wB g1
 simp only[Bool.and_eq_true,decide_eq_true_eq,sa]at hp
 obtain⟨⟨gV,p8⟩,HE⟩:=hp
 refine⟨rfl,_,.cons (.refl _) (.cons hx .nil),ag rfl ?_⟩
 clear h g0 g1 hx
 unfold Fs Ft
 simp only[dW,O6]
 have kT:=fun rows k=>kTwo rows k 32896 (by decide)
 rw[show((32896:Nat):Int)=32896 from rfl]at kT
 simp only[↓aj,ak,simprocAttr,aa,aX,aW,dw,l5,h1,O7 _ _ s gV,h2,kT,h3]
 refine Eq.mpr (jI _ _ _ _ (uG 32896) (bc.own rfl _ rfl) (oI s)) ?_
 have o1:=eD (uG 32896) _ (oI s)
 simp only[↓aj,ak,simprocAttr,aa,aX,l5,List.length_map]
 have hok:∀i,(feed (feed (jR s) (uG 32896)) (l.take i).flatten).ok=true:=fun i=>eD _ _ o1
 have e:oq (feed (feed (jR s) (uG 32896)) (l.take l.length).flatten)=CW s.id s.q l:=by
  rw[List.take_length,CW,dU,jR,←eC,←eC]
  simp only[List.append_assoc]
 have hst:feed (feed (jR s) (uG 32896)) (l.take 0).flatten=feed (jR s) (uG 32896):=by rw[List.take_zero];rfl
 rw[←hst]
 have XC:∀i (h:i<l.length),feed (feed (feed (jR s) (uG 32896)) (l.take i).flatten) l[i]=feed (feed (jR s) (uG 32896)) (l.take (i+1)).flatten:=fun i h=>by
  rw[←eC,List.take_succ_eq_append_getElem h,List.flatten_append];simp
 generalize feed (jR s) (uG 32896)=B at*
 refine bB l.length (fun i env rows=>has env [(14,.raw (it (i:Int))),(13,.raw (it (l.length:Int))),(12,.cF (.ar 32 L8) (l.map aW) ex),(5,.ptr KM 3 [0]),(4,.ptr (.ar 32 L8) 1 [0])]∧
  live rows 3=some ⟨KM,[rY (feed B (l.take i).flatten)]⟩∧live rows 1=some ⟨.ar 32 L8,[.agg (.ar 32 L8) (bs ug)]⟩) ?_ ?_ ⟨?_,rfl,rfl⟩
 ·rintro i hi env rows ⟨hh,r3,r1⟩ R hR
  simp only[has]at hh
  have e0:((i:Int)<(l.length:Int))=True:=eq_true (by omega)
  have b0:∀n:Nat,((0:Int)≤(n:Int))=True:=fun n=>eq_true (by omega)
  have e1:=cE i (by omega)
  have hx:=p8 _ (List.getElem_mem hi)
  have g:(l.map aW)[i]?=some (.agg (.ar 32 L8) (bs l[i])):=by simp[aW,hi]
  have hs:=XC i hi
  generalize l[i]=xi at*
  have r3A:=fun L=>aA r3 L
  simp only[↓aj,ak,simprocAttr,aa,aX,hh,e0,e1,b0,List.length_map,g,r3A,h3]
  refine Eq.mpr (jI _ _ _ _ xi (bc.r9 (n:=32) (by rw[b6];rfl) rfl hx) (hok i)) ?_
  rw[hs]
  simp only[↓aj,ak,simprocAttr,aa,aX,hh,e1,r3A,l5]
  exact hR _ _ ⟨by simp only[has,↓aj,ak,simprocAttr,aa,hh],aG (r3A _),cK (aA r1 _) (by decide)⟩
 ·rintro env rows ⟨hh,r3,r1⟩ R
  simp only[has]at hh
  have e0:((l.length:Int)<(l.length:Int))=False:=eq_false (by omega)
  have w1:=fun x=>aG (y:=x) r1
  simp only[↓aj,ak,simprocAttr,aa,aX,hh,e0,r3,r1,h4,yF _ _ _ (hok _),e,w1]
  exact .val _ rfl
 ·simp only[has,↓aj,ak,simprocAttr,aa]
theorem kFold(rows:Rows)(k:D→Rows→Prop)(s:Site)(d:D)(l:List (List (BitVec 8)))(hd:bT rows (oo (.ar 32 L8) aW) d l)(gV:s.id.length=16)(p8:∀x∈l,x.length=32)(HE:l.length≤1000000):
  aJ My rows k [fb s,d]=k (.agg (.ar 32 L8) (bs (CW s.id s.q l))) rows:=by
 refine(jB (jC s rows) hd (by simp[gV,sa.2 p8,HE]) rfl k).trans ?_
 simp[aW,shift,ae,Sh.pure]
end iC
end Go.Am

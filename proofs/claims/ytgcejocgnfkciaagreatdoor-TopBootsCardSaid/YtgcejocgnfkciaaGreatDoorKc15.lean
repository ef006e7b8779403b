import Derived.Test.YtgcejocgnfkciaaGreatDoorKc14
namespace Go.Am
set_option linter.unusedSimpArgs false
set_option linter.unusedVariables false
attribute [local congr] cd bt cg bu bw bO bg bx bz bP a7 bQ bA b9
namespace iC
open Go.Am.F
set_option maxRecDepth 10000
theorem aae{a b:List (BitVec 8)}{i:Nat}(h:a.take i=b.take i)(ha:i<a.length)(hb:i<b.length)(hg:a.getD i 0#8=b.getD i 0#8):a.take (i+1)=b.take (i+1):=by
 rw[List.take_succ_eq_append_getElem ha,List.take_succ_eq_append_getElem hb,h]
 have:a[i]=b[i]:=by simpa[ha,hb]using hg
 rw[this]
noncomputable abbrev P:Program:=Go.Proofs.Tryz.prog
def aag:Fn:=wS dN dN (fun a b=>Nat.ble a.length most&&Nat.ble b.length most) fun a b=>(.raw (.bool (decide (a=b))),[])
theorem same_ok(C:be)(hC:aI C P):aO C.aZ P 25 (Fn.run aag):=by
 refine aH (aac C hC) fun ds rows r h=>?_
 obtain⟨d,e,a,b,rfl,rfl,hd,he,hp,rfl⟩:=dq h
 have ha:=eU hd
 have hb:=eU he
 simp only[Bool.and_eq_true,Nat.ble_eq]at hp
 obtain⟨Mj,sG⟩:=hp
 unfold most at Mj sG
 refine⟨rfl,ag rfl ?_⟩
 unfold UM UN
 simp only[↓aj,ak,simprocAttr,aa,ha.dK,hb.dK]
 by_cases hlen:a.length=b.length
 ·have h1:(a.length:Int)=b.length:=by omega
  simp only[↓aj,ak,simprocAttr,aa,h1,decide_true,ha.dK]
  refine rB (fun k env rows=>∃i:Nat,k=b.length-i∧i≤b.length∧has env [(0,d),(1,e),(12,.raw (it b.length)),(13,.raw (it i))]∧a.take i=b.take i) ?_ b.length ⟨0,by simp,by omega,?_,by simp⟩
  ·rintro k env rows ⟨i,rfl,hi,hh,heq⟩ R hR
   simp only[has]at hh
   obtain⟨h0,ZY,h12,h13,-⟩:=hh
   simp only[↓aj,ak,simprocAttr,aa,h0,ZY,h12,h13]
   by_cases hlt:(i:Int)<b.length
   ·have hii:i<a.length:=by omega
    have hib:i<b.length:=by omega
    have ea:∀(k:D→Rows→Prop) rows,nQ (.leaf (.int .u8)) (i:Int) rows k d=k (.b5 (.raw (u8 (a.getD i 0#8)))) rows:=fun k rows=>by have:=gh (k:=k) (rows:=rows) (n:=i) ha (by omega);simpa using this
    have eb:∀(k:D→Rows→Prop) rows,nQ (.leaf (.int .u8)) (i:Int) rows k e=k (.b5 (.raw (u8 (b.getD i 0#8)))) rows:=fun k rows=>by have:=gh (k:=k) (rows:=rows) (n:=i) hb (by omega);simpa using this
    simp only[↓aj,ak,simprocAttr,aa,hlt,decide_true,h0,ZY,h12,h13,ea,eb]
    by_cases hab:a.getD i 0#8=b.getD i 0#8
    ·have hw:wz ((i:Int)+1)=((i+1:Nat):Int):=by rw[bf (by omega)];omega
     try simp only[↓aj,ak,simprocAttr,aa,hab,decide_true,h0,ZY,h12,h13,hw]
     refine hR (b.length-(i+1)) _ _ (by omega) ⟨i+1,rfl,by omega,?_,aae heq hii hib hab⟩
     simp only[has,↓aj,ak,simprocAttr,aa,h0,ZY,h12,h13]
    ·try simp only[↓aj,ak,simprocAttr,aa,hab,decide_false,h0,ZY,h12,h13]
     have hne:a≠b:=by rintro rfl;exact hab rfl
     try simp only[hne,decide_false]
     exact .val _ rfl
   ·have hie:i=b.length:=by omega
    have hab:a=b:=by
     rw[hie,List.take_length,←hlen,List.take_length]at heq
     exact heq
    simp only[↓aj,ak,simprocAttr,aa,hlt,decide_false,h0,ZY,h12,h13]
    try simp only[hab,decide_true]
    exact .val _ rfl
  ·simp only[has,↓aj,ak,simprocAttr,aa]
 ·have h1:¬(a.length:Int)=b.length:=by omega
  simp only[↓aj,ak,simprocAttr,aa,h1,decide_false]
  have hne:a≠b:=by rintro rfl;exact hlen rfl
  try simp only[hne,decide_false]
  exact .val _ rfl
def Tu:Fn:=wS dN rC (fun a n=>Nat.ble a.length 9223372036854775807&&Nat.ble (a.take n.toNat).length most) fun a n=>ez (a.take n.toNat) false
theorem cut_ok(C:be)(hC:aI C P):aO C.aZ P 17 (Fn.run Tu):=by
 refine aH (LX C hC) fun ds rows r h=>?_
 obtain⟨d,e,a,n,rfl,rfl,hd,he,hp,rfl⟩:=dq h
 have ha:=eU hd
 cases bX he
 simp only[Bool.and_eq_true,Nat.ble_eq]at hp
 obtain⟨hp,sG⟩:=hp
 unfold most at sG
 rw[List.length_take]at sG
 refine⟨rfl,ag rfl ?_⟩
 unfold Cn Co
 simp only[↓aj,ak,simprocAttr,aa,ha.dK]
 refine rB (fun k env rows=>∃(i:Nat) (x:D),k=a.length-i∧i≤a.length∧has env [(1,.raw (it n)),(8,d),(5,x),(9,.raw (it a.length)),(10,.raw (it i))]∧iK (.leaf uE) x rows (bs ((a.take i).take n.toNat))) ?_ a.length ⟨0,_,by simp,by omega,?_,.inl ⟨by simp[bs],rfl⟩⟩
 ·rintro k env rows ⟨i,x,rfl,hi,hh,how⟩ R hR
  simp only[has]at hh
  obtain⟨h1,h8,h5,h9,h10,-⟩:=hh
  simp only[↓aj,ak,simprocAttr,aa,h1,h8,h5,h9,h10]
  by_cases hlt:(i:Int)<a.length
  ·have hii:i<a.length:=by omega
   have ea:∀(k:D→Rows→Prop) rows,nQ (.leaf (.int .u8)) (i:Int) rows k d=k (.b5 (.raw (u8 (a.getD i 0#8)))) rows:=fun k rows=>by have:=gh (k:=k) (rows:=rows) (n:=i) ha (by omega);simpa using this
   have hw:wz ((i:Int)+1)=((i+1:Nat):Int):=by rw[bf (by omega)];omega
   simp only[↓aj,ak,simprocAttr,aa,hlt,decide_true,h1,h8,h5,h9,h10,ea]
   by_cases hin:(i:Int)<n
   ·simp only[↓aj,ak,simprocAttr,aa,hin,decide_true,h1,h8,h5,h9,h10,hw]
    have wx:=Nat.le_trans (List.length_take_le' n.toNat (a.take i)) (List.length_take_le i a)
    refine iX how.push (by rw[aC];simp only[List.length_cons,List.length_nil];unfold most;omega) (by rw[aC];simp only[List.length_cons,List.length_nil];unfold most;omega) ?_
    intro x' ab how' _ _ _
    simp only[↓aj,ak,simprocAttr,aa,h1,h8,h5,h9,h10,hw]
    refine hR (a.length-(i+1)) _ _ (by omega) ⟨i+1,x',rfl,by omega,?_,?_⟩
    ·simp only[has,↓aj,ak,simprocAttr,aa,h1,h8,h5,h9,h10]
    ·have:bs ((a.take (i+1)).take n.toNat)=bs ((a.take i).take n.toNat)++[.raw (u8 (a.getD i 0#8))]:=by
      have e1:(a.take (i+1)).take n.toNat=a.take (i+1):=List.take_of_length_le (by simp;omega)
      have e2:(a.take i).take n.toNat=a.take i:=List.take_of_length_le (by simp;omega)
      rw[e1,e2,oV (z:=0#8) hii,Qz]
     rw[this];exact how'
   ·simp only[↓aj,ak,simprocAttr,aa,hin,decide_false,h1,h8,h5,h9,h10,hw]
    refine hR (a.length-(i+1)) _ _ (by omega) ⟨i+1,x,rfl,by omega,?_,?_⟩
    ·simp only[has,↓aj,ak,simprocAttr,aa,h1,h8,h5,h9,h10]
    ·have:(a.take (i+1)).take n.toNat=(a.take i).take n.toNat:=by
      rw[List.take_take,List.take_take];congr 1;omega
     rw[this];exact how
  ·have hie:i=a.length:=by omega
   simp only[↓aj,ak,simprocAttr,aa,hlt,decide_false,h1,h8,h5,h9,h10,how.mI]
   rw[hie,List.take_length]at how
   exact how.Jl
 ·simp only[has,↓aj,ak,simprocAttr,aa]
def Rs:Fn:=lE dN (fun a=>Nat.ble a.length most) fun a=>(.raw (u64 (a.foldl (fun n b=>256#64*n+b.setWidth 64) 0#64)),[])
theorem value_ok(C:be)(hC:aI C P):aO C.aZ P 75 (Fn.run Rs):=by
 refine aH (ZL C hC) fun ds rows r h=>?_
 obtain⟨d,a,rfl,rfl,hd,hp,rfl⟩:=a8 h
 have ha:=eU hd
 simp only[Nat.ble_eq]at hp
 unfold most at hp
 refine⟨rfl,ag rfl ?_⟩
 unfold Nb PG
 simp only[↓aj,ak,simprocAttr,aa,ha.dK]
 refine rB (fun k env rows=>∃(i:Nat),k=a.length-i∧i≤a.length∧has env [(6,d),(3,.raw (u64 ((a.take i).foldl (fun n b=>256#64*n+b.setWidth 64) 0#64))),(7,.raw (it a.length)),(8,.raw (it i))]) ?_ a.length ⟨0,by simp,by omega,?_⟩
 ·rintro k env rows ⟨i,rfl,hi,hh⟩ R hR
  simp only[has]at hh
  obtain⟨h6,h3,h7,h8,-⟩:=hh
  simp only[↓aj,ak,simprocAttr,aa,h6,h3,h7,h8]
  by_cases hlt:(i:Int)<a.length
  ·have hii:i<a.length:=by omega
   have ea:∀(k:D→Rows→Prop) rows,nQ (.leaf (.int .u8)) (i:Int) rows k d=k (.b5 (.raw (u8 (a.getD i 0#8)))) rows:=fun k rows=>by have:=gh (k:=k) (rows:=rows) (n:=i) ha (by omega);simpa using this
   have hw:wz ((i:Int)+1)=((i+1:Nat):Int):=by rw[bf (by omega)];omega
   simp only[↓aj,ak,simprocAttr,aa,hlt,decide_true,h6,h3,h7,h8,ea,hw]
   refine hR (a.length-(i+1)) _ _ (by omega) ⟨i+1,rfl,by omega,?_⟩
   have e1:a.take (i+1)=a.take i++[a.getD i 0#8]:=oV hii
   simp only[has,↓aj,ak,simprocAttr,aa,h6,h3,h7,h8,e1,List.foldl_append,List.foldl_cons,List.foldl_nil]
  ·have hie:i=a.length:=by omega
   simp only[↓aj,ak,simprocAttr,aa,hlt,decide_false,h6,h3,h7,h8]
   rw[hie,List.take_length]
   exact .val _ rfl
 ·simp only[has,↓aj,ak,simprocAttr,aa,List.foldl_nil,List.take_zero]
def bC(n:BitVec 32):List (BitVec 8):=[(n>>>24).setWidth 8,(n>>>16).setWidth 8,(n>>>8).setWidth 8,n.setWidth 8]
def cY(p:List (BitVec 8)):BitVec 32:=(p.getD 0 0#8).setWidth 32<<<24|||(p.getD 1 0#8).setWidth 32<<<16|||(p.getD 2 0#8).setWidth 32<<<8|||(p.getD 3 0#8).setWidth 32
def pz:D→Option (List (List (BitVec 8)))
 | .cF s l _=>bif s== .ref then cW dN l else none
 | _=>none
theorem tq{d:D}{ls:List (List (BitVec 8))}(h:pz d=some ls):∃l e,d= .cF .ref l e∧cW dN l=some ls:=by
 unfold pz at h
 split at h
 ·rename_i s l e
  cases hb:(s==Sh.ref)with
  |false=>rw[hb]at h;cases h
  |true=>
   rw[hb]at h
   have:s= .ref:=by simpa using hb
   subst this
   exact⟨l,e,rfl,h⟩
 ·cases h
def Mi:Fn:=lE pz (fun ls=>Nat.ble ls.length most&&Nat.ble ls.flatten.length most) fun ls=>ez ls.flatten false
theorem join_ok(C:be)(hC:aI C P):aO C.aZ P 51 (Fn.run Mi):=by
 refine aH (Jy C hC) fun ds rows r h=>?_
 obtain⟨d,ls,rfl,rfl,hd,hp,rfl⟩:=a8 h
 obtain⟨l,e,rfl,hl⟩:=tq hd
 simp only[Bool.and_eq_true,Nat.ble_eq]at hp
 obtain⟨Mj,sG⟩:=hp
 unfold most at Mj sG
 obtain⟨hlen,jz⟩:=jk hl
 clear h hd
 refine⟨rfl,ag rfl ?_⟩
 unfold zB zC
 simp only[↓aj,ak,simprocAttr,aa]
 refine rB (fun k env rows=>∃(i:Nat) (x:D),k=l.length-i∧i≤l.length∧has env [(6,.cF .ref l e),(3,x),(7,.raw (it l.length)),(8,.raw (it i))]∧iK (.leaf uE) x rows (bs (ls.take i).flatten)) ?_ l.length ⟨0,_,by simp,by omega,?_,.inl ⟨by simp[bs],rfl⟩⟩
 ·rintro k env rows ⟨i,x,rfl,hi,hh,how⟩ R hR
  simp only[has]at hh
  obtain⟨h6,h3,h7,h8,-⟩:=hh
  simp only[↓aj,ak,simprocAttr,aa,h6,h3,h7,h8]
  by_cases hlt:i<l.length
  ·have OT:((i:Int)<(l.length:Int))=True:=eq_true (by omega)
   have hlt2:i<ls.length:=by omega
   have hw:wz ((i:Int)+1)=((i+1:Nat):Int):=by rw[bf (by omega)];omega
   have hli:l[i]?=some l[i]:=List.getElem?_eq_getElem hlt
   have hb:=eU (jz i _ _ hli (List.getElem?_eq_getElem hlt2))
   have h0i:((0:Int)≤(i:Int))=True:=eq_true (by omega)
   have hfit:D.fits l[i] .ref=true:=by rcases hb with⟨h,_⟩|⟨e,h⟩<;>rw[h]<;>rfl
   have hsrc:∀rows,n9 rows (.leaf (.int .u8)) l[i]=some (bs ls[i]):=by
    intro rows
    rcases hb with⟨h,h2⟩|⟨e,h⟩
    ·rw[h,h2];rfl
    ·rw[h];simp[n9,Am.eK,Am.elems]
   simp only[↓aj,ak,simprocAttr,aa,OT,decide_true,h6,h3,h7,h8,hli,h0i,hfit,hsrc,hb.dK,aC]
   have e1:(ls.take (i+1)).flatten=(ls.take i).flatten++ls[i]:=by
    rw[List.take_succ_eq_append_getElem hlt2,List.flatten_append,List.flatten_cons,List.flatten_nil,List.append_nil]
   have e2:((ls.take (i+1)).flatten).length≤ls.flatten.length:=by
    have:ls=ls.take (i+1)++ls.drop (i+1):=(List.take_append_drop _ _).symm
    calc ((ls.take (i+1)).flatten).length≤((ls.take (i+1)++ls.drop (i+1)).flatten).length:=by simp only[List.flatten_append,List.length_append];omega
     _=ls.flatten.length:=by rw[←this]
   have e3:((ls.take (i+1)).flatten).length=((ls.take i).flatten).length+ls[i].length:=by rw[e1,List.length_append]
   refine iX how (by rw[aC,aC];unfold most;omega) (by rw[aC,aC];unfold most;omega) ?_
   intro x' ab how' _ _ _
   simp only[↓aj,ak,simprocAttr,aa,h6,h3,h7,h8,hw]
   refine hR (l.length-(i+1)) _ _ (by omega) ⟨i+1,x',rfl,by omega,?_,?_⟩
   ·simp only[has,↓aj,ak,simprocAttr,aa,h6,h3,h7,h8]
   ·rw[e1,←nU];exact how'
  ·have hie:i=l.length:=by omega
   have OT:((i:Int)<(l.length:Int))=False:=eq_false (by omega)
   simp only[↓aj,ak,simprocAttr,aa,OT,decide_false,h6,h3,h7,h8,how.mI]
   rw[hie,←hlen,List.take_length]at how
   exact how.Jl
 ·simp only[has,↓aj,ak,simprocAttr,aa]
def YI(a:List (BitVec 8)):BitVec 64:=a.foldl (fun n b=>256#64*n+b.setWidth 64) 0#64
theorem kVal(rows:Rows)(k:D→Rows→Prop)(x:List (BitVec 8))(e:Bool)(h:x.length≤64):aJ Rs rows k [.cF (.leaf (.int .u8)) (bs x) e]=k (.raw (u64 (YI x))) rows:=by
 refine(bi rfl (ei (zp x e) (by unfold most;simp;omega))).trans ?_
 simp[shift,ae,YI]
theorem bc.sub{rows:Rows}{r off len:Nat}{ex:Bool}{l:List (BitVec 8)}(h:live rows r=some ⟨.leaf uE,bs l⟩)(hle:off+len≤l.length):bc rows (.sl (.leaf uE) r [] off len ex) ((l.drop off).take len):=by
 refine⟨⟨.cF (.leaf uE) (bs ((l.drop off).take len)) ex,?_,.inr ⟨ex,rfl⟩⟩,fun h=>by simp[aQ]at h⟩
 simp only[Am.view]
 have:Am.elems rows (.sl (.leaf uE) r [] off len ex)=some (bs ((l.drop off).take len)):=by simp only[Am.elems,h];simp[bs]
 rw[this]
 have hl:(bs ((l.drop off).take len)).length=len:=by simp[bs];omega
 simp[Sh.pure,hl]
theorem aE{rows:Rows}{r r':Nat}{x:Option Row}(h:r≠r'):live (rows.set r x) r'=live rows r':=by
 simp only[live,List.getElem?_set_ne h]
theorem bc.push{rows more:Rows}{d:D}{l:List (BitVec 8)}(h:iK (.leaf uE) d rows (bs l)):bc (rows++more) d l:=h.push.to
theorem kSame(rows:Rows)(k:D→Rows→Prop)(d e:D)(p q:List (BitVec 8))(h:bc rows d p)(h':bc rows e q)(hp:p.length≤1099511627776)(hq:q.length≤1099511627776):aJ aag rows k [d,e]=k (.raw (.bool (decide (p=q)))) rows:=by
 refine(Bl h h' (by simp[most,hp,hq]) rfl).trans ?_
 simp[shift,ae]
theorem bc.own{rows:Rows}{r:Nat}{ex:Bool}{l:List (BitVec 8)}(h:live rows r=some ⟨L8,bs l⟩)(n:Nat)(hn:n=l.length):bc rows (.sl L8 r [] 0 n ex) l:=by
 subst hn
 exact iK.to (.inr ⟨r,ex,by rw[aC],h⟩)
theorem JM(a b i:Nat)(h:b<2^i):a<<<i|||b=a*2^i+b:=by
 rw[←Nat.shiftLeft_add_eq_or_of_lt h,Nat.shiftLeft_eq]
theorem Ml(a b c d:BitVec 8):(cY [a,b,c,d]).toNat=a.toNat*16777216+b.toNat*65536+c.toNat*256+d.toNat:=by
 have ha:=a.isLt
 have hb:=b.isLt
 have hc:=c.isLt
 have hd:=d.isLt
 have e:(cY [a,b,c,d]).toNat=a.toNat<<<24|||b.toNat<<<16|||c.toNat<<<8|||d.toNat:=by
  simp only[cY,List.getD_cons_zero,List.getD_cons_succ,BitVec.toNat_or,BitVec.toNat_shiftLeft,BitVec.toNat_setWidth,Nat.shiftLeft_eq]
  rw[Nat.mod_eq_of_lt (a:=a.toNat %2^32*2^24) (by omega),Nat.mod_eq_of_lt (a:=b.toNat %2^32*2^16) (by omega),Nat.mod_eq_of_lt (a:=c.toNat %2^32*2^8) (by omega),
   Nat.mod_eq_of_lt (a:=a.toNat) (by omega),Nat.mod_eq_of_lt (a:=b.toNat) (by omega),Nat.mod_eq_of_lt (a:=c.toNat) (by omega),Nat.mod_eq_of_lt (a:=d.toNat) (by omega)]
 rw[e,Nat.or_assoc,Nat.or_assoc,JM c.toNat d.toNat 8 (by omega),JM b.toNat _ 16 (by omega),JM a.toNat _ 24 (by omega)]
 omega
theorem aah(a b c d:BitVec 8):(YI [a,b,c,d]).toNat=a.toNat*16777216+b.toNat*65536+c.toNat*256+d.toNat:=by
 have ha:=a.isLt
 have hb:=b.isLt
 have hc:=c.isLt
 have hd:=d.isLt
 simp only[YI,List.foldl_cons,List.foldl_nil,BitVec.toNat_add,BitVec.toNat_mul,BitVec.toNat_setWidth,BitVec.toNat_ofNat]
 omega
theorem val_num(a b c d:BitVec 8):(YI [a,b,c,d]).setWidth 32=cY [a,b,c,d]:=by
 apply BitVec.eq_of_toNat_eq
 rw[BitVec.toNat_setWidth,aah,Ml]
 have ha:=a.isLt
 have hb:=b.isLt
 have hc:=c.isLt
 have hd:=d.isLt
 omega
theorem Xe(a b c d:BitVec 8):bC (cY [a,b,c,d])=[a,b,c,d]:=by
 have h:=Ml a b c d
 have ha:=a.isLt
 have hb:=b.isLt
 have hc:=c.isLt
 have hd:=d.isLt
 simp only[bC,List.cons.injEq,and_true]
 refine⟨?_,?_,?_,?_⟩<;>apply BitVec.eq_of_toNat_eq<;>simp only[BitVec.toNat_setWidth,BitVec.toNat_ushiftRight,h,Nat.shiftRight_eq_div_pow]<;>omega
theorem oF(p:List (BitVec 8))(n:Nat)(h:4≤n):cY (p.take n)=cY p:=by
 unfold cY
 simp only[List.getD_eq_getElem?_getD]
 rw[List.getElem?_take_of_lt (by omega),List.getElem?_take_of_lt (by omega),List.getElem?_take_of_lt (by omega),List.getElem?_take_of_lt (by omega)]
theorem Io(p:List (BitVec 8))(n:Nat):cY (p.drop n)=cY [p.getD n 0#8,p.getD (n+1) 0#8,p.getD (n+2) 0#8,p.getD (n+3) 0#8]:=by
 simp only[cY,List.getD_eq_getElem?_getD,List.getElem?_drop,Nat.add_zero,List.getElem?_cons_zero,List.getElem?_cons_succ,Option.getD_some]
def ub(l:List (BitVec 8)):List UInt8:=l.map fun b=>UInt8.ofNat b.toNat
theorem QE(l:List (BitVec 8)):cW toByte (bs l)=some (ub l):=by
 induction l with
 |nil=>rfl
 | cons a l ih =>
  have h1:toByte (.raw (u8 a))=some (UInt8.ofNat a.toNat):=by
   simp only[u8,toByte,Int.toNat_natCast]
  simp only[bs,List.map_cons,cW,h1]at ih⊢
  rw[ih]
  rfl
theorem ub_inj(a b:List (BitVec 8)):ub a=ub b↔a=b:=by
 constructor
 ·intro h
  refine(List.map_inj_right fun x y hxy=>?_).1 h
  have h2:=congrArg UInt8.toNat hxy
  have hx:=x.isLt
  have hy:=y.isLt
  rw[UInt8.toNat_ofNat',UInt8.toNat_ofNat']at h2
  exact BitVec.eq_of_toNat_eq (by omega)
 ·rintro rfl;rfl
theorem ub_beq(a b:List (BitVec 8)):(ub a==ub b)=decide (a=b):=by
 by_cases h:a=b
 ·subst h;simp
 ·have:ub a≠ub b:=fun e=>h ((ub_inj a b).1 e)
  simp[h,this]
def aggO(off len:Nat):D→Option (List D)
 | .agg _ l=>some ((l.drop off).take len)
 | _=>none
theorem Mm(off len s l):aggO off len (.agg s l)=some ((l.drop off).take len):=Eq.trans rfl rfl
theorem el_sp(rows:Rows)(s r i p off len ex):elems rows (.sl s r (i::p) off len ex)=(live rows r).bind fun row=>(cP row.els (i::p)).bind (aggO off len):=by
 simp only[elems]
 cases live rows r with
 |none=>rfl
 |some row=>
  simp only[Option.bind_some]
  cases cP row.els (i::p)with
  |none=>rfl
  |some d=>cases d<;>rfl
def us(l:List (BitVec 32)):List D:=l.map fun x=> .raw (u32 x)
theorem mN(l:List (BitVec 32)):(us l).length=l.length:=by simp[us]
theorem ku{l:List (BitVec 32)}{i:Nat}(h:i<l.length):(us l)[i]?=some (.raw (u32 (l.getD i 0#32))):=by
 simp[us,List.getElem?_map,h]
theorem JN(l:List (BitVec 32))(i:Nat)(x:BitVec 32):(us l).set i (.raw (u32 x))=us (l.set i x):=by simp[us,List.map_set]
theorem Xf{a b:List (BitVec 32)}(h:us a=us b):a=b:=(List.map_inj_right fun x y hxy=>by cases(D.raw.inj hxy:u32 x=u32 y)|>QA.1;rfl).1 h
theorem OU(a b:List (BitVec 32)):us a++us b=us (a++b):=by simp[us]
theorem us_rep(n:Nat)(x:BitVec 32):List.replicate n (D.raw (u32 x))=us (List.replicate n x):=by simp[us]
theorem Xg(n:Nat)(x:BitVec 8):List.replicate n (D.raw (u8 x))=bs (List.replicate n x):=by simp[bs]
theorem tu{a b:List (BitVec 8)}(h:bs a=bs b):a=b:=(List.map_inj_right fun x y hxy=>by cases(D.raw.inj hxy:u8 x=u8 y)|>W0.1;rfl).1 h
def Tv(l:List (BitVec 32)):D:= .agg (.ar 8 dk) (us l)
def Tw(l:List (BitVec 32)):D:= .agg (.ar 64 dk) (us l)
def JP(l:List (BitVec 8)):D:= .agg (.ar 64 L8) (bs l)
def aW(l:List (BitVec 8)):D:= .agg (.ar 32 L8) (bs l)
theorem QF(x y:List (BitVec 32))(h:Tv x=Tv y):x=y:=by unfold Tv at h;injection h with _ h;exact Xf h
theorem FX(x y:List (BitVec 8))(h:JP x=JP y):x=y:=by unfold JP at h;injection h with _ h;exact tu h
theorem Al(x y:List (BitVec 8))(h:aW x=aW y):x=y:=by unfold aW at h;injection h with _ h;exact tu h
def JQ(x:BitVec 32)(n:Nat):BitVec 32:=x>>>n|||x<<<(32-n)
def Tx:Fn:=wS qN rC (fun _ k=>decide (-32<k)&&decide (k<0)) fun x k=>(.raw (u32 (JQ x (-k).toNat)),[])
theorem rot_ok(C:be)(hC:aI C P):aO C.aZ P 203 (Fn.run Tx):=by
 refine aH (qP C hC) fun ds rows r h=>?_
 obtain⟨d,e,x,k,rfl,rfl,hd,he,hp,rfl⟩:=dq h
 cases dL hd
 cases bX he
 simp only[Bool.and_eq_true,decide_eq_true_eq]at hp
 obtain⟨n,hn⟩:=Int.eq_ofNat_of_zero_le (by omega:0≤-k)
 obtain rfl:k=-(n:Int):=by omega
 refine⟨rfl,ag rfl ?_⟩
 unfold jX jY
 have e1:BitVec.ofInt 64 (-(n:Int))&&&31#64=BitVec.ofNat 64 (32-n):=by
  have:∀m:Fin 32,0<m.val→BitVec.ofInt 64 (-(m.val:Int))&&&31#64=BitVec.ofNat 64 (32-m.val):=by decide
  exact this ⟨n,by omega⟩ (by simp;omega)
 have e2:(BitVec.ofNat 64 (32-n)).toNat=32-n:=by simp;omega
 have e3:(32#64-BitVec.ofNat 64 (32-n)).toNat=n:=by
  rw[BitVec.toNat_sub];simp;omega
 simp only[↓aj,ak,simprocAttr,aa,e1,e2,e3]
 have:x<<<(32-n)|||x>>>n=JQ x n:=by rw[JQ,BitVec.or_comm]
 rw[this]
 simp only[Int.neg_neg,Int.toNat_natCast]
 exact .val _ rfl
theorem Hm(rows:Rows)(k:D→Rows→Prop)(x:BitVec 32)(n:Nat)(h0:0<n)(h1:n<32):aJ Tx rows k [.raw (u32 x),.raw (it (-(n:Int)))]=k (.raw (u32 (JQ x n))) rows:=by
 refine(bi rfl (r:=(.raw (u32 (JQ x n)),[])) ?_).trans ?_
 ·rw[Tx,jP (fK x) (nS _) (by simp;omega)];simp
 ·simp[shift,ae]
def QG:Fn:=lE dN (fun a=>Nat.ble 4 a.length) fun a=>(.raw (u32 (cY a)),[])
theorem word_ok(C:be)(hC:aI C P):aO C.aZ P 212 (Fn.run QG):=by
 refine aH (OR C hC) fun ds rows r h=>?_
 obtain⟨d,a,rfl,rfl,hd,hp,rfl⟩:=a8 h
 have ha:=eU hd
 simp only[Nat.ble_eq]at hp
 refine⟨rfl,ag rfl ?_⟩
 unfold FR FT
 have e0:∀(k:D→Rows→Prop) rows,nQ (.leaf (.int .u8)) 0 rows k d=k (.b5 (.raw (u8 (a.getD 0 0#8)))) rows:=fun k rows=>by have:=gh (k:=k) (rows:=rows) (n:=0) ha (by omega);simpa using this
 have e1:∀(k:D→Rows→Prop) rows,nQ (.leaf (.int .u8)) 1 rows k d=k (.b5 (.raw (u8 (a.getD 1 0#8)))) rows:=fun k rows=>by have:=gh (k:=k) (rows:=rows) (n:=1) ha (by omega);simpa using this
 have e2:∀(k:D→Rows→Prop) rows,nQ (.leaf (.int .u8)) 2 rows k d=k (.b5 (.raw (u8 (a.getD 2 0#8)))) rows:=fun k rows=>by have:=gh (k:=k) (rows:=rows) (n:=2) ha (by omega);simpa using this
 have e3:∀(k:D→Rows→Prop) rows,nQ (.leaf (.int .u8)) 3 rows k d=k (.b5 (.raw (u8 (a.getD 3 0#8)))) rows:=fun k rows=>by have:=gh (k:=k) (rows:=rows) (n:=3) ha (by omega);simpa using this
 simp only[↓aj,ak,simprocAttr,aa,e0,e1,e2,e3]
 exact .val _ rfl
theorem bc.arr{rows:Rows}{r n off len:Nat}{e:Bool}{l:List (BitVec 8)}(h:live rows r=some ⟨.ar n L8,[.agg (.ar n L8) (bs l)]⟩)(hle:off+len≤l.length):bc rows (.sl L8 r [0] off len e) ((l.drop off).take len):=by
 refine⟨⟨.cF L8 (bs ((l.drop off).take len)) e,?_,.inr ⟨e,rfl⟩⟩,fun h=>by simp[aQ]at h⟩
 have h2:Am.elems rows (.sl L8 r [0] off len e)=some (bs ((l.drop off).take len)):=by
  simp only[elems,h,cP]
  simp[bs,D.get]
 simp only[Am.view]
 rw[h2]
 have hl:(bs ((l.drop off).take len)).length=len:=by simp[bs];omega
 simp[Sh.pure,hl]
theorem kWord(rows:Rows)(k:D→Rows→Prop)(d:D)(a:List (BitVec 8))(h:bc rows d a)(hl:4≤a.length):aJ QG rows k [d]=k (.raw (u32 (cY a))) rows:=by
 refine(rE h (by simpa using hl) rfl).trans ?_
 simp[shift,ae]
def sg0(a:BitVec 32):BitVec 32:=JQ a 7^^^JQ a 18^^^a>>>3
def sg1(a:BitVec 32):BitVec 32:=JQ a 17^^^JQ a 19^^^a>>>10
def nxt(w:List (BitVec 32))(i:Nat):BitVec 32:=w.getD (i-16) 0#32+sg0 (w.getD (i-15) 0#32)+w.getD (i-7) 0#32+sg1 (w.getD (i-2) 0#32)
def words(n:Nat)(b:List (BitVec 8)):List (BitVec 32):=(List.range n).map fun i=>cY ((b.drop (4*i)).take 4)
def yS:Nat→List (BitVec 32)→List (BitVec 32)
 |0,w=>w
 |n+1,w=>yS n w++[nxt (yS n w) (yS n w).length]
theorem JR(n:Nat)(w:List (BitVec 32)):(yS n w).length=w.length+n:=by
 induction n with
 |zero=>rfl
 |succ n ih=>simp[yS,ih];omega
theorem eX(n:Nat)(b:List (BitVec 8)):(words n b).length=n:=by simp[words]
theorem yE(n:Nat)(b:List (BitVec 8)):words (n+1) b=words n b++[cY ((b.drop (4*n)).take 4)]:=by simp[words,List.range_succ]
def oA(b:List (BitVec 8)):List (BitVec 32):=yS 48 (words 16 b)
def fill(l:List (BitVec 32))(n:Nat):List (BitVec 32):=l++List.replicate (n-l.length) 0#32
theorem Mn{l:List (BitVec 32)}{n:Nat}(h:l.length≤n):(fill l n).length=n:=by simp[fill];omega
theorem Xh{l:List (BitVec 32)}{n i:Nat}(h:i<l.length):(fill l n).getD i 0#32=l.getD i 0#32:=by
 simp[fill,List.getD,List.getElem?_append_left h]
theorem Mo{l:List (BitVec 32)}{n:Nat}(h:l.length<n)(x:BitVec 32):(fill l n).set l.length x=fill (l++[x]) n:=by
 obtain⟨k,hk⟩:∃k,n-l.length=k+1:=⟨n-l.length-1,by omega⟩
 have h2:n-(l++[x]).length=k:=by simp;omega
 rw[fill,fill,hk,h2,List.replicate_succ,List.set_append_right _ _ (Nat.le_refl _)]
 simp
theorem Ty{l:List (BitVec 32)}{n:Nat}(h:l.length=n):fill l n=l:=by simp[fill,h]
noncomputable def D4:Fn:=lE (b8 JP) (fun b=>decide (b.length=64)) fun b=>(Tw (oA b),[])
theorem Tz(C:be)(hC:aI C P)(hw:C.fn 212=some QG)(hr:C.fn 203=some Tx):aO C.aZ P 202 (Fn.run D4):=by
 refine aH (JL C hC) fun ds rows r h=>?_
 obtain⟨d,b,rfl,rfl,hd,hp,rfl⟩:=a8 h
 cases aF hd
 simp only[decide_eq_true_eq]at hp
 refine⟨rfl,ag rfl ?_⟩
 clear h hd
 unfold Ai Aj
 have hb:(bs b).length=64:=by rw[aC,hp]
 simp only[JP,↓aj,ak,simprocAttr,aa]
 refine bB 16 (fun i env rows=>has env [(10,.raw (it (i:Int))),(1,.ptr (.ar 64 L8) 0 [0]),(2,.ptr (.ar 64 dk) 1 [0]),(3,.ptr (.ar 64 dk) 2 [0])]∧
  ∃z,rows=[some ⟨.ar 64 L8,[.agg (.ar 64 L8) (bs b)]⟩,some ⟨.ar 64 dk,[z]⟩,some ⟨.ar 64 dk,[.agg (.ar 64 dk) (us (fill (words i b) 64))]⟩]) ?_ ?_ ⟨?_,.agg (.ar 64 dk) (List.replicate 64 (.raw (u32 0#32))),?_⟩
 ·rintro i hi env rows ⟨hh,z,rfl⟩ R hR
  simp only[has]at hh
  obtain⟨h10,h1,h2,h3,-⟩:=hh
  have e0:((i:Int)<16)=True:=eq_true (by omega)
  have e1:((0:Int)≤4*(i:Int))=True:=eq_true (by omega)
  have e2:wz (4*(i:Int))=4*(i:Int):=bf (by omega)
  have e3:wz (4*(i:Int)+4)=4*(i:Int)+4:=bf (by omega)
  have e4:(4*(i:Int)≤4*(i:Int)+4)=True:=eq_true (by omega)
  have e5:(4*(i:Int)+4≤64)=True:=eq_true (by omega)
  have e6:(4*(i:Int)).toNat=4*i:=by omega
  have e7:(4*(i:Int)+4).toNat=4*i+4:=by omega
  have e8:4*i+4-4*i=4:=by omega
  have e9:((0:Int)≤(i:Int))=True:=eq_true (by omega)
  have e10:((i:Int)<64)=True:=eq_true (by omega)
  have e11:=cE i (by omega)
  simp only[↓aj,ak,simprocAttr,aa,h10,h1,h2,h3,hw,e0,e1,e2,e3,e4,e5,e6,e7,e8,decide_true]
  refine Eq.mpr (kWord _ _ _ _ (bc.arr rfl (by omega)) (by rw[List.length_take,List.length_drop];omega)) ?_
  have eg:(us (fill (words i b) 64))[i]?=some (.raw (u32 ((fill (words i b) 64).getD i 0#32))):=ku (by rw[Mn (by rw[eX];omega)];omega)
  have es:(us (fill (words i b) 64)).set i (.raw (u32 (cY ((b.drop (4*i)).take 4))))=us (fill (words (i+1) b) 64):=by
   have:=Mo (l:=words i b) (n:=64) (by rw[eX];omega) (cY ((b.drop (4*i)).take 4))
   rw[eX]at this
   rw[JN,this,←yE]
  simp only[↓aj,ak,simprocAttr,aa,h10,h1,h2,h3,e9,e10,e11,eg,es]
  exact hR _ _ ⟨by simp only[has,↓aj,ak,simprocAttr,aa,h1,h2,h3],z,rfl⟩
 ·rintro env rows ⟨hh,z,rfl⟩ R
  simp only[has]at hh
  obtain⟨h10,h1,h2,h3,-⟩:=hh
  simp only[↓aj,ak,simprocAttr,aa,h10,h1,h2,h3]
  refine bB 48 (fun i env rows=>has env [(5,.raw (it ((16+i:Nat):Int))),(1,.ptr (.ar 64 L8) 0 [0]),(2,.ptr (.ar 64 dk) 1 [0]),(3,.ptr (.ar 64 dk) 2 [0])]∧
   rows=[some ⟨.ar 64 L8,[.agg (.ar 64 L8) (bs b)]⟩,some ⟨.ar 64 dk,[z]⟩,some ⟨.ar 64 dk,[.agg (.ar 64 dk) (us (fill (yS i (words 16 b)) 64))]⟩]) ?_ ?_ ⟨?_,rfl⟩
  ·rintro i hi env rows ⟨hh,rfl⟩ R hR
   simp only[has]at hh
   obtain⟨h5,h1,h2,h3,-⟩:=hh
   have hlen:(yS i (words 16 b)).length=16+i:=by rw[JR,eX]
   have lz:(fill (yS i (words 16 b)) 64).length=64:=Mn (by omega)
   have e0:(((16+i:Nat):Int)<64)=True:=eq_true (by omega)
   have a1:wz (((16+i:Nat):Int)-15)=((16+i-15:Nat):Int):=by rw[bf (by omega)];omega
   have a2:wz (((16+i:Nat):Int)-2)=((16+i-2:Nat):Int):=by rw[bf (by omega)];omega
   have a3:wz (((16+i:Nat):Int)-16)=((16+i-16:Nat):Int):=by rw[bf (by omega)];omega
   have a4:wz (((16+i:Nat):Int)-7)=((16+i-7:Nat):Int):=by rw[bf (by omega)];omega
   have b1:∀j:Nat,((0:Int)≤(j:Int))=True:=fun j=>eq_true (by omega)
   have c1:(((16+i-15:Nat):Int)<64)=True:=eq_true (by omega)
   have c2:(((16+i-2:Nat):Int)<64)=True:=eq_true (by omega)
   have c3:(((16+i-16:Nat):Int)<64)=True:=eq_true (by omega)
   have c4:(((16+i-7:Nat):Int)<64)=True:=eq_true (by omega)
   have gg:∀j,j<16+i→(us (fill (yS i (words 16 b)) 64))[j]?=some (.raw (u32 ((yS i (words 16 b)).getD j 0#32))):=fun j hj=>by
    rw[ku (by omega),Xh (by omega)]
   have g1:=gg (16+i-15) (by omega)
   have g2:=gg (16+i-2) (by omega)
   have g3:=gg (16+i-16) (by omega)
   have g4:=gg (16+i-7) (by omega)
   have g5:(us (fill (yS i (words 16 b)) 64))[16+i]?=some (.raw (u32 ((fill (yS i (words 16 b)) 64).getD (16+i) 0#32))):=ku (by omega)
   have r1:=fun rows k x=>Hm rows k x 7 (by decide) (by decide)
   have r2:=fun rows k x=>Hm rows k x 18 (by decide) (by decide)
   have r3:=fun rows k x=>Hm rows k x 17 (by decide) (by decide)
   have r4:=fun rows k x=>Hm rows k x 19 (by decide) (by decide)
   simp only[Int.cast_ofNat_Int]at r1 r2 r3 r4
   have es:(us (fill (yS i (words 16 b)) 64)).set (16+i) (.raw (u32 (nxt (yS i (words 16 b)) (16+i))))=us (fill (yS (i+1) (words 16 b)) 64):=by
    have:=Mo (l:=yS i (words 16 b)) (n:=64) (by omega) (nxt (yS i (words 16 b)) (16+i))
    rw[hlen]at this
    rw[JN,this,yS,hlen]
   have e11:wz (((16+i:Nat):Int)+1)=((16+(i+1):Nat):Int):=by rw[bf (by omega)];omega
   have es':(us (fill (yS i (words 16 b)) 64)).set (16+i) (.raw (u32 ((yS i (words 16 b)).getD (16+i-16) 0#32+(JQ ((yS i (words 16 b)).getD (16+i-15) 0#32) 7^^^JQ ((yS i (words 16 b)).getD (16+i-15) 0#32) 18^^^(yS i (words 16 b)).getD (16+i-15) 0#32>>>3)+(yS i (words 16 b)).getD (16+i-7) 0#32+(JQ ((yS i (words 16 b)).getD (16+i-2) 0#32) 17^^^JQ ((yS i (words 16 b)).getD (16+i-2) 0#32) 19^^^(yS i (words 16 b)).getD (16+i-2) 0#32>>>10))))=us (fill (yS (i+1) (words 16 b)) 64):=es
   simp only[↓aj,ak,simprocAttr,aa,h5,h1,h2,h3,hr,e0,a1,a2,a3,a4,b1,c1,c2,c3,c4,g1,g2,g3,g4,g5,r1,r2,r3,r4,e11,es',decide_true]
   exact hR _ _ ⟨by simp only[has,↓aj,ak,simprocAttr,aa,h1,h2,h3],rfl⟩
  ·rintro env rows ⟨hh,rfl⟩ R
   simp only[has]at hh
   obtain⟨h5,h1,h2,h3,-⟩:=hh
   simp only[↓aj,ak,simprocAttr,aa,h5,h1,h2,h3]
   rw[Ty (by rw[JR,eX])]
   exact .val _ rfl
  ·have:fill (words 16 b) 64=fill (yS 0 (words 16 b)) 64:=rfl
   simp only[has,↓aj,ak,simprocAttr,aa,h1,h2,h3]
 ·simp only[has,↓aj,ak,simprocAttr,aa]
 ·rw[us_rep];rfl
def JT:List (BitVec 32):=[0x6a09e667#32,0xbb67ae85#32,0x3c6ef372#32,0xa54ff53a#32,0x510e527f#32,0x9b05688c#32,0x1f83d9ab#32,0x5be0cd19#32]
def qA:List (BitVec 32):=[
 0x428a2f98#32,0x71374491#32,0xb5c0fbcf#32,0xe9b5dba5#32,0x3956c25b#32,0x59f111f1#32,0x923f82a4#32,0xab1c5ed5#32,
 0xd807aa98#32,0x12835b01#32,0x243185be#32,0x550c7dc3#32,0x72be5d74#32,0x80deb1fe#32,0x9bdc06a7#32,0xc19bf174#32,
 0xe49b69c1#32,0xefbe4786#32,0x0fc19dc6#32,0x240ca1cc#32,0x2de92c6f#32,0x4a7484aa#32,0x5cb0a9dc#32,0x76f988da#32,
 0x983e5152#32,0xa831c66d#32,0xb00327c8#32,0xbf597fc7#32,0xc6e00bf3#32,0xd5a79147#32,0x06ca6351#32,0x14292967#32,
 0x27b70a85#32,0x2e1b2138#32,0x4d2c6dfc#32,0x53380d13#32,0x650a7354#32,0x766a0abb#32,0x81c2c92e#32,0x92722c85#32,
 0xa2bfe8a1#32,0xa81a664b#32,0xc24b8b70#32,0xc76c51a3#32,0xd192e819#32,0xd6990624#32,0xf40e3585#32,0x106aa070#32,
 0x19a4c116#32,0x1e376c08#32,0x2748774c#32,0x34b0bcb5#32,0x391c0cb3#32,0x4ed8aa4a#32,0x5b9cca4f#32,0x682e6ff3#32,
 0x748f82ee#32,0x78a5636f#32,0x84c87814#32,0x8cc70208#32,0x90befffa#32,0xa4506ceb#32,0xbef9a3f7#32,0xc67178f2#32]
def rnd(v:List (BitVec 32))(k w:BitVec 32):List (BitVec 32):=
 match v with
 |[a,b,c,d,e,f,g,h]=>
  let t:=h+(JQ e 6^^^JQ e 11^^^JQ e 25)+(e&&&f^^^~~~e&&&g)+k+w
  [t+(JQ a 2^^^JQ a 13^^^JQ a 22)+(a&&&b^^^a&&&c^^^b&&&c),a,b,c,d+t,e,f,g]
 | _=>v
def w8(ws:List (BitVec 32)):Nat→List (BitVec 32)→List (BitVec 32)
 |0,v=>v
 |n+1,v=>rnd (w8 ws n v) (qA.getD n 0#32) (ws.getD n 0#32)
theorem eight{v:List (BitVec 32)}(h:v.length=8):∃a b c d e f g i,v=[a,b,c,d,e,f,g,i]:=by
 match v,h with
 |[a,b,c,d,e,f,g,i],_=>exact⟨a,b,c,d,e,f,g,i,rfl⟩
theorem rnd_len(v:List (BitVec 32))(k w:BitVec 32)(h:v.length=8):(rnd v k w).length=8:=by
 obtain⟨a,b,c,d,e,f,g,i,rfl⟩:=eight h;rfl
theorem FY(ws:List (BitVec 32))(n:Nat)(v:List (BitVec 32))(h:v.length=8):(w8 ws n v).length=8:=by
 induction n with
 |zero=>exact h
 |succ n ih=>exact rnd_len _ _ _ ih
def OV(x y:List (BitVec 32))(i:Nat):List (BitVec 32):=(List.zipWith (· + ·) x y).take i++x.drop i
theorem mix_len(x y:List (BitVec 32))(i:Nat)(h:x.length=y.length)(hi:i≤x.length):(OV x y i).length=x.length:=by simp[OV];omega
theorem mix_get(x y:List (BitVec 32))(i:Nat)(h:x.length=y.length)(hi:i<x.length):(OV x y i).getD i 0#32=x.getD i 0#32:=by
 have:((List.zipWith (· + ·) x y).take i).length=i:=by simp;omega
 simp only[OV,List.getD]
 rw[List.getElem?_append_right (by omega),this,Nat.sub_self,List.getElem?_drop]
 rfl
theorem mix_set(x y:List (BitVec 32))(i:Nat)(h:x.length=y.length)(hi:i<x.length):(OV x y i).set i (x.getD i 0#32+y.getD i 0#32)=OV x y (i+1):=by
 have hl:((List.zipWith (· + ·) x y).take i).length=i:=by simp;omega
 have e1:x.drop i=x.getD i 0#32::x.drop (i+1):=by
  rw[List.drop_eq_getElem_cons hi];simp[List.getD,hi]
 have e2:(List.zipWith (· + ·) x y).take (i+1)=(List.zipWith (· + ·) x y).take i++[x.getD i 0#32+y.getD i 0#32]:=by
  have hz:i<(List.zipWith (· + ·) x y).length:=by simp;omega
  rw[List.take_succ_eq_append_getElem hz]
  have hy:i<y.length:=by omega
  simp[List.getD,hi,hy]
 rw[OV,OV,e2,List.set_append_right _ _ (by omega),hl,Nat.sub_self,e1]
 simp
theorem mix_all(x y:List (BitVec 32))(h:x.length=y.length):OV x y x.length=List.zipWith (· + ·) x y:=by
 rw[OV,List.drop_length,List.append_nil,List.take_of_length_le (by simp;omega)]
def vM(h:List (BitVec 32))(b:List (BitVec 8)):List (BitVec 32):=List.zipWith (· + ·) h (w8 (oA b) 64 h)
theorem Xi(b:List (BitVec 8)):(oA b).length=64:=by rw[oA,JR,eX]
theorem TA(h:List (BitVec 32))(b:List (BitVec 8))(hh:h.length=8):(vM h b).length=8:=by simp[vM,hh,FY]
noncomputable def JU:Fn:=wS (b8 Tv) (b8 JP) (fun h b=>decide (h.length=8)&&decide (b.length=64)) fun h b=>(Tv (vM h b),[])
theorem kSpread(rows:Rows)(k:D→Rows→Prop)(b:List (BitVec 8))(h:b.length=64):aJ D4 rows k [.agg (.ar 64 L8) (bs b)]=k (.agg (.ar 64 dk) (us (oA b))) rows:=by
 refine(bi (by simp[aN,aQ,Sh.pure]) (r:=(Tw (oA b),[])) ?_).trans ?_
 ·exact ei (bV FX b) (by simp[h])
 ·simp[shift,ae,Tw,Sh.pure]
theorem Xj(C:be)(hC:aI C P)(hg:C.aZ 5=some (Tw qA))(hs:C.fn 202=some D4)(hr:C.fn 203=some Tx):aO C.aZ P 184 (Fn.run JU):=by
 refine aH (Ma C hC) fun ds rows r h=>?_
 obtain⟨d,e,h0,b,rfl,rfl,hd,he,hp,rfl⟩:=dq h
 cases aF hd
 cases aF he
 simp only[Bool.and_eq_true,decide_eq_true_eq]at hp
 obtain⟨hp,hb⟩:=hp
 refine⟨rfl,ag rfl ?_⟩
 clear h hd he
 unfold CM CN
 simp only[Tv,JP,↓aj,ak,simprocAttr,aa,hs]
 refine Eq.mpr (kSpread _ _ _ hb) ?_
 simp only[↓aj,ak,simprocAttr,aa]
 refine bB 64 (fun i env rows=>has env [(17,.raw (it (i:Int))),(16,.agg (.ar 64 dk) (us (oA b))),(2,.ptr (.ar 8 dk) 0 [0]),(4,.ptr (.ar 8 dk) 2 [0]),(5,.ptr (.ar 8 dk) 3 [0])]∧
  ∃z y,rows=[some ⟨.ar 8 dk,[.agg (.ar 8 dk) (us h0)]⟩,some y,some ⟨.ar 8 dk,[z]⟩,some ⟨.ar 8 dk,[.agg (.ar 8 dk) (us (w8 (oA b) i h0))]⟩]) ?_ ?_ ⟨?_,_,_,rfl⟩
 ·rintro i hi env rows ⟨hh,z,y,rfl⟩ R hR
  simp only[has]at hh
  obtain⟨h17,h16,h2,h4,h5,-⟩:=hh
  obtain⟨va,vb,vc,vd,ve,vf,vg,vh,hv⟩:=eight (FY (oA b) i h0 hp)
  have e0:((i:Int)<64)=True:=eq_true (by omega)
  have e1:((0:Int)≤(i:Int))=True:=eq_true (by omega)
  have e2:=cE i (by omega)
  have g1:(us (oA b))[i]?=some (.raw (u32 ((oA b).getD i 0#32))):=ku (by rw[Xi];omega)
  have g2:(us qA)[i]?=some (.raw (u32 (qA.getD i 0#32))):=ku (by simp[qA];omega)
  have r1:=fun rows k x=>Hm rows k x 6 (by decide) (by decide)
  have r2:=fun rows k x=>Hm rows k x 11 (by decide) (by decide)
  have r3:=fun rows k x=>Hm rows k x 25 (by decide) (by decide)
  have r4:=fun rows k x=>Hm rows k x 2 (by decide) (by decide)
  have r5:=fun rows k x=>Hm rows k x 13 (by decide) (by decide)
  have r6:=fun rows k x=>Hm rows k x 22 (by decide) (by decide)
  simp only[Int.cast_ofNat_Int]at r1 r2 r3 r4 r5 r6
  have hn:us (w8 (oA b) (i+1) h0)=us (rnd [va,vb,vc,vd,ve,vf,vg,vh] (qA.getD i 0#32) ((oA b).getD i 0#32)):=by rw[w8,hv]
  rw[hv]
  have hu:us [va,vb,vc,vd,ve,vf,vg,vh]=[.raw (u32 va),.raw (u32 vb),.raw (u32 vc),.raw (u32 vd),.raw (u32 ve),.raw (u32 vf),.raw (u32 vg),.raw (u32 vh)]:=rfl
  simp only[↓aj,ak,simprocAttr,aa,Tw,h17,h16,h2,h4,h5,hr,hg,e0,e1,e2,g1,g2,r1,r2,r3,r4,r5,r6,hu,decide_true]
  exact hR _ _ ⟨by simp only[has,↓aj,ak,simprocAttr,aa,h16,h2,h4,h5],z,y,by rw[hn];rfl⟩
 ·rintro env rows ⟨hh,z,y,rfl⟩ R
  simp only[has]at hh
  obtain⟨h17,h16,h2,h4,h5,-⟩:=hh
  simp only[↓aj,ak,simprocAttr,aa,h17,h16,h2,h4,h5]
  have hv:=FY (oA b) 64 h0 hp
  have hq:h0.length=(w8 (oA b) 64 h0).length:=by omega
  refine bB 8 (fun i env rows=>has env [(107,.raw (it (i:Int))),(2,.ptr (.ar 8 dk) 0 [0]),(4,.ptr (.ar 8 dk) 2 [0]),(5,.ptr (.ar 8 dk) 3 [0])]∧
   rows=[some ⟨.ar 8 dk,[.agg (.ar 8 dk) (us (OV h0 (w8 (oA b) 64 h0) i))]⟩,some y,some ⟨.ar 8 dk,[z]⟩,some ⟨.ar 8 dk,[.agg (.ar 8 dk) (us (w8 (oA b) 64 h0))]⟩]) ?_ ?_ ⟨?_,by rfl⟩
  ·rintro i hi env rows ⟨hh,rfl⟩ R hR
   simp only[has]at hh
   obtain⟨h7,h2,h4,h5,-⟩:=hh
   have e0:((i:Int)<8)=True:=eq_true (by omega)
   have e1:((0:Int)≤(i:Int))=True:=eq_true (by omega)
   have e2:=cE i (by omega)
   have g1:(us (OV h0 (w8 (oA b) 64 h0) i))[i]?=some (.raw (u32 (h0.getD i 0#32))):=by
    rw[ku (by rw[mix_len _ _ _ hq (by omega)];omega),mix_get _ _ _ hq (by omega)]
   have g2:(us (w8 (oA b) 64 h0))[i]?=some (.raw (u32 ((w8 (oA b) 64 h0).getD i 0#32))):=ku (by omega)
   have es:(us (OV h0 (w8 (oA b) 64 h0) i)).set i (.raw (u32 (h0.getD i 0#32+(w8 (oA b) 64 h0).getD i 0#32)))=us (OV h0 (w8 (oA b) 64 h0) (i+1)):=by
    rw[JN,mix_set _ _ _ hq (by omega)]
   simp only[↓aj,ak,simprocAttr,aa,h7,h2,h4,h5,e0,e1,e2,g1,g2,es,decide_true]
   exact hR _ _ ⟨by simp only[has,↓aj,ak,simprocAttr,aa,h2,h4,h5],rfl⟩
  ·rintro env rows ⟨hh,rfl⟩ R
   simp only[has]at hh
   obtain⟨h7,h2,h4,h5,-⟩:=hh
   simp only[↓aj,ak,simprocAttr,aa,h7,h2,h4,h5]
   have:OV h0 (w8 (oA b) 64 h0) 8=vM h0 b:=by rw[←hp,mix_all _ _ hq];rfl
   rw[this]
   exact .val _ rfl
  ·simp only[has,↓aj,ak,simprocAttr,aa,h2,h4,h5]
 ·simp only[has,↓aj,ak,simprocAttr,aa]
theorem TB{l:List (BitVec 32)}{i:Nat}(h:i<l.length):l.take (i+1)=l.take i++[l.getD i 0#32]:=oV h
theorem BC(l x:List (BitVec 8))(off:Nat):a9 (bs l) off (bs x)=bs (a9 l off x):=by
 simp[a9,bs]
theorem Mp{rows:Rows}{r i off len:Nat}{p:List Nat}{ex:Bool}{row:Row}{l src:List (BitVec 8)}{u:Sh}{els:List D}{k:D→Rows→Prop}(hl:live rows r=some row)(hg:cP row.els (i::p)=some (.agg u (bs l)))(hn:off+len≤l.length)
  (hs:kg row.els (i::p) (.agg u (bs (a9 l off (src.take (min src.length len)))))=some els):nc rows L8 (.sl L8 r (i::p) off len ex) (bs src) k=k (.raw (it ((min src.length len:Nat):Int))) (rows.set r (some ⟨row.sh,els⟩)):=by
 unfold nc
 simp only[hl,hg,bd,aC,ey,BC,hs,hn,true_and]
 rfl
theorem BD{rows:Rows}{r n off len:Nat}{ex:Bool}{l src:List (BitVec 8)}{k:D→Rows→Prop}(hl:live rows r=some ⟨.ar n L8,[.agg (.ar n L8) (bs l)]⟩)(hn:off+len≤l.length):
  nc rows L8 (.sl L8 r [0] off len ex) (bs src) k=k (.raw (it ((min src.length len:Nat):Int))) (rows.set r (some ⟨.ar n L8,[.agg (.ar n L8) (bs (a9 l off (src.take (min src.length len))))]⟩)):=
 Mp hl rfl hn rfl
def jQ(w:List (BitVec 32)):List (BitVec 8):=(w.map bC).flatten
theorem wC(x:BitVec 32):(bC x).length=4:=rfl
theorem nC(w:List (BitVec 32)):(jQ w).length=4*w.length:=by
 induction w with
 |nil=>rfl
 |cons x w ih=>simp only[jQ,List.map_cons,List.flatten_cons,List.length_append,List.length_cons]at ih⊢;rw[ih,wC];omega
theorem Mq(a b:List (BitVec 32)):jQ (a++b)=jQ a++jQ b:=by simp[jQ]
def pA(l:List (BitVec 8))(n:Nat):List (BitVec 8):=l++List.replicate (n-l.length) 0#8
theorem BE{l:List (BitVec 8)}{n:Nat}(h:l.length≤n):(pA l n).length=n:=by simp[pA];omega
theorem tv{l x:List (BitVec 8)}{n:Nat}(h:l.length+x.length≤n):a9 (pA l n) l.length x=pA (l++x) n:=by
 unfold a9 pA
 have h1:(l++List.replicate (n-l.length) 0#8).take l.length=l:=by simp
 have h2:(l++List.replicate (n-l.length) 0#8).drop (l.length+x.length)=List.replicate (n-(l++x).length) 0#8:=by
  rw[List.drop_append,List.drop_eq_nil_of_le (by omega),List.nil_append,List.drop_replicate]
  congr 1;simp;omega
 rw[h1,h2]
theorem OW{l:List (BitVec 8)}{n:Nat}(h:l.length=n):pA l n=l:=by simp[pA,h]
noncomputable def An:Fn:=lE (b8 Tv) (fun b=>decide (b.length=8)) fun b=>(aW (jQ b),[])
theorem TC(C:be)(hC:aI C P):aO C.aZ P 185 (Fn.run An):=by
 refine aH (JI C hC) fun ds rows r h=>?_
 obtain⟨d,w,rfl,rfl,hd,hp,rfl⟩:=a8 h
 cases aF hd
 simp only[decide_eq_true_eq]at hp
 refine⟨rfl,ag rfl ?_⟩
 clear h hd
 unfold z9 Aa
 simp only[Tv,↓aj,ak,simprocAttr,aa]
 refine bB 8 (fun i env rows=>has env [(7,.raw (it (i:Int))),(6,.agg (.ar 8 dk) (us w)),(1,.ptr (.ar 8 dk) 0 [0]),(2,.ptr (.ar 32 L8) 1 [0]),(3,.ptr (.ar 32 L8) 2 [0])]∧
  (∃z,live rows 1=some ⟨.ar 32 L8,[z]⟩)∧live rows 2=some ⟨.ar 32 L8,[.agg (.ar 32 L8) (bs (pA (jQ (w.take i)) 32))]⟩) ?_ ?_ ⟨?_,⟨_,rfl⟩,?_⟩
 ·rintro i hi env rows ⟨hh,⟨z,r1⟩,r2⟩ R hR
  simp only[has]at hh
  obtain⟨h7,h6,h1,h2,h3,-⟩:=hh
  have e0:((i:Int)<8)=True:=eq_true (by omega)
  have e1:((0:Int)≤4*(i:Int))=True:=eq_true (by omega)
  have e2:wz (4*(i:Int))=4*(i:Int):=bf (by omega)
  have e5:(4*(i:Int)≤32)=True:=eq_true (by omega)
  have e6:(4*(i:Int)).toNat=4*i:=by omega
  have e9:((0:Int)≤(i:Int))=True:=eq_true (by omega)
  have e11:=cE i (by omega)
  have eg:(us w)[i]?=some (.raw (u32 (w.getD i 0#32))):=ku (by omega)
  have hl:(jQ (w.take i)).length=4*i:=by rw[nC,List.length_take];omega
  have hsp:a9 (pA (jQ (w.take i)) 32) (4*i) ((bC (w.getD i 0#32)).take (min 4 (32-4*i)))=pA (jQ (w.take (i+1))) 32:=by
   have:=tv (l:=jQ (w.take i)) (x:=bC (w.getD i 0#32)) (n:=32) (by rw[hl,wC];omega)
   rw[hl]at this
   have ht:(bC (w.getD i 0#32)).take (min 4 (32-4*i))=bC (w.getD i 0#32):=List.take_of_length_le (by rw[wC];omega)
   rw[ht,this,TB (by omega),Mq]
   simp[jQ]
  simp only[↓aj,ak,simprocAttr,aa,aX,h7,h6,h1,h2,h3,e0,e1,e2,e5,e6,e9,e11,eg,decide_true]
  refine Eq.mpr (BD (src:=bC (w.getD i 0#32)) (bJ r2) (by rw[BE (by omega)];omega)) ?_
  rw[wC,hsp]
  have hr1:∀x y:Rows,live ((rows++x).set 2 (some ⟨.ar 32 L8,[.agg (.ar 32 L8) (bs (pA (jQ (w.take (i+1))) 32))]⟩)) 1=some ⟨.ar 32 L8,[z]⟩:=fun x y=>(aE (by decide)).trans (bJ r1)
  simp only[↓aj,ak,simprocAttr,aa,h7,h6,h1,h2,h3,e11]
  exact hR _ _ ⟨by simp only[has,↓aj,ak,simprocAttr,aa,h6,h1,h2,h3],⟨z,hr1 _ []⟩,mV (bJ r2)⟩
 ·rintro env rows ⟨hh,⟨z,r1⟩,r2⟩ R
  simp only[has]at hh
  obtain⟨h7,h6,h1,h2,h3,-⟩:=hh
  have s1:∀x,live (rows.set 1 (some x)) 1=some x:=fun x=>mV r1
  simp only[↓aj,ak,simprocAttr,aa,h7,h6,h1,h2,h3,r1,r2,s1]
  have:pA (jQ (w.take 8)) 32=jQ w:=by rw[List.take_of_length_le (by omega),OW (by rw[nC];omega)]
  rw[this]
  exact .val _ rfl
 ·simp only[has,↓aj,ak,simprocAttr,aa]
 ·rfl
theorem QI(rows:Rows)(k:D→Rows→Prop)(w:List (BitVec 32))(h:w.length=8):aJ An rows k [.agg (.ar 8 dk) (us w)]=k (.agg (.ar 32 L8) (bs (jQ w))) rows:=by
 refine(bi (by simp[aN,aQ,Sh.pure]) (r:=(aW (jQ w),[])) ?_).trans ?_
 ·exact ei (bV QF w) (by simp[h])
 ·simp[shift,ae,aW,Sh.pure]
def pB(n:BitVec 64):Nat:=((119#64-n %64#64) %64#64).toNat
def Xk(m:BitVec 64)(i:Nat):List (BitVec 8):=(List.range i).map fun j=>(m>>>(56-8*j)).setWidth 8
theorem Xl(m:BitVec 64)(i:Nat):Xk m (i+1)=Xk m i++[(m>>>(56-8*i)).setWidth 8]:=by simp[Xk,List.range_succ]
theorem be8_len(m:BitVec 64)(i:Nat):(Xk m i).length=i:=by simp[Xk]
def OX(n:BitVec 64):List (BitVec 8):=[128#8]++List.replicate (pB n) 0#8++Xk (n<<<3) 8
theorem TD(n:BitVec 64):pB n<64:=by
 unfold pB;rw[BitVec.toNat_umod];exact Nat.mod_lt _ (by decide)
def fPad:Fn:=lE Ot (fun _=>true) fun n=>ez (OX n) false
theorem pad_ok(C:be)(hC:aI C P):aO C.aZ P 186 (Fn.run fPad):=by
 refine aH (Tq C hC) fun ds rows r h=>?_
 obtain⟨d,n,rfl,rfl,hd,hp,rfl⟩:=a8 h
 cases rD hd
 refine⟨rfl,ag rfl ?_⟩
 clear h hd
 have hz:=TD n
 have h0:((0:Int)≤((((119#64-n %64#64) %64#64).toNat:Nat):Int))=True:=eq_true (by omega)
 have hzn:((119#64-n %64#64) %64#64).toNat=pB n:=rfl
 rw[hzn]at h0
 unfold If Ig
 simp only[↓aj,ak,simprocAttr,aa,hzn,h0,List.length_replicate]
 refine⟨by omega,by omega,?_⟩
 have e:bs ([128#8]++List.replicate (pB n) 0#8++Xk (n<<<3) 0)= .raw (u8 128#8)::List.replicate (pB n) (.raw (u8 0#8)):=by
  simp[Xk,bs]
 have how0:iK L8 (.sl L8 1 [] 0 (1+pB n) false) [none,some ⟨L8,.raw (u8 128#8)::List.replicate (pB n) (.raw (u8 0#8))⟩] (bs ([128#8]++List.replicate (pB n) 0#8++Xk (n<<<3) 0)):=by
  rw[e]
  refine .inr ⟨1,false,?_,rfl⟩
  rw[List.length_cons,List.length_replicate,Nat.add_comm]
 refine bB 8 (fun i env rows=>∃x,has env [(0,.raw (u64 n)),(3,x),(4,.raw (it (56-8*(i:Int))))]∧iK L8 x rows (bs ([128#8]++List.replicate (pB n) 0#8++Xk (n<<<3) i))) ?_ ?_ ⟨_,?_,how0⟩
 ·rintro i hi env rows ⟨x,hh,how⟩ R hR
  simp only[has]at hh
  obtain⟨h0,h3,h4,-⟩:=hh
  have e0:((0:Int)≤56-8*(i:Int))=True:=eq_true (by omega)
  have e1:(56-8*(i:Int)).toNat=56-8*i:=by omega
  have e2:wz (56-8*(i:Int)-8)=56-8*((i+1:Nat):Int):=by rw[bf (by omega)];omega
  have hl:(bs ([128#8]++List.replicate (pB n) 0#8++Xk (n<<<3) i)).length≤100:=by
   rw[aC,List.length_append,List.length_append,be8_len,List.length_replicate];simp only[List.length_cons,List.length_nil];omega
  simp only[↓aj,ak,simprocAttr,aa,h0,h3,h4,e0,e1,decide_true]
  refine iX how.push (by simp only[List.length_cons,List.length_nil];unfold most;omega) (by simp only[List.length_cons,List.length_nil];unfold most;omega) ?_
  intro x' ab how' _ _ _
  simp only[↓aj,ak,simprocAttr,aa,h0,h3,h4,e2]
  refine hR _ _ ⟨x',by simp only[has,↓aj,ak,simprocAttr,aa,h0],?_⟩
  rw[Xl,←List.append_assoc,Qz]
  exact how'
 ·rintro env rows ⟨x,hh,how⟩ R
  simp only[has]at hh
  obtain⟨h0,h3,h4,-⟩:=hh
  have e0:((0:Int)≤56-8*((8:Nat):Int))=False:=eq_false (by omega)
  simp only[↓aj,ak,simprocAttr,aa,h0,h3,h4,e0,decide_false,how.mI]
  exact how.Jl
 ·simp only[has,↓aj,ak,simprocAttr,aa]
theorem kPad(rows:Rows)(k:D→Rows→Prop)(n:BitVec 64):aJ fPad rows k [.raw (u64 n)]=k (.sl L8 (0+rows.length) [] 0 (OX n).length false) (rows++[some ⟨L8,bs (OX n)⟩]):=by
 refine(bi rfl (r:=ez (OX n) false) ?_).trans ?_
 ·exact ei (D0 n) rfl
 ·simp[ez,shift,ae,Sh.pure]
end iC
end Go.Am

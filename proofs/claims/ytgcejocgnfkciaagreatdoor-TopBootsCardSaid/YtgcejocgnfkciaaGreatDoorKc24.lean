import Derived.Test.YtgcejocgnfkciaaGreatDoorKc23
namespace Go.Am
set_option linter.unusedSimpArgs false
set_option linter.unusedVariables false
attribute [local congr] cd bt cg bu bw bO bg bx bz bP a7 bQ bA b9
namespace iC
open Go.Am.F
set_option maxRecDepth 10000
theorem YD(a:Nat)(h:a<256)(k:D→Prop):bE .shl (it (a:Int)) (u64 8#64) k=k (.raw (it ((a*256:Nat):Int))):=by
 have e:wz ((a:Int)*2^8)=((a*256:Nat):Int):=by rw[bf (by omega)];omega
 show(0≤(8:Int)∧k (.raw (.int .i64 (IntKind.i64.wrap ((a:Int)*2^(min 8 64))))))=_
 rw[show IntKind.i64.wrap ((a:Int)*2^(min 8 64))=wz ((a:Int)*2^8)from rfl,e]
 simp[it]
theorem b_orI(a b:Nat)(ha:a<256)(hb:b<256)(k:D→Prop):bE .or (it ((a*256:Nat):Int)) (it (b:Int)) k=k (.raw (it ((a*256+b:Nat):Int))):=by
 have e1:(BitVec.ofInt 64 ((a*256:Nat):Int)|||BitVec.ofInt 64 (b:Int)).toNat=a*256+b:=by
  have x1:BitVec.ofInt 64 ((a*256:Nat):Int)=BitVec.ofNat 64 (a*256):=rfl
  have x2:BitVec.ofInt 64 (b:Int)=BitVec.ofNat 64 b:=rfl
  rw[x1,x2,BitVec.toNat_or,BitVec.toNat_ofNat,BitVec.toNat_ofNat,Nat.mod_eq_of_lt (by omega),Nat.mod_eq_of_lt (by omega)]
  have:=JM a b 8 (by omega)
  rw[Nat.shiftLeft_eq]at this
  exact this
 show(IntKind.i64=IntKind.i64∧k (.raw (.int .i64 (IntKind.i64.wrap (((BitVec.ofInt 64 ((a*256:Nat):Int)|||BitVec.ofInt 64 (b:Int)).toNat:Nat):Int)))))=_
 rw[e1,show IntKind.i64.wrap ((a*256+b:Nat):Int)=wz ((a*256+b:Nat):Int)from rfl,bf (by omega)]
 simp[it]
def n2I(n:Nat):List (BitVec 8):=[BitVec.ofNat 8 (n/256),BitVec.ofNat 8 n]
def j3(m:xQ)(sig p:List (BitVec 8)):List (BitVec 8):=cB m++(n2I sig.length++(sig++p))
def pI(m:xQ)(sig p:List (BitVec 8)):Bool:=cL m&&(decide ((p.length:Int)=m.s)&&decide (sig.length≤65535))
noncomputable def Kq:Fn:=G2 (b8 cO) dN dN (fun m sig p=>decide (m.dg.length=32)&&(Nat.ble sig.length 1099511627&&Nat.ble p.length 1099511627)) fun m sig p=>
 bif pI m sig p then(.cA [.sl L8 0 [] 0 (j3 m sig p).length false,.raw (it 0)],[some ⟨L8,bs (j3 m sig p)⟩])else(.cA [.raw (.slice none 0 0),.raw (it 1)],[])
theorem kBJoin(rows:Rows)(k:D→Rows→Prop)(r n:Nat)(ex:Bool)(l:List D)(ls:List (List (BitVec 8)))(hl:live rows r=some ⟨.ref,l⟩)(hn:l.length=n)
  (hv:aY (fun x y=>bc rows x y) l ls)(hp:ls.length≤1099511627776)(sG:ls.flatten.length≤1099511627776):aJ BG rows k [.sl .ref r [] 0 n ex,.raw (.slice none 0 0)]=k (.sl L8 (0+rows.length) [] 0 ls.flatten.length false) (rows++[some ⟨L8,bs ls.flatten⟩]):=by
 refine(jB (.parts hl hn hv) (.raw (a:=()) rfl) (by simp only[Bool.and_eq_true,Nat.ble_eq];exact⟨hp,sG⟩) (by simp[ez,bZ,aS,Sh.pure]) k).trans ?_
 simp[ez,shift,ae,Sh.pure]
set_option maxHeartbeats 2000000 in
theorem YE(C:be)(hC:aI C P)(h7:C.fn 31=some tB)(hj:C.fn 114=some BG):aO C.aZ P 55 (Fn.run Kq):=by
 refine cr (Bq C hC) fun ds rows r h=>?_
 obtain⟨d,e,f,m,sig,p,rfl,rfl,hd,he,hf,hp,rfl⟩:=fq h
 cases aF hd
 obtain⟨x,hx⟩:=cy he
 obtain⟨y,hy⟩:=cy hf
 refine⟨rfl,_,.cons (.refl _) (.cons hx (.cons hy .nil)),ag rfl ?_⟩
 simp only[Bool.and_eq_true,decide_eq_true_eq,Nat.ble_eq]at hp
 obtain⟨hm,hs,sO⟩:=hp
 clear h hd he hf hx hy
 unfold rP rQ
 have Vc:=fA m
 have gs:(cO m).get [1]=some (.raw (it m.s)):=rfl
 cases hk:cL m
 ·have kb:=fun rows k=>kBodyN rows k m hm hk
  have hi:pI m sig p=false:=by simp[pI,hk]
  simp only[↓aj,ak,simprocAttr,aa,Vc,h7,kb,hi,cond_false]
  exact .val _ rfl
 ·have kb:=fun rows k=>Py rows k m hm hk
  by_cases c1:(p.length:Int)=m.s
  ·by_cases c2:sig.length≤65535
   ·have hi:pI m sig p=true:=by simp[pI,hk,c1,c2]
    have Z9:(65535<(sig.length:Int))=False:=eq_false (by omega)
    have e8:((sig.length:Int).fdiv (2^(min 8 64)))=((sig.length/256:Nat):Int):=nI sig.length 256
    have e4:∀m:Nat,BitVec.ofInt 8 (m:Int)=BitVec.ofNat 8 m:=fun m=>rfl
    have b48:=pH m hm
    simp only[↓aj,ak,simprocAttr,aa,Vc,h7,kb,hi,cond_true,aC,gs,c1,Z9,Kp,e8,e4,hj]
    refine Eq.mpr (kBJoin _ _ _ 4 _ _ [cB m,n2I sig.length,sig,p] rfl rfl (.cons (bc.own rfl 48 b48.symm) (.cons (bc.own (l:=n2I sig.length) rfl 2 rfl) (.cons (ec.to (.inr ⟨x,rfl⟩)) (.cons (ec.to (.inr ⟨y,rfl⟩)) .nil)))) (by simp) (by simp[b48,n2I];omega)) ?_
    have lz:[cB m,n2I sig.length,sig,p].flatten=j3 m sig p:=by simp[j3]
    rw[lz]
    simp only[↓aj,ak,simprocAttr,aa]
    exact .G9 L8 _ 0 _ false false _ [.raw (it 0)] rfl rfl rfl (fun h=>by cases h)
   ·have hi:pI m sig p=false:=by simp[pI,c2]
    have Z9:(65535<(sig.length:Int))=True:=eq_true (by omega)
    simp only[↓aj,ak,simprocAttr,aa,Vc,h7,kb,hi,cond_false,aC,gs,c1,Z9]
    exact .val _ rfl
  ·have hi:pI m sig p=false:=by simp[pI,c1]
   simp only[↓aj,ak,simprocAttr,aa,Vc,h7,kb,hi,cond_false,aC,gs,c1]
   exact .val _ rfl
theorem kImage(rows:Rows)(k:D→Rows→Prop)(m:xQ)(d e:D)(sig p:List (BitVec 8))(hm:m.dg.length=32)(h:bc rows d sig)(h':bc rows e p)(hs:sig.length≤1099511627)(hp:p.length≤1099511627)(hi:pI m sig p=true):
  aJ Kq rows k [cO m,d,e]=k (.cA [.sl L8 (0+rows.length) [] 0 (j3 m sig p).length false,.raw (it 0)]) (rows++[some ⟨L8,bs (j3 m sig p)⟩]):=by
 refine(fT (.agg rfl (bV AI m)) (.bs h) (.bs h') (by simp[hm,hs,hp]) ?_ k).trans ?_
 ·rw[hi];simp[bZ,fI,aS,Sh.pure]
 ·rw[hi];simp[shift,bh,ae,Sh.pure]
def eZ(q:List (BitVec 8)):Nat:=(q.getD 48 0#8).toNat*256+(q.getD 49 0#8).toNat
def cR(q:List (BitVec 8)):xQ×List (BitVec 8)×List (BitVec 8)×Int:=
 bif decide (q.length<50)then(eS,[],[],2)else
 bif decide ((cZ (q.take 48)).2≠0)then(eS,[],[],(cZ (q.take 48)).2)else
 bif decide ((q.length:Int)<50+eZ q+(cZ (q.take 48)).1.s)then(eS,[],[],2)else
 ((cZ (q.take 48)).1,(q.drop 50).take (eZ q),(q.drop (50+eZ q)).take (cZ (q.take 48)).1.s.toNat,0)
theorem aam(p:List (BitVec 8))(h:(cZ p).2=0):∃s:Nat,(cZ p).1.s=(s:Int)∧s≤2048:=by
 unfold cZ at h⊢
 cases h1:decide (p.length=48)<;>cases h2:decide (p.take 4=qU)<;>rw[h1,h2]at h<;>simp only[Bool.and_self,Bool.and_true,Bool.and_false,Bool.false_and,cond_false,cond_true]at h⊢<;>try (exact absurd h (by decide))
 cases h3:cL (qH p)<;>rw[h3]at h<;>simp only[cond_false,cond_true]at h⊢
 ·exact absurd h (by decide)
 ·obtain⟨v,s,e,hv,hs,he,b1,b2,b3,b4,-,-⟩:=wK h3
  exact⟨s,hs,b2⟩
theorem aan{rows:Rows}{r n:Nat}{ex:Bool}{l:List (BitVec 8)}(h:live rows r=some ⟨L8,bs l⟩)(hn:n=l.length):iK L8 (.sl L8 r [] 0 n ex) rows (bs l):=by
 subst hn
 exact .inr ⟨r,ex,by rw[aC],h⟩
def Read1(rows ab:Rows)(q:List (BitVec 8))(d:D):Prop:=∃L d1 d2,ab=rows++L∧d= .cA [cO (cR q).1,d1,d2,.raw (it (cR q).2.2.2)]∧iK L8 d1 ab (bs (cR q).2.1)∧iK L8 d2 ab (bs (cR q).2.2.1)
set_option maxHeartbeats 2000000 in
theorem YF(C:be){rows:Rows}{r n:Nat}{ex:Bool}{q:List (BitVec 8)}(hl:live rows r=some ⟨L8,bs q⟩)(hn:n=q.length)(hq:q.length≤1099511627){K:D→Rows→Prop}
  (h13:C.fn 201=some BV)(h30:C.fn 73=some tx)
  (h:∀d ab,Read1 rows ab q d→K d ab):aR C 1 gA gz [.sl L8 r [] 0 n ex] rows K:=by
 subst hn
 refine ag rfl ?_
 unfold gz gA
 simp only[-List.reduceReplicate,vV]
 have hfz:=fA eS
 have hf:=fA
 by_cases c1:q.length<50
 ·have T7:((q.length:Int)<50)=True:=eq_true (by omega)
  have hr:cR q=(eS,[],[],2):=by unfold cR;rw[decide_eq_true c1];rfl
  have fin:∀L,K (.cA [cO eS,.raw (.slice none 0 0),.raw (.slice none 0 0),.raw (it 2)]) (rows++L):=fun L=>h _ _ ⟨L,_,_,rfl,by rw[hr],by rw[hr];exact .inl ⟨rfl,rfl⟩,by rw[hr];exact .inl ⟨rfl,rfl⟩⟩
  simp only[↓aj,ak,simprocAttr,aa,aX,T7,hf]
  exact fin _
 ·have T7:((q.length:Int)<50)=False:=eq_false (by omega)
  have c48:(48:Int)≤(q.length:Int):=by omega
  have b48:∀L e,bc (rows++L) (.sl L8 r [] 0 48 e) (q.take 48):=fun L e=>by
   have:=bc.sub (off:=0) (len:=48) (ex:=e) (aA hl L) (by omega)
   rwa [List.drop_zero]at this
  have kp:=fun L e k=>kParse (rows++L) k (.sl L8 r [] 0 48 e) (q.take 48) (b48 L e) (by rw[List.length_take];omega)
  simp only[↓aj,ak,simprocAttr,aa,aX,T7,c48,hf,h13,kp]
  by_cases c2:(cZ (q.take 48)).2=0
  ·obtain⟨s,hs,tJ⟩:=aam _ c2
   have gs:(cO (cZ (q.take 48)).1).get [1]=some (.raw (it (s:Int))):=by rw[←hs];rfl
   have g48:=mJ (l:=q) (i:=48) (by omega)
   have g49:=mJ (l:=q) (i:=49) (by omega)
   have i48:((48:Int)<(q.length:Int))=True:=eq_true (by omega)
   have i49:((49:Int)<(q.length:Int))=True:=eq_true (by omega)
   have t48:(q.getD 48 0#8).toNat<256:=(q.getD 48 0#8).isLt
   have t49:(q.getD 49 0#8).toNat<256:=(q.getD 49 0#8).isLt
   have sh8:=fun k=>YD _ t48 k
   have or8:=fun k=>b_orI _ _ t48 t49 k
   have sgn:(q.getD 48 0#8).toNat*256+(q.getD 49 0#8).toNat=eZ q:=rfl
   have sgb:eZ q<65536:=by unfold eZ;omega
   have w1:wz ((eZ q:Int)+(s:Int))=((eZ q+s:Nat):Int):=by rw[bf (by omega)];omega
   have hlA:=fun L=>aA hl L
   have c50:(50:Int)≤(q.length:Int):=by omega
   simp only[↓aj,ak,simprocAttr,aa,aX,c2,hf,hlA,g48,g49,i48,i49,sh8,or8,sgn,gs,w1,c50]
   by_cases c3:(q.length:Int)<50+(eZ q:Int)+(s:Int)
   ·have hr:cR q=(eS,[],[],2):=by
     unfold cR
     rw[decide_eq_false c1,c2,hs,decide_eq_true c3]
     rfl
    have fin:∀L,K (.cA [cO eS,.raw (.slice none 0 0),.raw (.slice none 0 0),.raw (it 2)]) (rows++L):=fun L=>h _ _ ⟨L,_,_,rfl,by rw[hr],by rw[hr];exact .inl ⟨rfl,rfl⟩,by rw[hr];exact .inl ⟨rfl,rfl⟩⟩
    have PC:(((q.length-50:Nat):Int)<((eZ q+s:Nat):Int))=True:=eq_true (by omega)
    simp only[↓aj,ak,simprocAttr,aa,aX,PC,hf]
    exact fin _
   ·have hr:cR q=((cZ (q.take 48)).1,(q.drop 50).take (eZ q),(q.drop (50+eZ q)).take s,0):=by
     unfold cR
     rw[decide_eq_false c1,c2,hs,decide_eq_false c3]
     rfl
    have fin:∀L d1 d2,iK L8 d1 (rows++L) (bs ((q.drop 50).take (eZ q)))→iK L8 d2 (rows++L) (bs ((q.drop (50+eZ q)).take s))→K (.cA [cO (cZ (q.take 48)).1,d1,d2,.raw (it 0)]) (rows++L):=fun L d1 d2 k1 k2=>h _ _ ⟨L,_,_,rfl,by rw[hr],by rw[hr];exact k1,by rw[hr];exact k2⟩
    have PC:(((q.length-50:Nat):Int)<((eZ q+s:Nat):Int))=False:=eq_false (by omega)
    have d0:(0:Int)≤(eZ q:Int):=by omega
    have d1:(eZ q:Int)≤((q.length-50:Nat):Int):=by omega
    have d2:(eZ q:Int)≤((eZ q+s:Nat):Int):=by omega
    have d3:((eZ q+s:Nat):Int)≤((q.length-50:Nat):Int):=by omega
    have d4:eZ q+s-eZ q=s:=by omega
    have l1:((q.drop 50).take (eZ q)).length=eZ q:=by rw[List.length_take,List.length_drop];omega
    have l2:((q.drop (50+eZ q)).take s).length=s:=by rw[List.length_take,List.length_drop];omega
    have kc1:=fun L e k=>JY (rows++L) k (.sl L8 r [] 50 (eZ q) e) ((q.drop 50).take (eZ q)) (bc.sub (aA hl L) (by omega)) (by omega)
    have kc2:=fun L e k=>JY (rows++L) k (.sl L8 r [] (50+eZ q) s e) ((q.drop (50+eZ q)).take s) (bc.sub (aA hl L) (by omega)) (by omega)
    rw[l1]at kc1
    rw[l2]at kc2
    simp only[↓aj,ak,simprocAttr,aa,aX,PC,hf,d0,d1,Nat.sub_zero,h30,kc1]
    simp only[↓aj,ak,simprocAttr,aa,aX,hf,gs,w1,d0,d1,d2,d3,d4,h30,kc2]
    refine fin _ _ _ ?_ ?_
    ·exact aan (by rw[cD];rfl) l1.symm
    ·exact aan (by rw[cD];rfl) l2.symm
  ·have hr:cR q=(eS,[],[],(cZ (q.take 48)).2):=by
    unfold cR
    rw[decide_eq_false c1,decide_eq_true c2]
    rfl
   have fin:∀L,K (.cA [cO eS,.raw (.slice none 0 0),.raw (.slice none 0 0),.raw (it (cZ (q.take 48)).2)]) (rows++L):=fun L=>h _ _ ⟨L,_,_,rfl,by rw[hr],by rw[hr];exact .inl ⟨rfl,rfl⟩,by rw[hr];exact .inl ⟨rfl,rfl⟩⟩
   simp only[↓aj,ak,simprocAttr,aa,aX,c2,hf]
   exact fin _
theorem kValI(rows:Rows)(k:D→Rows→Prop)(d:D)(x:List (BitVec 8))(h:bc rows d x)(hx:x.length≤64):aJ Rs rows k [d]=k (.raw (u64 (YI x))) rows:=by
 refine(cC (.bs h) (by simp[most];omega) rfl k).trans ?_
 simp[shift,ae,YI]
theorem val2(q:List (BitVec 8))(h:50≤q.length):wz (((YI ((q.drop 48).take 2)).toNat:Nat):Int)=(eZ q:Int):=by
 have e:(q.drop 48).take 2=[q.getD 48 0#8,q.getD 49 0#8]:=by
  apply List.ext_getElem
  ·simp only[List.length_take,List.length_drop,List.length_cons,List.length_nil];omega
  ·intro i h1 h2
   simp only[List.length_cons,List.length_nil]at h2
   have:i=0∨i=1:=by omega
   rcases this with rfl|rfl
   ·rw[List.getElem_take,List.getElem_drop];simp[List.getD_eq_getElem?_getD];rw[List.getElem?_eq_getElem (by omega)];rfl
   ·rw[List.getElem_take,List.getElem_drop];simp[List.getD_eq_getElem?_getD];rw[List.getElem?_eq_getElem (by omega)];rfl
 rw[e]
 have t48:(q.getD 48 0#8).toNat<256:=(q.getD 48 0#8).isLt
 have t49:(q.getD 49 0#8).toNat<256:=(q.getD 49 0#8).isLt
 have v:(YI [q.getD 48 0#8,q.getD 49 0#8]).toNat=eZ q:=by
  have:YI [q.getD 48 0#8,q.getD 49 0#8]=256#64*(256#64*0#64+(q.getD 48 0#8).setWidth 64)+(q.getD 49 0#8).setWidth 64:=rfl
  rw[this]
  simp only[BitVec.toNat_add,BitVec.toNat_mul,BitVec.toNat_ofNat,BitVec.toNat_setWidth]
  unfold eZ
  omega
 rw[v,bf (by unfold eZ;omega)]
set_option maxHeartbeats 2000000 in
theorem rread_run(C:be){rows:Rows}{r n:Nat}{ex:Bool}{q:List (BitVec 8)}(hl:live rows r=some ⟨L8,bs q⟩)(hn:n=q.length)(hq:q.length≤1099511627){K:D→Rows→Prop}
  (h14:C.fn 74=some BV)(h26:C.fn 75=some Rs)(h6:C.fn 17=some Tu)
  (h:∀d ab,Read1 rows ab q d→K d ab):aR C 1 lR jN [.sl L8 r [] 0 n ex] rows K:=by
 subst hn
 refine ag rfl ?_
 unfold jN lR
 simp only[-List.reduceReplicate,vV]
 have hfz:=fA eS
 have hf:=fA
 by_cases c1:q.length<50
 ·have T7:((q.length:Int)<50)=True:=eq_true (by omega)
  have hr:cR q=(eS,[],[],2):=by unfold cR;rw[decide_eq_true c1];rfl
  have fin:∀L,K (.cA [cO eS,.raw (.slice none 0 0),.raw (.slice none 0 0),.raw (it 2)]) (rows++L):=fun L=>h _ _ ⟨L,_,_,rfl,by rw[hr],by rw[hr];exact .inl ⟨rfl,rfl⟩,by rw[hr];exact .inl ⟨rfl,rfl⟩⟩
  simp only[↓aj,ak,simprocAttr,aa,aX,T7,hf]
  exact fin _
 ·have T7:((q.length:Int)<50)=False:=eq_false (by omega)
  have c48:(48:Int)≤(q.length:Int):=by omega
  have b48:∀L e,bc (rows++L) (.sl L8 r [] 0 48 e) (q.take 48):=fun L e=>by
   have:=bc.sub (off:=0) (len:=48) (ex:=e) (aA hl L) (by omega)
   rwa [List.drop_zero]at this
  have kp:=fun L e k=>kParse (rows++L) k (.sl L8 r [] 0 48 e) (q.take 48) (b48 L e) (by rw[List.length_take];omega)
  simp only[↓aj,ak,simprocAttr,aa,aX,T7,c48,hf,h14,kp]
  by_cases c2:(cZ (q.take 48)).2=0
  ·obtain⟨s,hs,tJ⟩:=aam _ c2
   have gs:(cO (cZ (q.take 48)).1).get [1]=some (.raw (it (s:Int))):=by rw[←hs];rfl
   have g48:=mJ (l:=q) (i:=48) (by omega)
   have g49:=mJ (l:=q) (i:=49) (by omega)
   have i48:((48:Int)<(q.length:Int))=True:=eq_true (by omega)
   have i49:((49:Int)<(q.length:Int))=True:=eq_true (by omega)
   have t48:(q.getD 48 0#8).toNat<256:=(q.getD 48 0#8).isLt
   have t49:(q.getD 49 0#8).toNat<256:=(q.getD 49 0#8).isLt
   have sgb:eZ q<65536:=by unfold eZ;omega
   have v2:=val2 q (by omega)
   have w0:wz (50+(eZ q:Int))=((50+eZ q:Nat):Int):=by rw[bf (by omega)];omega
   have w1:wz (((50+eZ q:Nat):Int)+(s:Int))=((50+(eZ q+s):Nat):Int):=by rw[bf (by omega)];omega
   have c50:(50:Int)≤(q.length:Int):=by omega
   have kv:=fun L e k=>kValI (rows++L) k (.sl L8 r [] 48 2 e) ((q.drop 48).take 2) (bc.sub (aA hl L) (by omega)) (by rw[List.length_take];omega)
   simp only[↓aj,ak,simprocAttr,aa,aX,c2,hf,c50,h26,kv,v2,gs,w0,w1]
   by_cases c3:(q.length:Int)<50+(eZ q:Int)+(s:Int)
   ·have hr:cR q=(eS,[],[],2):=by
     unfold cR
     rw[decide_eq_false c1,c2,hs,decide_eq_true c3]
     rfl
    have fin:∀L,K (.cA [cO eS,.raw (.slice none 0 0),.raw (.slice none 0 0),.raw (it 2)]) (rows++L):=fun L=>h _ _ ⟨L,_,_,rfl,by rw[hr],by rw[hr];exact .inl ⟨rfl,rfl⟩,by rw[hr];exact .inl ⟨rfl,rfl⟩⟩
    have PC:((q.length:Int)<((50+(eZ q+s):Nat):Int))=True:=eq_true (by omega)
    simp only[↓aj,ak,simprocAttr,aa,aX,PC,hf]
    exact fin _
   ·have hr:cR q=((cZ (q.take 48)).1,(q.drop 50).take (eZ q),(q.drop (50+eZ q)).take s,0):=by
     unfold cR
     rw[decide_eq_false c1,c2,hs,decide_eq_false c3]
     rfl
    have fin:∀L d1 d2,iK L8 d1 (rows++L) (bs ((q.drop 50).take (eZ q)))→iK L8 d2 (rows++L) (bs ((q.drop (50+eZ q)).take s))→K (.cA [cO (cZ (q.take 48)).1,d1,d2,.raw (it 0)]) (rows++L):=fun L d1 d2 k1 k2=>h _ _ ⟨L,_,_,rfl,by rw[hr],by rw[hr];exact k1,by rw[hr];exact k2⟩
    have PC:((q.length:Int)<((50+(eZ q+s):Nat):Int))=False:=eq_false (by omega)
    have d0:(0:Int)≤((50+eZ q:Nat):Int):=by omega
    have d1:((50+eZ q:Nat):Int)≤(q.length:Int):=by omega
    have l1:((q.drop 50).take (eZ q)).length=eZ q:=by rw[List.length_take,List.length_drop];omega
    have l2:((q.drop (50+eZ q)).take s).length=s:=by rw[List.length_take,List.length_drop];omega
    have kc1:=fun L e k=>kCutI (rows++L) k (.sl L8 r [] 50 (q.length-50) e) (q.drop 50) (eZ q) (by
     have:=bc.sub (off:=50) (len:=q.length-50) (ex:=e) (aA hl L) (by omega)
     rwa [List.take_of_length_le (by rw[List.length_drop];omega)]at this) (by rw[List.length_drop];omega) (by rw[List.length_take,List.length_drop];omega)
    have kc2:=fun L e k=>kCutI (rows++L) k (.sl L8 r [] (50+eZ q) (q.length-(50+eZ q)) e) (q.drop (50+eZ q)) s (by
     have:=bc.sub (off:=50+eZ q) (len:=q.length-(50+eZ q)) (ex:=e) (aA hl L) (by omega)
     rwa [List.take_of_length_le (by rw[List.length_drop];omega)]at this) (by rw[List.length_drop];omega) (by rw[List.length_take,List.length_drop];omega)
    simp only[Int.toNat_natCast,l1]at kc1
    simp only[Int.toNat_natCast,l2]at kc2
    simp only[↓aj,ak,simprocAttr,aa,aX,PC,hf,c50,h6,kc1,w0,d0,d1,gs]
    simp only[↓aj,ak,simprocAttr,aa,aX,hf,gs,d0,d1,h6,kc2]
    refine fin _ _ _ ?_ ?_
    ·exact aan (by rw[cD];rfl) l1.symm
    ·exact aan (by rw[cD];rfl) l2.symm
  ·have hr:cR q=(eS,[],[],(cZ (q.take 48)).2):=by
    unfold cR
    rw[decide_eq_false c1,decide_eq_true c2]
    rfl
   have fin:∀L,K (.cA [cO eS,.raw (.slice none 0 0),.raw (.slice none 0 0),.raw (it (cZ (q.take 48)).2)]) (rows++L):=fun L=>h _ _ ⟨L,_,_,rfl,by rw[hr],by rw[hr];exact .inl ⟨rfl,rfl⟩,by rw[hr];exact .inl ⟨rfl,rfl⟩⟩
   simp only[↓aj,ak,simprocAttr,aa,aX,c2,hf]
   exact fin _
theorem YG(m:xQ)(sig p:List (BitVec 8))(hm:m.dg.length=32)(hi:pI m sig p=true):cR (j3 m sig p)=(m,sig,p,0):=by
 have hi':=hi
 unfold pI at hi'
 simp only[Bool.and_eq_true,decide_eq_true_eq]at hi'
 obtain⟨hk,hs,hg⟩:=hi'
 have b48:=pH m hm
 have t48:(j3 m sig p).take 48=cB m:=by unfold j3;rw[←b48,List.take_left]
 have d48:(j3 m sig p).drop 48=n2I sig.length++(sig++p):=by unfold j3;rw[←b48,List.drop_left]
 have d50:(j3 m sig p).drop 50=sig++p:=by
  rw[show(50:Nat)=48+2 from rfl,←List.drop_drop,d48];rfl
 have g48:(j3 m sig p).getD 48 0#8=BitVec.ofNat 8 (sig.length/256):=by
  rw[List.getD_eq_getElem?_getD,show(48:Nat)=48+0 from rfl,←List.getElem?_drop,d48];rfl
 have g49:(j3 m sig p).getD 49 0#8=BitVec.ofNat 8 sig.length:=by
  rw[List.getD_eq_getElem?_getD,show(49:Nat)=48+1 from rfl,←List.getElem?_drop,d48];rfl
 have hN:eZ (j3 m sig p)=sig.length:=by
  unfold eZ
  rw[g48,g49]
  simp only[BitVec.toNat_ofNat]
  omega
 have hL:(j3 m sig p).length=50+sig.length+p.length:=by
  unfold j3 n2I
  simp only[List.length_append,List.length_cons,List.length_nil,b48]
  omega
 have d2:(j3 m sig p).drop (50+sig.length)=p:=by rw[←List.drop_drop,d50,List.drop_left]
 unfold cR
 rw[t48,PA m hm hk,hN,hL,d50,d2]
 rw[decide_eq_false (by omega)]
 simp only[cond_false,ne_eq,not_true_eq_false,decide_false]
 rw[decide_eq_false (by omega)]
 simp only[cond_false]
 rw[←hs,Int.toNat_natCast,List.take_left,List.take_length]
theorem YH(q:List (BitVec 8)):(cR q).2.1.length≤q.length∧(cR q).2.2.1.length≤q.length:=by
 unfold cR
 cases decide (q.length<50)
 ·cases decide ((cZ (q.take 48)).2≠0)
  ·cases decide ((q.length:Int)<50+eZ q+(cZ (q.take 48)).1.s)
   ·simp only[cond_false,List.length_take,List.length_drop];omega
   ·simp
  ·simp
 ·simp
def Gw(bH:List (BitVec 8))(least:Int)(q:List (BitVec 8)):Int:=
 if(cR q).2.2.2≠0 then(cR q).2.2.2 else if so bH (q.take 48) (cR q).2.1≠0 then so bH (q.take 48) (cR q).2.1 else
 if(cR q).1.v<least then 15 else if dU (cR q).2.2.1≠(cR q).1.dg then 16 else 0
theorem Rm(q:List (BitVec 8)):(cR q).1.dg.length=32:=by
 unfold cR
 cases decide (q.length<50)<;>cases decide ((cZ (q.take 48)).2≠0)<;>cases decide ((q.length:Int)<50+eZ q+(cZ (q.take 48)).1.s)<;>first|exact YC _|rfl
theorem Rn{q:List (BitVec 8)}(h:(cR q).2.2.2=0):50≤q.length:=by
 rcases Nat.lt_or_ge q.length 50 with c|c
 ·unfold cR at h
  rw[decide_eq_true c]at h
  cases h
 ·exact c
theorem M7(p:List (BitVec 8))(h:(cZ p).2=0):cL (cZ p).1=true:=by
 unfold cZ at h⊢
 cases h1:decide (p.length=48)<;>cases h2:decide (p.take 4=qU)<;>rw[h1,h2]at h<;>simp only[Bool.and_self,Bool.and_true,Bool.and_false,Bool.false_and,cond_false,cond_true]at h⊢<;>try (exact absurd h (by decide))
 cases h3:cL (qH p)<;>rw[h3]at h<;>simp only[cond_false,cond_true]at h⊢
 ·exact absurd h (by decide)
 ·exact h3
theorem BW{q:List (BitVec 8)}(h:(cR q).2.2.2=0):cL (cR q).1=true∧∃s:Nat,(cR q).1.s=(s:Int)∧4≤s∧s≤2048∧(cR q).2.2.1=sub q (50+eZ q) s∧50+eZ q+s≤q.length:=by
 unfold cR at h⊢
 cases h1:decide (q.length<50)<;>rw[h1]at h<;>simp only[cond_false,cond_true]at h⊢
 ·cases h2:decide ((cZ (q.take 48)).2≠0)<;>rw[h2]at h<;>simp only[cond_false,cond_true]at h⊢
  ·have hp:=M7 (q.take 48) (by simpa using h2)
   cases h3:decide ((q.length:Int)<50+eZ q+(cZ (q.take 48)).1.s)<;>rw[h3]at h<;>simp only[cond_false,cond_true]at h⊢
   ·obtain⟨v,s,e,hv,hs,he,b1,b2,b3,b4,-,-⟩:=wK hp
    rw[hs]at h3⊢
    simp only[decide_eq_false_iff_not]at h3
    refine⟨hp,s,rfl,?_,b2,by rw[Int.toNat_natCast,sub],by omega⟩
    simp only[cL,Bool.and_eq_true,decide_eq_true_eq]at hp
    omega
   ·exact absurd h (by decide)
  ·exact absurd h (by simpa using h2)
 ·exact absurd h (by decide)
theorem iK.PD{s s':Sh}{d:D}{rows:Rows}{els els':List D}{q:Nat}{x:Option Row}(h:iK s d rows els)(hq:live rows q=some ⟨s',els'⟩)(hs:s'≠s):iK s d (rows.set q x) els:=by
 rcases h with⟨h1,h2⟩|⟨r,ex,h1,h2⟩
 ·exact .inl ⟨h1,h2⟩
 ·refine .inr ⟨r,ex,h1,?_⟩
  rw[aE]
  ·exact h2
  ·rintro rfl
   rw[hq]at h2
   injection h2 with h2
   injection h2 with h2 _
   exact hs h2
theorem PE(C C1:be)(nR:C.fn 182=none)(rR:C.fU 182=some (aR C1 1 gA gz))(h13:C1.fn 201=some BV)(h30:C1.fn 73=some tx)
  (hV:C.fn 88=some Az)(hS:C.fn 95=some BI){rows:Rows}{r n:Nat}{ex:Bool}{q bH:List (BitVec 8)}{dp:D}{least:Int}(hl:live rows r=some ⟨L8,bs q⟩)(hn:n=q.length)(hq:q.length≤10000)(hp:∀L,bc (rows++L) dp bH)(sG:bH.length≤1000){K:D→Rows→Prop}
  (h0:Gw bH least q=0→∀ab d,eJ rows ab→iK L8 d ab (bs (cR q).2.2.1)→K (.cA [cO (cR q).1,d,.raw (it 0)]) ab)
  (h1:Gw bH least q≠0→∀ab,eJ rows ab→K (.cA [cO eS,.raw (.slice none 0 0),.raw (it (Gw bH least q))]) ab):
  aR C 3 ij ii [dp,.raw (it least),.sl L8 r [] 0 n ex] rows K:=by
 subst hn
 refine ag rfl ?_
 unfold ii ij
 simp only[-List.reduceReplicate,vV]
 simp only[-List.reduceReplicate,dW]
 have hzm:D.agg SM [.raw (it 0),.raw (it 0),.raw (it 0),.agg (.ar 32 L8) (bs ug)]=cO eS:=rfl
 have hf:=fA
 simp only[↓aj,ak,simprocAttr,aa,aX,nR,rR]
 refine YF C1 (aA hl _) rfl (by omega) h13 h30 ?_
 rintro _ R1 ⟨L,d1,d2,rfl,rfl,hO1,hO2⟩
 have Vd:eJ rows (rows++[some ⟨SM,[cO eS]⟩]++L):=(eJ.app _ _).trans (eJ.app _ _)
 have hpL:∀L',bc (rows++[some ⟨SM,[cO eS]⟩]++L++L') dp bH:=fun L'=>by rw[List.append_assoc,List.append_assoc];exact hp _
 have I3:live (rows++[some ⟨SM,[cO eS]⟩]++L) rows.length=some ⟨SM,[cO eS]⟩:=aA (by rw[b6];rfl) _
 generalize rows++[some ⟨SM,[cO eS]⟩]++L=R at*
 have wx:=Vd _ _ hl
 have qj:=fun L'=>aA I3 L'
 have yT:=Rm q
 obtain⟨hs1,tJ⟩:=YH q
 have hlen:=@Rn q
 have gv:∀m,(cO m).get [0]=some (.raw (it m.v)):=fun _=>rfl
 have gd:∀m,(cO m).get [3]=some (.agg (.ar 32 L8) (bs m.dg)):=fun _=>rfl
 unfold Gw at h0 h1
 generalize hR:cR q=I at*
 obtain⟨m,sg,p,E⟩:=I
 simp only at h0 h1 hO1 hO2 yT hs1 tJ hlen
 have nt2:=hO2.mI
 have pX:∀L' x,live ((R++L').set rows.length (some x)) rows.length=some x:=fun L' x=>aG (qj L')
 have fin:∀L',eJ rows ((R++L').set rows.length (some ⟨SM,[cO eS]⟩)):=fun L'=>(Vd.trans (eJ.app R L')).set (Nat.le_refl _) _
 by_cases c1:E=0
 ·subst c1
  have hq50:=hlen rfl
  have e48:((48:Int)≤((q.length:Nat):Int))=True:=eq_true (by omega)
  simp only[ne_eq,not_true_eq_false,if_false]at h0 h1
  have kV:=fun L' oy k=>kVerify (R++L') k dp (.sl L8 r [] 0 48 oy) d1 bH (q.take 48) sg (hpL _) (by
   have:=bc.sub (rows:=R++L') (off:=0) (len:=48) (ex:=oy) (aA wx _) (by omega)
   rwa [List.drop_zero]at this) hO1.push.to (by omega) (by rw[List.length_take];omega) (by omega)
  generalize hVe:so bH (q.take 48) sg=V at*
  by_cases c2:V=0
  ·subst c2
   simp only[not_true_eq_false,if_false]at h0 h1
   by_cases c3:m.v<least
   ·have PC:(m.v<least)=True:=eq_true c3
    rw[if_pos c3]at h0 h1
    simp only[↓aj,ak,simprocAttr,aa,aX,hf,hV,kV,e48,PC,gv,hzm,nt2,qj,pX]
    exact h1 (by decide) _ (fin _)
   ·have PC:(m.v<least)=False:=eq_false c3
    rw[if_neg c3]at h0 h1
    simp only[↓aj,ak,simprocAttr,aa,aX,hf,hV,kV,e48,PC,gv,gd,hzm,nt2,hS,qj,pX,Is hO2]
    refine Eq.mpr (O2 _ _ _ _ _ _ [p] (by rw[cD];rfl) rfl (.cons hO2.push.to .nil) (by simp) (by simp;omega)) ?_
    have hsum:(dU [p].flatten)=dU p:=by simp
    rw[hsum]
    have hq:=JZ (dU p) m.dg (dh p) yT
    by_cases c4:dU p=m.dg
    ·rw[decide_eq_true c4]at hq
     simp only[c4,not_true_eq_false,if_false]at h0 h1
     simp only[↓aj,ak,simprocAttr,aa,aX,hf,gd,hq,nt2,qj,pX]
     exact h0 trivial _ d2 ((Vd.trans (eJ.app _ _)).set (Nat.le_refl _) _) (iK.PD hO2.push (qj _) (by decide))
    ·rw[decide_eq_false c4]at hq
     rw[if_pos c4]at h0 h1
     simp only[↓aj,ak,simprocAttr,aa,aX,hf,gd,hq,nt2,qj,pX,hzm]
     exact h1 (by decide) _ (fin _)
  ·have Z9:(V=0)=False:=eq_false c2
   rw[if_pos c2]at h0 h1
   simp only[↓aj,ak,simprocAttr,aa,aX,hf,hV,kV,e48,Z9,hzm,qj,pX]
   exact h1 c2 _ (fin _)
 ·have T7:(E=0)=False:=eq_false c1
  rw[if_pos c1]at h0 h1
  simp only[↓aj,ak,simprocAttr,aa,aX,hf,T7,hzm,qj,pX]
  exact h1 c1 _ (fin _)
abbrev SVw:Sh:= .cons LI (.cons SM (.cons .ref .nil))
def yM(e:Int)(m:xQ)(p:D):D:= .agg SVw [.raw (it e),cO m,p]
def gT(x bH:List (BitVec 8))(least:Int)(i:Nat):Int:=Gw bH least (sub x (4096*i) 4096)
def gq(x:List (BitVec 8))(i:Nat):xQ×List (BitVec 8)×List (BitVec 8)×Int:=cR (sub x (4096*i) 4096)
def Uk(x bH:List (BitVec 8))(least:Int)(i:Nat):D×Rows:=
 if gT x bH least i=0 then(yM 0 (gq x i).1 (.sl L8 0 [] 0 (gq x i).2.2.1.length false),[some ⟨L8,bs (gq x i).2.2.1⟩])else(yM (gT x bH least i) eS (.raw (.slice none 0 0)),[])
noncomputable def M8:Fn:=Xu (b8 yJ) dN rC rC (fun K p _ i=>decide (mc K=10240)&&decide (p.length≤1000)&&(decide (i=0)||decide (i=1))) fun K p l i=>Uk (nG K) p l i.toNat
theorem look_ok(C C1 C2:be)(hC:aI C P)(jO:C.fn 130=some Au)(hrd:C.fn 23=some vT)(n0:C.fn 131=none)(r0:C.fU 131=some (aR C1 3 ij ii))
  (nR:C1.fn 182=none)(rR:C1.fU 182=some (aR C2 1 gA gz))(h13:C2.fn 201=some BV)(h30:C2.fn 73=some tx)(hV:C1.fn 88=some Az)(hS:C1.fn 95=some BI):
  aO C.aZ P 68 (Fn.run M8):=by
 refine cr (He C hC) fun ds rows r h=>?_
 obtain⟨d0,d1,d2,d3,K,bH,least,i,rfl,rfl,hd,he,hf,hg,hp,rfl⟩:=sc h
 cases aF hd
 obtain⟨ex,hx⟩:=cy he
 cases bX hf
 cases bX hg
 simp only[Bool.and_eq_true,Bool.or_eq_true,decide_eq_true_eq]at hp
 obtain⟨⟨hl,sO⟩,hi⟩:=hp
 refine⟨rfl,_,.cons (.refl _) (.cons hx (.cons (.refl _) (.cons (.refl _) .nil))),ag rfl ?_⟩
 clear h hd he hf hg hx
 unfold xv xy
 obtain⟨j,rfl,hj⟩:∃j:Nat,i=(j:Int)∧j≤1:=⟨i.toNat,by omega,by omega⟩
 rcases K with _|⟨x,ek⟩
 ·simp[mc]at hl
 simp only[mc]at hl
 simp only[-List.reduceReplicate,vV]
 have hsb:iE (j:Int)=true:=by unfold iE;rcases(by omega:j=0∨j=1)with rfl|rfl<;>rfl
 have ks:=fun rows k=>XF rows k (j:Int)
 rw[hsb]at ks
 have e1:wz (4096*(j:Int))=((4096*j:Nat):Int):=by rw[bf (by omega)];omega
 have e0:ky (some (x,ek)) ((4096*j:Nat):Int) 4096=0:=by simp only[ky];rw[if_neg (by omega)]
 have kr:=fun rows k=>Yi (Kh rows (some (x,ek))) (by simp[mc];omega) ((4096*j:Nat):Int) 4096 k
 simp only[Gn,if_pos e0,nG,Int.toNat_natCast,shift,bh,ae,Sh.pure,cond_true,show(4096:Int).toNat=4096 from rfl]at kr
 simp only[Int.toNat_natCast,nG]
 have hq:(sub x (4096*j) 4096).length=4096:=j9 (by omega)
 have hf:=fA
 have hvz:D.agg SVw [.raw (it 0),cO eS,.raw (.slice none 0 0)]=yM 0 eS (.raw (.slice none 0 0)):=rfl
 have hvf:∀e m d,d.fits .ref=true→(yM e m d).fits SVw=true:=fun _ _ _ _=>rfl
 have hO0:Gw bH least (sub x (4096*j) 4096)=0→Uk x bH least j=(yM 0 (cR (sub x (4096*j) 4096)).1 (.sl L8 0 [] 0 (cR (sub x (4096*j) 4096)).2.2.1.length false),[some ⟨L8,bs (cR (sub x (4096*j) 4096)).2.2.1⟩]):=fun h=>if_pos h
 have hO1:Gw bH least (sub x (4096*j) 4096)≠0→Uk x bH least j=(yM (Gw bH least (sub x (4096*j) 4096)) eS (.raw (.slice none 0 0)),[]):=fun h=>if_neg h
 generalize Uk x bH least j=O at*
 simp only[yJ]at kr⊢
 generalize sub x (4096*j) 4096=q at*
 simp only[↓aj,ak,simprocAttr,aa,aX,jO,ks,e1,hrd,kr,n0,r0]
 refine PE C1 C2 nR rR h13 h30 hV hS (q:=q) rfl hq.symm (by omega) (fun L=>ec.to (.inr ⟨ex,rfl⟩)) sO (fun hz ab d hK hO=>?_) (fun hz ab hK=>?_)
 ·rw[hO0 hz]
  obtain⟨hr1,s,hs1,tJ,Z0,hs4,hs5⟩:=BW (q:=q) (by
   unfold Gw at hz
   split at hz
   ·rename_i h;exact absurd hz h
   ·rename_i h;simpa using h)
  have hpl2:(cR q).2.2.1.length=s:=by rw[hs4];exact j9 hs5
  have I3:=hK 0 _ rfl
  generalize (cR q).2.2.1=p at*
  generalize (cR q).1=m at*
  have hnt:=hO.mI
  have hof:=Is hO
  have qj:=fun L=>aA I3 L
  have pX:=fun L x=>aG (y:=x) (qj L)
  simp only[↓aj,ak,simprocAttr,aa,aX,hf,qj,pX,hnt,hof,yM]
  rcases iK.PD (q:=0) (x:=some ⟨SVw,[.agg SVw [.raw (it 0),cO m,d]]⟩) (hO.push (more:=[some ⟨SM,[cO m]⟩])) (qj _) (by decide)with⟨h1,rfl⟩|⟨r,oy,rfl,Dj⟩
  ·have:p.length=0:=by rw[←aC,h1];rfl
   omega
  ·simp only[aC]at Dj⊢
   exact .ownA _ [_,_] _ _ _ _ _ _ _ [] Dj rfl rfl rfl (fun h=>by cases h)
 ·rw[hO1 hz]
  have I3:=hK 0 _ rfl
  have qj:=fun L=>aA I3 L
  have pX:=fun L x=>aG (y:=x) (qj L)
  simp only[↓aj,ak,simprocAttr,aa,aX,hf,qj,pX,yM]
  exact .val _ rfl
def Ro(p:List (BitVec 8)):JS:=⟨cY (p.drop 4),(p.getD 8 0#8).toNat,((p.getD 9 0#8).toNat:Int)-1,(p.getD 10 0#8).toNat⟩
def Gx:JS:=⟨0#32,0,0,0⟩
def b7(p:List (BitVec 8)):JS×Bool:=
 bif decide (p.length=32)&&(bK (Ro p)&&decide (cU (Ro p)=p))then(Ro p,true)else(Gx,false)
noncomputable def Ej:Fn:=lE dN (fun p=>Nat.ble p.length most) fun p=>(.cA [jD (b7 p).1,.raw (.bool (b7 p).2)],[])
set_option maxHeartbeats 1000000 in
theorem Ul(C:be)(hC:aI C P)(hb:C.fn 60=some qD)(he:C.fn 94=some F5):aO C.aZ P 119 (Fn.run Ej):=by
 refine cr (Dy C hC) fun ds rows r h=>?_
 obtain⟨d,p,rfl,rfl,hd,hp,rfl⟩:=a8 h
 obtain⟨x,hx⟩:=cy hd
 refine⟨rfl,_,.cons hx .nil,ag rfl ?_⟩
 simp only[Nat.ble_eq]at hp
 unfold most at hp
 clear h hx hd
 unfold tV tW
 have hz:D.agg SJ [.raw (u32 0#32),.raw (it 0),.raw (it 0),.raw (it 0)]=jD Gx:=rfl
 by_cases hl:p.length=32
 ·have g:∀i,i<32→(bs p)[i]?=some (.raw (u8 (p.getD i 0#8))):=fun i hi=>mJ (by omega)
  have hn:(p.getD 4 0#8).setWidth 32<<<24|||(p.getD 5 0#8).setWidth 32<<<16|||(p.getD 6 0#8).setWidth 32<<<8|||(p.getD 7 0#8).setWidth 32=cY (p.drop 4):=by
   rw[Io];rfl
  have w:wz (((p.getD 9 0#8).toNat:Int)-1)=((p.getD 9 0#8).toNat:Int)-1:=by
   have:=(p.getD 9 0#8).isLt
   rw[bf (by omega)]
  have hof:∀q:BitVec 32,q=cY (p.drop 4)→D.agg SJ [.raw (u32 q),.raw (it ((p.getD 8 0#8).toNat:Int)),.raw (it (((p.getD 9 0#8).toNat:Int)-1)),.raw (it ((p.getD 10 0#8).toNat:Int))]=jD (Ro p):=fun q hq=>by rw[hq];rfl
  have hof':=hof _ hn
  simp only[↓aj,ak,simprocAttr,aa,aC,hl,g 4 (by omega),g 5 (by omega),g 6 (by omega),g 7 (by omega),g 8 (by omega),g 9 (by omega),g 10 (by omega),w,hn,hz,hof _ rfl,cw,hb]
  cases hk:bK (Ro p)
  ·have hq:b7 p=(Gx,false):=by rw[b7,hk];simp
   have kb:=fun rows k=>kBytesN rows k (Ro p) hk
   have ke:=fun rows k=>Pa rows k (.raw (.slice none 0 0)) (.cF L8 (bs p) x) [] p (ec.to (.inl ⟨rfl,rfl⟩)) (ec.to (.inr ⟨x,rfl⟩)) (by simp) hp
   have hne:decide (([]:List (BitVec 8))=p)=false:=decide_eq_false (by intro h;rw[←h]at hl;cases hl)
   rw[hne]at ke
   rw[hq]
   simp only[↓aj,ak,simprocAttr,aa,kb,he,ke,hz,cw]
   exact .val _ rfl
  ·have kb:=fun rows k=>QP rows k (Ro p) hk
   simp only[↓aj,ak,simprocAttr,aa,kb,he]
   refine Eq.mpr (Pa _ _ _ _ (cU (Ro p)) p (bc.own rfl _ (eY _).symm) (ec.to (.inr ⟨x,rfl⟩)) (by rw[eY];omega) hp) ?_
   by_cases N5:cU (Ro p)=p
   ·have hq:b7 p=(Ro p,true):=by rw[b7,hk,hl,decide_eq_true N5];simp
    rw[hq,decide_eq_true N5]
    simp only[↓aj,ak,simprocAttr,aa,cw]
    exact .val _ rfl
   ·have hq:b7 p=(Gx,false):=by rw[b7,decide_eq_false N5];simp
    rw[hq,decide_eq_false N5]
    simp only[↓aj,ak,simprocAttr,aa,hz,cw]
    exact .val _ rfl
 ·have wx:((p.length:Int)=32)=False:=eq_false (by omega)
  have hq:b7 p=(Gx,false):=by rw[b7,decide_eq_false hl];rfl
  rw[hq]
  simp only[↓aj,ak,simprocAttr,aa,aC,wx,hz,cw]
  exact .val _ rfl
theorem kParseJ(rows:Rows)(k:D→Rows→Prop)(d:D)(p:List (BitVec 8))(h:bc rows d p)(hp:p.length≤1099511627776):aJ Ej rows k [d]=k (.cA [jD (b7 p).1,.raw (.bool (b7 p).2)]) rows:=by
 refine(rE h (by simpa[most]using hp) ?_).trans ?_
 ·simp[jD,bZ,fI,aS,Sh.pure]
 ·simp[shift,bh,F6,ae]
def eE:JS:=⟨0#32,0,-1,0⟩
noncomputable def BX:Fn
 |[],[]=>some (jD eE,[])
 | _,_=>none
theorem YJ(C:be)(hC:aI C P):aO C.aZ P 118 (Fn.run BX):=by
 refine aH (Dx C hC) fun ds rows r h=>?_
 unfold BX at h
 split at h
 ·cases h
  refine⟨rfl,ag rfl ?_⟩
  unfold tT tU
  simp only[↓aj,ak,simprocAttr,aa]
  exact .val _ rfl
 ·cases h
theorem YK(rows:Rows)(k:D→Rows→Prop):aJ BX rows k []=k (jD eE) rows:=by
 refine(bi rfl (r:=(jD eE,[])) rfl).trans ?_
 simp[F6,ae]
def AK(K:FV)(i:Nat)(s:JS×Int):JS×Int:=
 if ky K ((256*i:Nat):Int) 32=0 then
  (bif (b7 (sub (nG K) (256*i) 32)).2&&(decide (s.2=-1)||decide (s.1.q<(b7 (sub (nG K) (256*i) 32)).1.q))then((b7 (sub (nG K) (256*i) 32)).1,(i:Int))else s)
 else s
def dJ(K:FV):JS×Int:=AK K 33 (AK K 32 (eE,-1))
noncomputable def yN:Fn:=lE (b8 yJ) (fun K=>decide (mc K≤1048576)) fun K=>(.cA [jD (dJ K).1,.raw (it (dJ K).2)],[])
def Y3(K:FV):Nat→JS×Int
 |0=>(eE,-1)
 |1=>AK K 32 (eE,-1)
 | _=>dJ K
theorem YL(x y:BitVec 32)(k:D→Prop):bE .gtr (u32 x) (u32 y) k=k (.raw (.bool (decide (y<x)))):=by
 have:(x.toNat:Int)>(y.toNat:Int)↔y<x:=by rw[BitVec.lt_def];omega
 simp only[bE,u32]
 by_cases h:y<x
 ·have:=this.2 h
  simp[h,BitVec.lt_def.1 h]
 ·have h2:¬y.toNat<x.toNat:=fun e=>h (BitVec.lt_def.2 e)
  simp[h,h2]
set_option maxHeartbeats 2000000 in
theorem YM(C:be)(hC:aI C P)(hf:C.fn 118=some BX)(hr:C.fn 23=some vT)(hp:C.fn 119=some Ej):aO C.aZ P 58 (Fn.run yN):=by
 refine aH (Fl C hC) fun ds rows r h=>?_
 obtain⟨d,K,rfl,rfl,hd,hp',rfl⟩:=a8 h
 cases aF hd
 simp only[decide_eq_true_eq]at hp'
 refine⟨rfl,ag rfl ?_⟩
 clear h hd
 unfold vl vn
 have hz:D.agg SJ [.raw (u32 0#32),.raw (it 0),.raw (it 0),.raw (it 0)]=jD Gx:=rfl
 have hg:∀rs,MQ rs (yJ K) K:=fun rs=>Kh rs K
 have kr:=fun rows (i:Nat) k=>Yi (hg rows) hp' ((256*i:Nat):Int) 32 k
 generalize hkk:yJ K=kk at kr⊢
 simp only[↓aj,ak,simprocAttr,aa,aX,hz,cw,hf,YK]
 refine bB 2 (fun i env rows=>has env [(6,.raw (it ((32+i:Nat):Int))),(5,.raw (it (Y3 K i).2)),(4,.ptr SJ 1 [0]),(2,.ptr SJ 0 [0]),(0,kk)]∧live rows 1=some ⟨SJ,[jD (Y3 K i).1]⟩∧∃x,live rows 0=some ⟨SJ,[x]⟩) ?_ ?_ ?_
 ·rintro i hi env rows ⟨hh,r1,⟨x0,r0⟩⟩ R hR
  simp only[has]at hh
  have e0:(((32+i:Nat):Int)<34)=True:=eq_true (by omega)
  have e1:wz (256*((32+i:Nat):Int))=((256*(32+i):Nat):Int):=by rw[bf (by omega)];omega
  have e2:wz (((32+i:Nat):Int)+1)=((32+(i+1):Nat):Int):=by rw[bf (by omega)];omega
  have hs:Y3 K (i+1)=AK K (32+i) (Y3 K i):=by
   have:i=0∨i=1:=by omega
   rcases this with rfl|rfl<;>rfl
  have fin:∀env' ab,(has env' [(6,.raw (it ((32+(i+1):Nat):Int))),(5,.raw (it (Y3 K (i+1)).2)),(4,.ptr SJ 1 [0]),(2,.ptr SJ 0 [0]),(0,kk)]∧live ab 1=some ⟨SJ,[jD (Y3 K (i+1)).1]⟩∧∃x,live ab 0=some ⟨SJ,[x]⟩)→R env' ab:=fun env' ab h=>hR env' ab h
  rw[hs]at fin
  have Y4:=kr rows (32+i)
  by_cases c:ky K ((256*(32+i):Nat):Int) 32=0
  ·rw [Gn, if_pos c] at Y4
   have jO:(sub (nG K) (256*(32+i)) 32).length=32:=by
    rcases K with _|⟨x,ex⟩
    ·cases c
    ·obtain⟨b1,b2,b3,b4⟩:=Kg c
     exact j9 (x:=x) (by omega)
   have e32:(32:Int).toNat=32:=rfl
   simp only[Int.toNat_natCast,e32,shift,bh,ae,List.map_cons,List.map_nil,Sh.pure,cond_true,Nat.zero_add]at Y4
   simp only[AK,if_pos c]at fin
   generalize sub (nG K) (256*(32+i)) 32=p at Y4 fin jO
   generalize Y3 K i=st at hh r1 fin
   have kp:=fun k=>kParseJ (rows++[some ⟨L8,bs p⟩]) k (.sl L8 rows.length [] 0 32 false) p (bc.own (by rw[b6];rfl) _ jO.symm) (by omega)
   generalize b7 p=qk at kp fin
   obtain⟨q,ok⟩:=qk
   obtain⟨s1,at1⟩:=st
   simp only at hh r1 fin kp
   have f1:=fun l=>aA r1 l
   have f0:=fun l=>aA r0 l
   have hw:∀rs,live rs 1=some ⟨SJ,[jD s1]⟩→live (rs.set 1 (some ⟨SJ,[jD q]⟩)) 1=some ⟨SJ,[jD q]⟩:=fun rs h=>aG h
   have hw0:∀rs,live rs 0=some ⟨SJ,[x0]⟩→live (rs.set 1 (some ⟨SJ,[jD q]⟩)) 0=some ⟨SJ,[x0]⟩:=fun rs h=>cK h (by decide)
   cases ok
   ·simp only[Bool.false_and,cond_false]at fin
    simp only[↓aj,ak,simprocAttr,aa,aX,hh,e0,e1,e2,hr,Y4,hp,kp,cw,f1]
    exact fin _ _ ⟨by simp only[has,↓aj,ak,simprocAttr,aa,hh],f1 _,_,f0 _⟩
   ·simp only[Bool.true_and]at fin
    by_cases c2:at1=-1
    ·have c3:(at1=-1)=True:=eq_true c2
     simp only[c3,decide_true,Bool.true_or,cond_true]at fin
     simp only[↓aj,ak,simprocAttr,aa,aX,hh,e0,e1,e2,hr,Y4,hp,kp,cw,f1,c3]
     exact fin _ _ ⟨by simp only[has,↓aj,ak,simprocAttr,aa,hh],hw _ (f1 _),_,hw0 _ (f0 _)⟩
    ·have c3:(at1=-1)=False:=eq_false c2
     by_cases c4:s1.q<q.q
     ·have c5:(s1.q<q.q)=True:=eq_true c4
      simp only[c3,c5,decide_true,decide_false,Bool.false_or,cond_true]at fin
      simp only[↓aj,ak,simprocAttr,aa,aX,hh,e0,e1,e2,hr,Y4,hp,kp,cw,f1,c3,F7,YL,c5,decide_true]
      exact fin _ _ ⟨by simp only[has,↓aj,ak,simprocAttr,aa,hh],hw _ (f1 _),_,hw0 _ (f0 _)⟩
     ·have c5:(s1.q<q.q)=False:=eq_false c4
      simp only[c3,c5,decide_false,Bool.false_or,cond_false]at fin
      simp only[↓aj,ak,simprocAttr,aa,aX,hh,e0,e1,e2,hr,Y4,hp,kp,cw,f1,c3,F7,YL,c5,decide_false]
      exact fin _ _ ⟨by simp only[has,↓aj,ak,simprocAttr,aa,hh],f1 _,_,f0 _⟩
  ·rw[Gn,if_neg c]at Y4
   have c1:(ky K ((256*(32+i):Nat):Int) 32=0)=False:=eq_false c
   simp only[shift,bh,ae]at Y4
   simp only[AK,if_neg c]at fin
   generalize Y3 K i=st at hh r1 fin
   simp only[↓aj,ak,simprocAttr,aa,aX,hh,e0,e1,e2,hr,Y4,c1]
   exact fin _ _ ⟨by simp only[has,↓aj,ak,simprocAttr,aa,hh],r1,_,r0⟩
 ·rintro env rows ⟨hh,r1,⟨x0,r0⟩⟩ R
  simp only[has]at hh
  have YN:Y3 K 2=dJ K:=rfl
  rw[YN]at hh r1
  have e5:live (rows.set 0 (some ⟨SJ,[jD (dJ K).1]⟩)) 0=some ⟨SJ,[jD (dJ K).1]⟩:=aG r0
  simp only[↓aj,ak,simprocAttr,aa,aX,hh,r1,r0,cw,e5]
  exact .val _ rfl
 ·have:Y3 K 0=(eE,-1):=rfl
  rw[this]
  exact⟨by simp only[has,↓aj,ak,simprocAttr,aa],rfl,_,rfl⟩
theorem kReadJ{rows:Rows}{d:D}{K:FV}(h:MQ rows d K)(hl:mc K≤1048576)(k:D→Rows→Prop):aJ yN rows k [d]=k (.cA [jD (dJ K).1,.raw (it (dJ K).2)]) rows:=by
 refine(AF h (vs:=[]) rfl rfl (r:=(.cA [jD (dJ K).1,.raw (it (dJ K).2)],[])) ?_ (by simp[jD,bZ,fI,aS,Sh.pure]) k).trans ?_
 ·simp only[yN,Xa,bV wI,Option.bind_some,hl,decide_true,cond_true]
 ·simp[shift,bh,F6,ae]
def Um(x:List (BitVec 8)):JS×Int:=
 if x.length<8704 then(eE,-1)else
 bif (b7 (sub x 8192 32)).2&&(!(b7 (sub x 8448 32)).2||decide ((b7 (sub x 8448 32)).1.q≤(b7 (sub x 8192 32)).1.q))then((b7 (sub x 8192 32)).1,32)else
 bif (b7 (sub x 8448 32)).2 then((b7 (sub x 8448 32)).1,33)else(eE,-1)
theorem vW(x:List (BitVec 8))(e:Bool)(h:8704≤x.length):dJ (some (x,e))=Um x:=by
 have w1:ky (some (x,e)) ((256*32:Nat):Int) 32=0:=by simp only[ky];rw[if_neg (by omega)]
 have w2:ky (some (x,e)) ((256*33:Nat):Int) 32=0:=by simp only[ky];rw[if_neg (by omega)]
 unfold dJ AK Um
 rw[if_pos w1,if_pos w2,if_neg (by omega)]
 show(bif (b7 (sub x 8448 32)).2&&(decide ((bif (b7 (sub x 8192 32)).2&&(decide ((-1:Int)=-1)||decide (eE.q<(b7 (sub x 8192 32)).1.q))then((b7 (sub x 8192 32)).1,(32:Int))else(eE,-1)).2=-1)||decide ((bif (b7 (sub x 8192 32)).2&&(decide ((-1:Int)=-1)||decide (eE.q<(b7 (sub x 8192 32)).1.q))then((b7 (sub x 8192 32)).1,(32:Int))else(eE,-1)).1.q<(b7 (sub x 8448 32)).1.q))then((b7 (sub x 8448 32)).1,(33:Int))else bif (b7 (sub x 8192 32)).2&&(decide ((-1:Int)=-1)||decide (eE.q<(b7 (sub x 8192 32)).1.q))then((b7 (sub x 8192 32)).1,(32:Int))else(eE,-1))=_
 generalize b7 (sub x 8192 32)=A
 generalize b7 (sub x 8448 32)=B
 obtain⟨a,x1⟩:=A
 obtain⟨b,y1⟩:=B
 have hlt:decide (a.q<b.q)=!decide (b.q≤a.q):=by
  by_cases c:b.q≤a.q
  ·rw[decide_eq_true c,decide_eq_false (by rw[BitVec.lt_def];rw[BitVec.le_def]at c;omega)];rfl
  ·rw[decide_eq_false c,decide_eq_true (by rw[BitVec.lt_def];rw[BitVec.le_def]at c;omega)];rfl
 cases x1<;>cases y1<;>simp[hlt]<;>cases decide (b.q≤a.q)<;>simp
theorem Un{α β γ δ:Type}{rd:D→Option α}{rd':D→Option β}{DF:D→Option γ}{Z8:D→Option δ}{pre:α→β→γ→δ→Bool}{out:α→β→γ→δ→D×Rows}{rows:Rows}{d e f g:D}{a:α}{b:β}{c:γ}{z:δ}(h:bT rows rd d a)(h':bT rows rd' e b)(h2:bT rows DF f c)(h3:bT rows Z8 g z)(hp:pre a b c z=true)
  (hr:(bZ (out a b c z).1&&aS (out a b c z).2)=true)(k:D→Rows→Prop):
  aJ (fn4 rd rd' DF Z8 pre out) rows k [d,e,f,g]=k (shift rows.length (out a b c z).1) (rows++ae rows.length (out a b c z).2):=by
 obtain⟨⟨x,hx,hx'⟩,hn⟩:=h
 obtain⟨⟨y,hy,hy'⟩,hm⟩:=h'
 obtain⟨⟨u,hz,I5⟩,ho⟩:=h2
 obtain⟨⟨v,hw,hw'⟩,hq⟩:=h3
 refine rZ (ds':=[x,y,u,v]) (by simp only[cW,hx,hy,hz,hw]) (Yk hx' hy' I5 hw' hp) (fun hh=>?_) hr
 simp only[aN,Bool.or_eq_false_iff,and_true]at hh
 exact Yk (hn hh.1) (hm hh.2.1) (ho hh.2.2.1) (hq hh.2.2.2) hp
theorem bT.fl{rows:Rows}{r m:Nat}{x:List (BitVec 8)}(h:fG rows r m x):∃e,bT rows (b8 yJ) (.ptr SF r [0]) (some (x,e)):=by
 obtain⟨e,hv⟩:=h.view
 exact⟨e,⟨_,hv,bV wI _⟩,fun h=>by simp[aQ]at h⟩
theorem kAfterG{rows:Rows}{r m:Nat}{x:List (BitVec 8)}(h:fG rows r m x)(hx:x.length≤1048576)(i a:Int){d:D}{p:List (BitVec 8)}(hp:bc rows d p)(sO:p.length≤1048576)(h0:qT (some (x,false)) i a p=0)(k:D→Rows→Prop):
  aJ BS rows k [.ptr SF r [0],.raw (it i),.raw (it a),d]=k (.cA [.sl L8 rows.length [] 0 256 false,.raw (it 0)]) (rows++[some ⟨L8,bs (sx (some (x,false)) i a p)⟩]):=by
 obtain⟨e,hf⟩:=bT.fl h
 have hE:qT (some (x,e)) i a p=qT (some (x,false)) i a p:=rfl
 have hD:sx (some (x,e)) i a p=sx (some (x,false)) i a p:=rfl
 have ho:Hr (some (x,e)) i a p=(.cA [.sl L8 0 [] 0 256 false,.raw (it 0)],[some ⟨L8,bs (sx (some (x,false)) i a p)⟩]):=by
  rw[Hr,hE,if_pos h0,hD]
 refine(Un hf (.int i) (.int a) (.bs hp) (by simp[mc,hx,sO]) (by rw[ho];simp[bZ,fI,aS,Sh.pure]) k).trans ?_
 rw[ho]
 simp[shift,bh,ae,Sh.pure]
def eF:List (BitVec 8):=List.replicate 256 255#8
theorem YO:eF.length=256:=by rw[eF,List.length_replicate]
theorem ff_get(i:Nat)(h:i<256):eF.getD i 0#8=255#8:=Ys 256 i h
noncomputable def IK:Fn
 |[],[]=>some (.sl L8 0 [] 0 256 false,[some ⟨L8,bs eF⟩])
 | _,_=>none
theorem allf_ok(C:be)(hC:aI C P)(hr:C.fn 103=some oB):aO C.aZ P 57 (Fn.run IK):=by
 refine aH (Hd C hC) fun ds rows r h=>?_
 unfold IK at h
 split at h
 ·cases h
  refine⟨rfl,ag rfl ?_⟩
  unfold xq xu
  simp only[↓aj,ak,simprocAttr,aa,hr]
  refine Eq.mpr (Kf (b:=255#8) (bc.own (l:=[255#8]) rfl _ rfl) 256 (by omega) _) ?_
  rw[show List.replicate 256 255#8=eF from rfl]
  simp only[↓aj,ak,simprocAttr,aa]
  exact .own L8 _ 0 256 false false _ rfl rfl id
 ·cases h
theorem kAllF(rows:Rows)(k:D→Rows→Prop):aJ IK rows k []=k (.sl L8 (0+rows.length) [] 0 256 false) (rows++[some ⟨L8,bs eF⟩]):=by
 refine(bi rfl (r:=(.sl L8 0 [] 0 256 false,[some ⟨L8,bs eF⟩])) rfl).trans ?_
 simp only[shift,ae,Sh.pure,List.map_cons,List.map_nil,cond_true]
abbrev AL:Sh:= .cons L8 (.cons LI (.cons LI (.cons .ref (.cons LI (.cons dk .nil)))))
def opD(kind:BitVec 8)(page:Nat)(d:D):D:= .agg AL [.raw (u8 kind),.raw (it (page:Int)),.raw (it 0),d,.raw (it 0),.raw (u32 0#32)]
theorem op_g0(k:BitVec 8)(i:Nat)(d:D):(opD k i d).get [0]=some (.raw (u8 k)):=rfl
theorem op_g1(k:BitVec 8)(i:Nat)(d:D):(opD k i d).get [1]=some (.raw (it (i:Int))):=rfl
theorem op_g2(k:BitVec 8)(i:Nat)(d:D):(opD k i d).get [2]=some (.raw (it 0)):=rfl
theorem op_g3(k:BitVec 8)(i:Nat)(d:D):(opD k i d).get [3]=some d:=rfl
inductive KQ (rows:Rows) (m:Nat):BitVec 8→D→List (BitVec 8)→Prop where
 |er:KQ rows m 1#8 (.raw (.slice none 0 0)) []
 |wr (q:Nat) (p:List (BitVec 8)) (ex:Bool):live rows q=some ⟨L8,bs p⟩→0<p.length→p.length≤256→q≠m→KQ rows m 2#8 (.sl L8 q [] 0 p.length ex) p
theorem KQ.fits{rows:Rows}{m:Nat}{k:BitVec 8}{d:D}{p:List (BitVec 8)}(h:KQ rows m k d p)(i:Nat):(opD k i d).fits AL=true:=by
 cases h<;>rfl
theorem KQ.bs{rows:Rows}{m:Nat}{k:BitVec 8}{d:D}{p:List (BitVec 8)}(h:KQ rows m k d p)(L:Rows):bc (rows++L) d p:=by
 cases h with
 |er=>exact ec.to (.inl ⟨rfl,rfl⟩)
 |wr q p ex h1 h2 h3 h4=>exact bc.own (aA h1 L) _ rfl
theorem KQ.len{rows:Rows}{m:Nat}{k:BitVec 8}{d:D}{p:List (BitVec 8)}(h:KQ rows m k d p):p.length≤256:=by
 cases h with
 |er=>simp
 |wr q p ex h1 h2 h3 h4=>exact h3
def mo(x:List (BitVec 8))(i:Nat)(p w:List (BitVec 8)):List (BitVec 8):=Vb x i (sx (some (x,false)) i 0 p) w
theorem pJ(x:List (BitVec 8))(i:Nat)(p w:List (BitVec 8)):(mo x i p w).length=x.length:=Rb _ _ _ _
theorem Rp(x:List (BitVec 8))(i:Nat)(p:List (BitVec 8))(hp:p.length≤256)(hx:256*i+256≤x.length):(sx (some (x,false)) i 0 p).length=256:=by
 unfold sx
 split
 ·rw[List.length_replicate]
 ·have jO:(sub (nG (some (x,false))) (256*(i:Int).toNat) 256).length=256:=j9 (x:=x) (by omega)
  rw[show(0:Int).toNat=0 from rfl,iH _ _ _ (by omega),jO]
theorem tearB{rows:Rows}{r m q1 q2 n:Nat}{x w k:List (BitVec 8)}{Pj Jk:Bool}(h:fG rows r m x)(hx:x.length≤1048576)(Sw:live rows q1=some ⟨L8,bs w⟩)(hn:n=w.length)(N5:live rows q2=some ⟨L8,bs k⟩)(n1:m≠q1)(n2:m≠q2)(hw:w.length≤1048576)(Nz:k.length≤1048576)(i:Int)(hE:Yo x i=0){K:D→Rows→Prop}
  (hk:∀ab,Rc rows ab r m (Vb x i w k)→K (.raw (it 0)) ab):aR CF 4 cT cS [.ptr SF r [0],.raw (it i),.sl L8 q1 [] 0 n Pj,.sl L8 q2 [] 0 k.length Jk] rows K:=by
 subst hn
 refine tearA h hx Sw N5 n1 n2 hw Nz i fun ab U=>?_
 rw[hE]
 exact hk ab U
theorem Rc.of{rows L ab:Rows}{r m:Nat}{x:List (BitVec 8)}(h:Rc (rows++L) ab r m x):Rc rows ab r m x:=⟨h.fl,fun q row hq hn=>h.frame q row (aA hq L) hn⟩
set_option maxHeartbeats 1000000 in
theorem Uo(C:be){dc:D}{rows:Rows}{r m qm i:Nat}{ex:Bool}{kind:BitVec 8}{d:D}{x p w:List (BitVec 8)}(hF:fG rows r m x)(hx:x.length≤1048576)(hi:256*i+256≤x.length)(ho:KQ rows m kind d p)
  (hm:live rows qm=some ⟨L8,bs w⟩)(nm:m≠qm)(hw:w.length≤1048576)(h0:qT (some (x,false)) (i:Int) 0 p=0)
  (hA:C.fn 116=some BS)(nT:C.fn 117=none)(rT:C.fU 117=some (aR CF 4 cT cS)){K:D→Rows→Prop}
  (hk:∀ab,Rc rows ab r m (mo x i p w)→K (.raw (it 0)) ab):aR C 4 ig ie [.ptr SF r [0],dc,opD kind i d,.sl L8 qm [] 0 w.length ex] rows K:=by
 refine ag rfl ?_
 unfold ie ig
 have hE:Yo x (i:Int)=0:=by simp only[Yo,uC];rw[if_neg (by omega)]
 have hfit:=ho.fits i
 have hd:=Rp x i p ho.len hi
 have ka:=fun L k=>kAfterG (hF.push L) hx (i:Int) 0 (ho.bs L) (by have:=ho.len;omega) h0 k
 have lt:=hF.lt
 cases ho with
 |er=>
  simp only[↓aj,ak,simprocAttr,aa,aX,hfit,op_g0,op_g1,op_g2,op_g3,hA,ka,nT,rT]
  refine tearB (hF.push _) hx (w:=sx (some (x,false)) (i:Int) 0 []) (by rw[cD];rfl) hd.symm (aA hm _) (by omega) nm (by omega) hw _ hE fun ab U=>?_
  simp only[↓aj,ak,simprocAttr,aa]
  exact hk ab U.of
 |wr q p ex h1 h2 h3 h4=>
  have c0:((p.length:Int)=0)=False:=eq_false (by omega)
  simp only[↓aj,ak,simprocAttr,aa,aX,hfit,op_g0,op_g1,op_g2,op_g3,c0,hA,ka,nT,rT]
  refine tearB (hF.push _) hx (w:=sx (some (x,false)) (i:Int) 0 p) (by rw[cD];rfl) hd.symm (aA hm _) (by omega) nm (by omega) hw _ hE fun ab U=>?_
  simp only[↓aj,ak,simprocAttr,aa]
  exact hk ab U.of
structure JO where
 k:BitVec 8
 i:Nat
 d:D
 p:List (BitVec 8)
def JO.D(o:JO):Am.D:=opD o.k o.i o.d
def IL(x:List (BitVec 8))(l:List JO):List (BitVec 8):=l.foldl (fun x o=>mo x o.i o.p eF) x
theorem me(x:List (BitVec 8))(l:List JO):(IL x l).length=x.length:=by
 induction l generalizing x with
 |nil=>rfl
 |cons o l ih=>exact(ih _).trans (pJ _ _ _ _)
theorem YP(x:List (BitVec 8))(l:List JO)(j:Nat)(o:JO)(h:l[j]?=some o):IL x (l.take (j+1))=mo (IL x (l.take j)) o.i o.p eF:=by
 obtain⟨hj,rfl⟩:=List.getElem?_eq_some_iff.1 h
 rw[List.take_succ_eq_append_getElem hj,IL,List.foldl_append]
 rfl
theorem KQ.keep{rows ab:Rows}{m:Nat}{k:BitVec 8}{d:D}{p:List (BitVec 8)}(h:KQ rows m k d p)(f:∀q row,live rows q=some row→q≠m→live ab q=some row):KQ ab m k d p:=by
 cases h with
 |er=>exact .er
 |wr q p ex h1 h2 h3 h4=>exact .wr q p ex (f _ _ h1 h4) h2 h3 h4
set_option maxHeartbeats 1000000 in
theorem PF(C C0:be){dc:D}{rows:Rows}{r m ro n:Nat}{ex:Bool}{x:List (BitVec 8)}{ops:List JO}(hF:fG rows r m x)(hx:x.length≤1048576)(hro:live rows ro=some ⟨AL,ops.map JO.D⟩)(nro:ro≠m)(hn:ops.length=n)(hn2:n≤1048576)
  (hop:∀(j:Nat) (o:JO),ops[j]?=some o→KQ rows m o.k o.d o.p∧256*o.i+256≤x.length∧qT (some (IL x (ops.take j),false)) (o.i:Int) 0 o.p=0)
  (hA:C0.fn 116=some BS)(nT:C0.fn 117=none)(rT:C0.fU 117=some (aR CF 4 cT cS))
  (bY:C.fn 57=some IK)(nJ:C.fn 56=none)(rJ:C.fU 56=some (aR C0 4 ig ie)){K:D→Rows→Prop}
  (hk:∀ab,Rc rows ab r m (IL x ops)→K (.raw (it 0)) ab):aR C 3 fM fL [.ptr SF r [0],dc,.sl AL ro [] 0 n ex] rows K:=by
 subst hn
 refine ag rfl ?_
 unfold fL fM
 simp only[↓aj,ak,simprocAttr,aa]
 refine bB ops.length (fun j env rs=>has env [(12,.raw (it (j:Int))),(11,.raw (it (ops.length:Int))),(10,.sl AL ro [] 0 ops.length ex),(0,.ptr SF r [0]),(1,dc)]∧Rc rows rs r m (IL x (ops.take j))) ?_ ?_ ?_
 ·rintro j hj env rs ⟨hh,U⟩ R hR
  simp only[has]at hh
  have e0:((j:Int)<(ops.length:Int))=True:=eq_true (by omega)
  have e1:=cE j (by omega)
  obtain⟨o,ho⟩:∃o,ops[j]?=some o:=⟨_,List.getElem?_eq_getElem hj⟩
  obtain⟨b1,b2,b3⟩:=hop j o ho
  have g:(ops.map JO.D)[j]?=some (opD o.k o.i o.d):=by rw[List.getElem?_map,ho];rfl
  have hl:=U.frame _ _ hro nro
  have hlA:=fun L=>aA hl L
  have b1':=b1.keep U.frame
  have hfit:=b1.fits o.i
  have e2:((0:Int)≤(j:Int))=True:=eq_true (by omega)
  simp only[↓aj,ak,simprocAttr,aa,aX,hh,e0,e1,e2,hl,hlA,g,hfit,bY,kAllF,nJ,rJ]
  have lt:=U.fl.lt
  have hm:=cD rs [some ⟨AL,[opD o.k o.i o.d]⟩,some ⟨L8,bs eF⟩] 1
  refine Uo C0 (dc:=dc) (w:=eF) (U.fl.push _) (by rw[me];exact hx) (by rw[me];exact b2) (b1'.keep fun q row hq _=>aA hq _) (by rw[cD];rfl) (by omega) (by rw[YO];omega) b3 hA nT rT fun ab U'=>?_
  have hs:=YP x ops j o ho
  rw[←hs]at U'
  simp only[↓aj,ak,simprocAttr,aa,aX,hh,e1]
  refine hR _ _ ⟨by simp only[has,↓aj,ak,simprocAttr,aa,hh],U'.fl,fun q row hq hn=>U'.of.frame q row (U.frame q row hq hn) hn⟩
 ·rintro env rs ⟨hh,U⟩ R
  simp only[has]at hh
  rw[List.take_length]at U
  have e0:((ops.length:Int)<(ops.length:Int))=False:=eq_false (by omega)
  simp only[↓aj,ak,simprocAttr,aa,aX,hh,e0]
  exact hk _ U
 ·exact⟨by simp only[has,↓aj,ak,simprocAttr,aa],hF,fun q row hq _=>hq⟩
def fg(K:FV)(s:JS):JS:=⟨(dJ K).1.q+1#32,s.a,s.t,s.n⟩
def eG(K:FV):Nat:=if(dJ K).2=32 then 33 else 32
def j4(K:FV)(s:JS):Bool:=!decide ((dJ K).1.q+1#32=0#32)&&bK s
def jL(K:FV)(s:JS)(q:Nat):List JO:=[⟨1#8,eG K,.raw (.slice none 0 0),[]⟩,⟨2#8,eG K,.sl L8 q [] 0 32 false,cU (fg K s)⟩]
theorem Kr(x y:BitVec 32)(k:D→Prop):bE .eql (u32 x) (u32 y) k=k (.raw (.bool (decide (x=y)))):=by
 simp only[bE,u32]
 by_cases h:x=y
 ·subst h;simp
 ·have:¬(x.toNat:Int)=(y.toNat:Int):=fun e=>h (BitVec.eq_of_toNat_eq (by omega))
  simp[h,this]
theorem Rq(s:JS)(q:BitVec 32):(jD s).set [0] (.raw (u32 q))=some (jD ⟨q,s.a,s.t,s.n⟩):=rfl
def Sl(rows:Rows)(d:D)(p:List (BitVec 8)):Prop:=ec d p∨∃r ex,d= .sl L8 r [] 0 p.length ex∧live rows r=some ⟨L8,bs p⟩
theorem Sl.to{rows:Rows}{d:D}{p:List (BitVec 8)}(h:Sl rows d p):bc rows d p:=by
 rcases h with h|⟨r,ex,rfl,h⟩
 ·exact h.to
 ·exact bc.own h _ rfl
theorem Sl.keep{rows ab:Rows}{d:D}{p:List (BitVec 8)}(h:Sl rows d p)(f:∀q row,live rows q=some row→live ab q=some row):Sl ab d p:=by
 rcases h with h|⟨r,ex,rfl,h⟩
 ·exact .inl h
 ·exact .inr ⟨r,ex,rfl,f _ _ h⟩
theorem Made.sE{rows pK lN:Rows}{r m:Nat}{x y:List (BitVec 8)}(h:Made rows pK r m x)(U:Rc pK lN r m y):Made rows lN r m y:=
 ⟨U.fl,fun q row hq=>U.frame q row (h.frame q row hq) (by have:=bn hq;have:=h.hm;omega),h.hr,h.hm⟩
theorem Made.more{rows pK:Rows}{r m:Nat}{x:List (BitVec 8)}(h:Made rows pK r m x)(L:Rows):Made rows (pK++L) r m x:=
 ⟨h.fl.push L,fun q row hq=>aA (h.frame q row hq) L,h.hr,h.hm⟩
structure JC (C:be):Prop where
 nW:C.fn 45=none
 rW:C.fU 45=some (aR CF 3 dB dA)
 nN:C.fn 43=none
 rN:C.fU 43=some (aR CF 1 lj lh)
 cut:C.fn 17=some Tu
end iC
end Go.Am

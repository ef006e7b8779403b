import Derived.Test.YtgcejocgnfkciaaGreatDoorKc2
namespace Go.Am
set_option linter.unusedVariables false
set_option linter.unusedSimpArgs false
theorem ah{α:Type}{x:Option α}{k:α→Prop}(h:bd x k):∃a,x=some a∧k a:=by
 cases x with
 |none=>exact h.elim
 |some a=>exact⟨a,rfl,h⟩
theorem aD{α β:Type}{x:Option α}{f:α→Option β}{y:β}(h:o2 x f=some y):∃a,x=some a∧f a=some y:=by
 cases x with
 |none=>simp[o2]at h
 |some a=>exact⟨a,rfl,h⟩
theorem cx{α:Type}{b:Bool}{x:Option α}{y:α}(h:xd b x=some y):b=true∧x=some y:=by
 cases b with
 |false=>simp[xd]at h
 |true=>exact⟨rfl,h⟩
variable {C:be} {P:Program} {n:Nat} {ρ:Pl} {T:Nat→Prop} {env:Env} {rows:Rows} {a:Act} {w:World}
def rj(C:be)(ρ:Pl)(w:World)(T:Nat→Prop):Prop:=∀g d,C.aZ g=some d→LR ρ w T (.b5 d) (.pointer (some ⟨g,0,none⟩))
def Runs(P:Program)(o:Oper)(a:Act)(w:World)(v:Value)(w':World):Prop:=
 (execOp a.eval o).run P w= .ok (.value v) w'∨((execOp a.eval o).run P w= .ok .skip w'∧v=undef)
def bU(P:Program)(n:Nat)(o:Oper)(ρ:Pl)(T:Nat→Prop)(env:Env)(rows:Rows)(a:Act)(w:World)(k:D→Rows→Prop):Prop:=
 ∃d ab ρ' T' v w',k d ab∧dO n ρ' T' env ab a w'∧Step ρ T rows w ρ' T' ab w'∧VR ρ' w' T' d v∧Runs P o a w v w'∧(fJ o.op=true→QH ρ rows w w'∧∀b,T' b→T b∨w.heap.size≤b)
theorem bU.here{o:Oper}{k:D→Rows→Prop}(hs:dO n ρ T env rows a w){d:D}{v:Value}(hk:k d rows)(hv:VR ρ w T d v)(hr:(execOp a.eval o).run P w= .ok (.value v) w):
  bU P n o ρ T env rows a w k:=⟨d,rows,ρ,T,v,w,hk,hs,Step.refl _ _ _ _,hv,.inl hr,fun _=>⟨fun _ _=> .inl rfl,fun _ h=> .inl h⟩⟩
theorem bI{x:Operand}{y:X}{d:D}(hc:cX x=some y)(he:ev C env y=some d)(hs:dO n ρ T env rows a w)(hG:rj C ρ w T):VR ρ w T d (a.eval x):=by
 cases x with
 |tmp t=>
  simp[cX]at hc
  subst hc
  exact hs.env t d he
 | const v =>
  simp only[cX]at hc
  cases hv:v.oneCell' with
  |false=>simp[hv]at hc
  |true=>
   simp[hv]at hc
   subst hc
   simp[ev]at he
   subst he
   exact VR.raw hv
 | global g =>
  simp[cX]at hc
  subst hc
  simp only[ev]at he
  cases hg:C.aZ g with
  |none=>simp[hg]at he
  |some d'=>
   simp[hg]at he
   subst he
   exact VR.bG (hG g d' hg)
 |func f=>
  simp[cX]at hc
  subst hc
  simp[ev]at he
  subst he
  exact VR.raw rfl
theorem eh{x:Operand}{y:X}{v:Value}(hc:cX x=some y)(he:ev C env y=some (.raw v))(hs:dO n ρ T env rows a w)(hG:rj C ρ w T):a.eval x=v:=
 VR.ofRaw (bI hc he hs hG)
theorem int_beq(x y:Int):(x==y)=decide (x=y):=rfl
theorem run_equal_bool{t:TypeId}(ht:P.underlying t=some .bool)(x y:Bool)(w:World):(Op.equal t (.bool x) (.bool y)).run P w= .ok (x==y) w:=by
 have e:Op.maxDepth=9999+1:=rfl
 rw[Op.equal,e,Op.equalIn]
 simp only[Sem.run_bind,run_underlying ht,Result.andThen_ok,Sem.run_pure]
section ops
variable (hs:dO n ρ T env rows a w) (hG:rj C ρ w T) {o:Oper} {k:D→Rows→Prop}
include hs hG
theorem op_mv{x:Operand}{y:X}(ho:o.op= .move x∨o.op= .assign x)(hc:cX x=some y)(h:df C env rows (.mv y) k):bU P n o ρ T env rows a w k:=by
 obtain⟨d,he,hk⟩:=ah h
 refine .here hs hk (bI hc he hs hG) ?_
 rcases ho with ho|ho<;>simp[execOp,ho]
theorem op_pick{c x y:Operand}{c' x' y':X}(ho:o.op= .pick c x y)(h1:cX c=some c')(h2:cX x=some x')(h3:cX y=some y')(h:df C env rows (.pick c' x' y') k):bU P n o ρ T env rows a w k:=by
 obtain⟨d,he,hk⟩:=ah h
 split at hk
 ·rename_i t
  have hct:=eh h1 he hs hG
  obtain⟨d,he,UU⟩:=ah hk
  cases t with
  |true=>
   simp at he
   refine .here hs UU (bI h2 he hs hG) ?_
   simp[execOp,ho,hct,asBool]
  |false=>
   simp at he
   refine .here hs UU (bI h3 he hs hG) ?_
   simp[execOp,ho,hct,asBool]
 ·exact hk.elim
theorem VA {op : BinOp} {t u : TypeId} {x y : Operand} {x' y' : X} (ho : o.op = .binOp op t x y u) (h1 : cX x = some x') (h2 : cX y = some y') (h : df C env rows (.bin op x' y') k) : bU P n o ρ T env rows a w k := by
  obtain⟨d,he,hk⟩:=ah h
  split at hk
  · rename_i av
    obtain⟨d2,uR,hk⟩:=ah hk
    split at hk
    · rename_i bv
      have hx:=eh h1 he hs hG
      have hy:=eh h2 uR hs hG
      unfold bE at hk
      split at hk
      all_goals first
        |exact hk.elim
        | (refine .here hs hk (VR.raw rfl) ?_
           simp[execOp,ho,hx,hy,eqGuard,binOp,Op.stringOp]
           done)
        | (obtain ⟨g1, hk⟩ := hk
           refine .here hs hk (VR.raw rfl) ?_
           subst g1
           simp[execOp,ho,hx,hy,eqGuard,binOp,Op.intArith,Op.intBits,Op.intCmp,bne,int_beq]
           done)
        | (obtain ⟨g1, hk⟩ := hk
           refine .here hs hk (VR.raw rfl) ?_
           simp[execOp,ho,hx,hy,eqGuard,binOp,Op.shift,Int.not_lt.2 g1]
           done)
        | (obtain ⟨g1, g2, hk⟩ := hk
           refine .here hs hk (VR.raw rfl) ?_
           subst g1
           simp[execOp,ho,hx,hy,eqGuard,binOp,Op.intDiv,g2]
           done)
        | (obtain ⟨g1, hk⟩ := hk
           refine .here hs hk (VR.raw rfl) ?_
           have e:IntKind.i64.max=9223372036854775807:=by decide
           simp only[execOp,ho,hx,hy,eqGuard,binOp,Op.stringOp]
           simp
           omega)
    · exact hk.elim
  · exact hk.elim
theorem VB{neg:Bool}{op:BinOp}{t u:TypeId}{x y:Operand}{x' y':X}(ho:o.op= .binOp op t x y u)(hop:op=bif neg then .neq else .eql)(ht:P.underlying t=some .bool)(h1:cX x=some x')(h2:cX y=some y')
  (h:df C env rows (.beq neg x' y') k):bU P n o ρ T env rows a w k:=by
 obtain⟨d,he,hk⟩:=ah h
 split at hk
 ·obtain⟨d2,uR,hk⟩:=ah hk
  split at hk
  ·have hx:=eh h1 he hs hG
   have hy:=eh h2 uR hs hG
   refine .here hs hk (VR.raw rfl) ?_
   cases neg<;>simp at hop<;>subst hop<;>simp only[execOp,ho,hx,hy,binOp]<;>simp[eqGuard,run_equal_bool ht]
  ·exact hk.elim
 ·exact hk.elim
theorem op_un{op:UnOp}{t:TypeId}{x:Operand}{x':X}(ho:o.op= .unOp op t x)(h1:cX x=some x')(h:df C env rows (.un op x') k):bU P n o ρ T env rows a w k:=by
  obtain⟨d,he,hk⟩:=ah h
  split at hk
  · have hx := eh h1 he hs hG
    unfold Vl at hk
    split at hk
    all_goals first
      |exact hk.elim
      | (refine .here hs hk (VR.raw rfl) ?_
         simp[execOp,ho,hx,Op.unary,Op.intArith,Op.intBits])
  · exact hk.elim
theorem op_conv{s t:TypeId}{x:Operand}{x':X}{j kd:IntKind}(ho:o.op= .convert s t x)(hsrc:P.underlying s=some (.int j))(ht:P.underlying t=some (.int kd))(h1:cX x=some x')
  (h:df C env rows (.conv kd x') k):bU P n o ρ T env rows a w k:=by
 obtain⟨d,he,hk⟩:=ah h
 split at hk
 ·have hx:=eh h1 he hs hG
  refine .here hs hk (VR.raw rfl) ?_
  simp[execOp,ho,hx,convert,run_underlying hsrc,run_underlying ht,Conv.intToInt]
 ·exact hk.elim
theorem VC{s t:TypeId}{x:Operand}{x':X}(ho:o.op= .convert s t x)(hsrc:P.underlying s=some .string)(ht:P.underlying t=some .string)(h1:cX x=some x')
  (h:df C env rows (.En x') k):bU P n o ρ T env rows a w k:=by
 obtain⟨d,he,hk⟩:=ah h
 split at hk
 ·have hx:=eh h1 he hs hG
  refine .here hs hk (VR.raw rfl) ?_
  simp[execOp,ho,hx,convert,run_underlying hsrc,run_underlying ht]
 ·exact hk.elim
theorem op_nilc{x:Operand}{x':X}(ho:o.op= .nilCheck x)(h1:cX x=some x')(h:df C env rows (.pW x') k):bU P n o ρ T env rows a w k:=by
 obtain⟨d,he,hk⟩:=ah h
 have hv:=bI h1 he hs hG
 split at hk
 ·have kU:=hv
  have hl:LR ρ w T _ _:=hv
  generalize hx:a.eval x=v at hl kU
  cases hl with
  |ptr _ _ _ L hL hp=>
   refine .here hs hk kU ?_
   simp[execOp,ho,hx]
 ·have kU:=hv
  obtain⟨b,o',cs,s,hx,_⟩:=LR.za (show LR ρ w T _ _ from hv)
  refine .here hs hk kU ?_
  simp[execOp,ho,hx]
 ·exact hk.elim
theorem op_ext{x:Operand}{x':X}{i:Nat}(ho:o.op= .extract x i)(h1:cX x=some x')(h:df C env rows (.ext x' i) k):bU P n o ρ T env rows a w k:=by
 obtain⟨d,he,hk⟩:=ah h
 have hv:=bI h1 he hs hG
 split at hk
 ·obtain⟨vs,hx,bY⟩:=hv
  obtain⟨y,hy,hk⟩:=ah hk
  obtain⟨u,hu,hyu⟩:=bY.some hy
  have hu':vs[i]?=some u:=by simpa using hu
  refine .here hs hk (VR.xg hyu) ?_
  simp[execOp,ho,hx,Instr.extract,hu']
 ·exact hk.elim
end ops
end Go.Am
namespace Go.Am
set_option linter.unusedVariables false
set_option linter.unusedSimpArgs false
variable {C:be} {P:Program} {n:Nat} {ρ:Pl} {T:Nat→Prop} {env:Env} {rows:Rows} {a:Act} {w:World}
theorem wj{t:TypeId}{s:Sh}(h:sh P t=some s):∃i,P.info? t=some i∧i.size=s.size:=by
 unfold sh at h
 split at h
 ·split at h
  ·rename_i i hi
   cases hb:(i.size==_)with
   |false=>rw[hb]at h;simp at h
   |true=>
    rw[hb]at h
    simp at h
    subst h
    exact⟨i,hi,by simpa using hb⟩
  ·cases h
 ·cases h
theorem run_sizeOf{t:TypeId}{s:Sh}(h:sh P t=some s)(w:World):(sizeOf t).run P w= .ok s.size w:=by
 obtain⟨i,hi,hs⟩:=wj h
 simp[sizeOf,typeInfo,hi,hs]
theorem La{t:TypeId}{s:Sh}(h:kj P t s=true):∃d,P.underlying t=some d∧NI d=s.isAgg:=by
 unfold kj at h
 split at h
 ·rename_i d hd
  exact⟨d,hd,by simpa using h⟩
 ·cases h
theorem wk{t:TypeId}{s:Sh}(h:kj P t s=true)(w:World):(isAgg t).run P w= .ok s.isAgg w:=by
 obtain⟨d,hd,he⟩:=La h
 rw[←he]
 cases d<;>simp[isAgg,run_underlying hd,NI]
def gf(s:Sh)(cs:List Value):Value:=if s.isAgg then .agg cs.toArray else cs.headD undef
theorem lJ{t:TypeId}{s:Sh}(h:sh P t=some s)(hl:kj P t s=true){b o:Nat}{cs:List Value}(GZ:At w b o cs)(hlen:cs.length=s.size)(hone:s.isAgg=false→cs.length=1):
  (loadVar t ⟨b,o,none⟩).run P w= .ok (gf s cs) w:=by
 cases hs:s.isAgg with
 |true=>
  have hc:=run_loadCells_list (P:=P) w ⟨b,o,none⟩ cs (fun j v hv=>by rw[lI];exact GZ j v hv)
  rw[hlen]at hc
  simp[loadVar,wk hl,run_sizeOf h,hs,gf,hc]
 | false =>
  have h1:=hone hs
  match cs,h1 with
  |[x],_=>
   have:=GZ 0 x rfl
   simp at this
   simp[loadVar,wk hl,hs,gf,this]
theorem VR.gf{s:Sh}{d:D}{cs:List Value}(h:aK s d)(hc:aY (LR ρ w T) d.flat cs):VR ρ w T d (Am.gf s cs):=by
 unfold Am.gf
 cases hs:s.isAgg with
 |true=>exact VR.xg (pQ.K6 h hs (by simpa using hc))
 |false=>
  have hl:=h.oO hs
  rw[cj hl]at hc
  have:=hc.len
  match cs,this with
  |[x],_=>exact VR.bG hc.head
theorem oS{s:Sh}{d:D}{cs:List Value}(h:aK s d)(hc:aY (LR ρ w T) d.flat cs):s.isAgg=false→cs.length=1:=by
 intro hs
 rw[←hc.len,cj (h.oO hs)]
 rfl
theorem nM{s t:Sh}{l:List D}(h:aK s (.agg t l)):s=t∧s.isAgg=true:=by
 cases h with
 |ref _ h=>simp[D.ee]at h
 |agg _ _ h _ _=>exact⟨rfl,h⟩
theorem fits_sh{s t:Sh}{d:D}(h:aK t d)(hf:d.fits s=true):aK s d:=by
 cases d with
 |agg u l=>
  simp[D.fits]at hf
  subst hf
  obtain⟨rfl,_⟩:=nM h
  exact h
 |cA l=>cases s<;>simp[D.fits]at hf
 |raw v=>
  cases s<;>simp[D.fits]at hf
  ·exact .leaf _ v hf
  ·exact .ref _ hf
 | _=>cases s<;>simp[D.fits]at hf;exact .ref _ hf
theorem Loc.we{L:Loc}{p:List Nat}{s:Sh}(h:L.at p=some s)(i:Nat):L.at (p++[i])=s.sub i∧L.off (p++[i])=L.off p+s.ju i:=by
 cases p with
 |nil=>simp[Loc.at]at h
 |cons j p=>
  have hm:=Loc.Eu h
  rw[Loc.wg hm]at h
  refine⟨by simp only[List.cons_append,Loc.wg hm];exact Am.we p i h,?_⟩
  simp only[List.cons_append,Loc.off]
  rw[K5 p i h]
  omega
theorem HB{s e:Sh}{l:List D}{i:Nat}{d:D}{v:Value}(hv:LR ρ w T (.b5 (.agg s l)) v)(fh:s.sub i=some e)(hd:l[i]?=some d):
  ∃b o',v= .pointer (some ⟨b,o',none⟩)∧LR ρ w T (.b5 d) (.pointer (some ⟨b,o'+s.ju i,none⟩)):=by
 obtain⟨b,o',cs,s',hx,g1,hT,g2,g3⟩:=LR.za hv
 obtain⟨rfl,ha⟩:=nM g1
 obtain⟨d',je,qX,mH⟩:=g1.part ha fh
 rw[hd]at je
 cases je
 simp only[D.flat]at g2
 rw[fu hd]at g2
 refine⟨b,o',hx,.xW (cs:=(cs.drop (au (l.take i)).length).take d.flat.length) qX hT ?_ ?_⟩
 ·have:=(g2.drop (au (l.take i)).length).take d.flat.length
  rwa [List.drop_left,List.take_left]at this
 ·rw[←mH]
  exact(g3.drop _).take _
theorem EE{t:TypeId}{s:Sh}{cs:Array Value}{o':Nat}{ms:List Value}(hsh:sh P t=some s)(hl:kj P t s=true)(hlen:ms.length=s.size)(hone:s.isAgg=false→ms.length=1)
  (pX:(cs.toList.drop o').take ms.length=ms):(part t cs o').run P w= .ok (Am.gf s ms) w:=by
 cases hsa:s.isAgg with
 | true =>
  have:cs.extract o' (o'+s.size)=ms.toArray:=by
   apply Array.ext'
   rw[Array.toList_extract]
   simp only[List.extract]
   rw[show o'+s.size-o'=ms.length by omega,pX]
  simp[part,wk hl,hsa,run_sizeOf hsh,gf,this]
 | false =>
  have h1:=hone hsa
  match ms,h1 with
  | [x], _ =>
   have hx:cs[o']?=some x:=by
    have:=congrArg (fun l=>l[0]?) pX
    simpa[List.getElem?_take]using this
   simp[part,wk hl,hsa,gf,hx]
theorem gB{o:Oper}{c:Call}{b:Builtin}(ho:o.op= .call c)(hc:c.callee= .builtin b):
  execOp a.eval o=builtin b c.argTypes o.type (c.args.map fun| .const _=>true| _=>false) (c.args.map a.eval):=by
 simp only[execOp,ho,resolve,hc]
 rfl
section ops
variable (hs:dO n ρ T env rows a w) (hG:rj C ρ w T) {o:Oper} {k:D→Rows→Prop}
include hs hG
theorem op_load{t:TypeId}{x:Operand}{x':X}{s:Sh}(ho:o.op= .load t x)(hsh:sh P t=some s)(hl:kj P t s=true)(h1:cX x=some x')(h:df C env rows (.load s x') k):bU P n o ρ T env rows a w k:=by
 obtain⟨d,he,hk⟩:=ah h
 have hv:=bI h1 he hs hG
 split at hk
 ·obtain⟨rfl,hk⟩:=hk
  obtain⟨row,qc,hk⟩:=ah hk
  obtain⟨d,hg,hk⟩:=ah hk
  obtain⟨b,o',cs,hx,g1,g2,g3⟩:=hs.bD.I2 hv qc hg
  refine .here hs hk (VR.gf g1 g2) ?_
  have hlen:=g2.len
  rw[g1.len]at hlen
  simp[execOp,ho,hx,Instr.loadAt,Instr.sureAddr,lJ hsh hl g3 hlen.symm (oS g1 g2)]
 ·obtain⟨hf,hk⟩:=hk
  obtain⟨b,o',cs,s',hx,g1,_,g2,g3⟩:=LR.za hv
  have g1':=fits_sh g1 hf
  refine .here hs hk (VR.gf g1' g2) ?_
  have hlen:cs.length=Sh.size s:=by rw[←g2.len,g1'.len]
  simp[execOp,ho,hx,Instr.loadAt,Instr.sureAddr,lJ hsh hl g3 hlen (oS g1' g2)]
 ·rename_i m t r p off
  obtain⟨rfl,hk⟩:=hk
  obtain⟨l,mh,hk⟩:=ah hk
  obtain⟨hlen,hk⟩:=hk
  have kU:LR ρ w T (.lF m t r p off) _:=hv
  generalize hx:a.eval x=v at kU
  cases kU with
  | lF _ _ _ _ _ L hL h2 =>
   have jO:LR ρ w T (.sl t r p off m false) (.slice (some ⟨L.b,L.off p+off*t.size,none⟩) m m):= .sl t r p off m false L m hL (Nat.le_refl _) (by simp) h2
   obtain⟨ad,cap,cs,hH⟩:=hs.bD.holds (s:=t) jO mh rfl hlen (by simp[eK])
   have GZ:At w L.b (L.off p+off*t.size) cs:=by
    intro j y hy
    obtain⟨b,o',e1,e2⟩:=hH.at_ j y hy
    have e3:=hH.hv
    rw[e1]at e3
    cases e3
    exact e2
   have hsh':aK (.ar m t) (.agg (.ar m t) l):= .agg _ l rfl (by simp[Sh.count,hlen]) (fun i e d hi hd=>by
    simp only[Sh.sub]at hi
    split at hi
    ·cases hi;exact hH.els d (bN hd)
    ·cases hi)
   have Nv:aY (LR ρ w T) (D.agg (.ar m t) l).flat cs:=by simpa[D.flat]using hH.hcs
   have ja:cs.length=Sh.size (.ar m t):=by rw[←Nv.len,hsh'.len]
   refine .here hs hk (VR.gf hsh' Nv) ?_
   simp[execOp,ho,hx,Instr.loadAt,Instr.sureAddr,lJ hsh hl GZ ja (oS hsh' Nv)]
 ·exact hk.elim
theorem VD{t:TypeId}{x:Operand}{x':X}{s e:Sh}{i:Nat}{fs:Array Field}{f:Field}{inf:TypeInfo}(ho:o.op= .fieldAddr t x i)(hu:P.underlying t=some (.struct fs))(hf:fs[i]?=some f)
  (he':s.sub i=some e)(mH:f.offset=s.ju i)(hinf:P.info? f.type=some inf)(hsz:inf.size=e.size)(hne:e.size≠0)(h1:cX x=some x')(h:df C env rows (.eN s x' i) k):bU P n o ρ T env rows a w k:=by
 obtain⟨d,he,hk⟩:=ah h
 have hv:=bI h1 he hs hG
 have nO:∀b o':Nat,(Instr.fieldAt t (.pointer (some ⟨b,o',none⟩)) i).run P w= .ok (.pointer (some ⟨b,o'+s.ju i,none⟩)) w:=by
  intro b o'
  simp[Instr.fieldAt,run_underlying hu,hf,Instr.sureAddr,fieldPlace,sizeOf,typeInfo,hinf,hsz,hne,mH,lI]
 split at hk
 ·obtain⟨rfl,hk⟩:=hk
  obtain⟨e2,uR,hk⟩:=ah hk
  have hl:LR ρ w T _ _:=hv
  generalize hx:a.eval x=v at hl
  cases hl with
  |ptr _ _ _ L hL hp=>
   obtain⟨g1,g2⟩:=L.we hp i
   refine .here hs hk (VR.bG (.ptr _ _ _ L hL (g1.trans uR))) ?_
   rw[g2]
   simp[execOp,ho,hx,nO]
 ·obtain⟨rfl,hk⟩:=hk
  obtain⟨d2,yQ,hk⟩:=ah hk
  obtain⟨b,o',hx,g1⟩:=HB (show LR ρ w T _ _ from hv) he' yQ
  refine .here hs hk (VR.bG g1) ?_
  simp[execOp,ho,hx,nO]
 ·exact hk.elim
theorem VE{t:TypeId}{x:Operand}{x':X}{s e:Sh}{i:Nat}{fs:Array Field}{f:Field}(ho:o.op= .field t x i)(hu:P.underlying t=some (.struct fs))(hf:fs[i]?=some f)
  (he':s.sub i=some e)(mH:f.offset=s.ju i)(hsh:sh P f.type=some e)(hl:kj P f.type e=true)(h1:cX x=some x')(h:df C env rows (.field s x' i) k):bU P n o ρ T env rows a w k:=by
 obtain⟨d,he,hk⟩:=ah h
 have hv:=bI h1 he hs hG
 split at hk
 ·rename_i u l
  obtain⟨rfl,hk⟩:=hk
  obtain⟨d2,yQ,hk⟩:=ah hk
  obtain⟨cs,hx,g1,g2⟩:=hv
  obtain⟨_,ha⟩:=nM g1
  obtain⟨d',je,qX,VF⟩:=g1.part ha he'
  rw[yQ]at je
  cases je
  rw[fu yQ]at g2
  have g3:=(g2.drop (au (List.take i l)).length).take d2.flat.length
  rw[List.drop_left,List.take_left,VF]at g3
  refine .here hs hk (VR.gf qX g3) ?_
  have hlen:=g3.len
  have:=EE (w:=w) (o':=f.offset) (ms:=(cs.toList.drop (Sh.ju u i)).take d2.flat.length) hsh hl (by rw[←hlen,qX.len]) (oS qX g3) (by rw[←hlen,mH])
  simp[execOp,ho,hx,Instr.field,run_underlying hu,hf,asAgg,this]
 ·exact hk.elim
theorem Sa{t e:TypeId}{x i:Operand}{x' i':X}{s:Sh}{m:Nat}(ho:o.op= .indexAddr t x i)(hu:P.underlying t=some (.array m e))(hsh:sh P e=some s)(h1:cX x=some x')(h2:cX i=some i')
  (h:df C env rows (.uJ m s x' i') k):bU P n o ρ T env rows a w k:=by
 obtain⟨d,he,hk⟩:=ah h
 obtain⟨d2,uR,hk⟩:=ah hk
 have hv:=bI h1 he hs hG
 split at hk
 ·rename_i kd j
  have hi:=eh h2 uR hs hG
  have nO:∀b o':Nat,0≤j→j<(m:Int)→(Instr.indexAt t (.pointer (some ⟨b,o',none⟩)) (.int kd j)).run P w= .ok (.pointer (some ⟨b,o'+j.toNat*s.size,none⟩)) w:=by
   intro b o' g1 g2
   simp[Instr.indexAt,asIntOf,run_underlying hu,Instr.sureAddr,g1,g2,run_sizeOf hsh,lI]
  split at hk
  ·rename_i t' r p
   obtain⟨rfl,g1,g2,hk⟩:=hk
   have hl:LR ρ w T _ _:=hv
   generalize hx:a.eval x=v at hl
   cases hl with
   |ptr _ _ _ L hL hp=>
    obtain⟨g3,g4⟩:=L.we hp j.toNat
    have g5:(Sh.ar m s).sub j.toNat=some s:=by simp[Sh.sub];omega
    refine .here hs hk (VR.bG (.ptr _ _ _ L hL (g3.trans g5))) ?_
    rw[g4]
    simp only[Sh.ju]
    simp[execOp,ho,hx,hi,nO _ _ g1 g2]
  ·rename_i t' l
   obtain⟨rfl,g1,g2,hk⟩:=hk
   obtain⟨d3,I4,hk⟩:=ah hk
   have g5:(Sh.ar m s).sub j.toNat=some s:=by simp[Sh.sub];omega
   obtain⟨b,o',hx,g6⟩:=HB (show LR ρ w T _ _ from hv) g5 I4
   refine .here hs hk (VR.bG g6) ?_
   simp only[Sh.ju]
   simp[execOp,ho,hx,hi,nO _ _ g1 g2]
  ·exact hk.elim
 ·exact hk.elim
theorem Sb{t e:TypeId}{x i:Operand}{x' i':X}{s:Sh}(ho:o.op= .indexAddr t x i)(hu:P.underlying t=some (.slice e))(hsh:sh P e=some s)(h1:cX x=some x')(h2:cX i=some i')
  (h:df C env rows (.lG s x' i') k):bU P n o ρ T env rows a w k:=by
 obtain⟨d,he,hk⟩:=ah h
 obtain⟨d2,uR,hk⟩:=ah hk
 have hv:=bI h1 he hs hG
 split at hk
 ·rename_i kd j
  have hi:=eh h2 uR hs hG
  have nO:∀b o' len cap:Nat,0≤j→j<(len:Int)→(Instr.indexAt t (.slice (some ⟨b,o',none⟩) len cap) (.int kd j)).run P w= .ok (.pointer (some ⟨b,o'+j.toNat*s.size,none⟩)) w:=by
   intro b o' len cap g1 g2
   simp[Instr.indexAt,asIntOf,run_underlying hu,Instr.sureAddr,g1,g2,run_sizeOf hsh,lI]
  split at hk
  ·rename_i t' r p off len ex hq
   obtain⟨rfl,g1,g2,hk⟩:=hk
   have hl:LR ρ w T _ _:=hv
   generalize hx:a.eval x=v at hl
   cases hl with
   |yP=>simp at g2;omega
   | sl _ _ _ _ _ _ L cap hL c1 c2 c3 =>
    have key:L.at (p++[off+j.toNat])=some t'∧L.off (p++[off+j.toNat])=L.off p+off*t'.size+j.toNat*t'.size:=by
     rcases c3 with⟨rfl,rfl,hm,_⟩|⟨m,c3,c4⟩
     ·refine⟨by simp[Loc.at,Sh.at,hm],?_⟩
      simp[Loc.off,Sh.off,Nat.add_mul]
     ·obtain⟨g3,g4⟩:=L.we c3 (off+j.toNat)
      refine⟨g3.trans (by simp[Sh.sub];omega),?_⟩
      rw[g4]
      simp[Sh.ju,Nat.add_mul]
      omega
    refine .here hs hk (VR.bG (.ptr _ _ _ L hL key.1)) ?_
    rw[key.2]
    simp[execOp,ho,hx,hi,nO _ _ _ _ g1 g2]
  ·rename_i t' l ex hq
   obtain⟨rfl,g1,g2,hk⟩:=hk
   obtain⟨d3,I4,hk⟩:=ah hk
   have hl:LR ρ w T _ _:=hv
   generalize hx:a.eval x=v at hl
   cases hl with
   |ou=>simp at g2;omega
   | cF _ _ _ b o' cap f c1 hb c2 c3 c4 c5 =>
    obtain⟨cs,c6,c7⟩:∃cs,aY (LR ρ w T) (au l) cs∧At w b o' cs:=⟨_,y9 (d:=default) c2 c3⟩
    rw[fu I4]at c6
    have c8:=(c6.drop (au (l.take j.toNat)).length).take d3.flat.length
    rw[List.drop_left,List.take_left]at c8
    have mH:(au (l.take j.toNat)).length=j.toNat*t'.size:=by
     rw[bb (fun d hd=>c1 d (List.mem_of_mem_take hd)),List.length_take,Nat.min_eq_left (Nat.le_of_lt (cN I4))]
    refine .here hs hk (VR.bG (.xW (c1 _ (bN I4)) hb c8 ((c7.drop _).take _))) ?_
    rw[mH]
    simp[execOp,ho,hx,hi,nO _ _ _ _ g1 g2]
  ·exact hk.elim
 ·exact hk.elim
theorem VG{t e:TypeId}{x i:Operand}{x' i':X}{s:Sh}{m:Nat}(ho:o.op= .index t x i)(hu:P.underlying t=some (.array m e))(hsh:sh P e=some s)(hlf:kj P e s=true)(h1:cX x=some x')(h2:cX i=some i')
  (h:df C env rows (.index m s x' i') k):bU P n o ρ T env rows a w k:=by
 obtain⟨d,he,hk⟩:=ah h
 have hv:=bI h1 he hs hG
 split at hk
 ·rename_i t' l
  obtain⟨d2,uR,hk⟩:=ah hk
  split at hk
  ·rename_i kd j
   have hi:=eh h2 uR hs hG
   obtain⟨rfl,g1,g2,hk⟩:=hk
   obtain⟨d3,I4,hk⟩:=ah hk
   obtain⟨cs,hx,q1,q2⟩:=hv
   have g5:(Sh.ar m s).sub j.toNat=some s:=by simp[Sh.sub];omega
   obtain⟨d',je,qX,VF⟩:=q1.part rfl g5
   rw[I4]at je
   cases je
   rw[fu I4]at q2
   have g3:=(q2.drop (au (List.take j.toNat l)).length).take d3.flat.length
   rw[List.drop_left,List.take_left,VF]at g3
   refine .here hs hk (VR.gf qX g3) ?_
   have hlen:=g3.len
   have:=EE (w:=w) (o':=j.toNat*s.size) (ms:=(cs.toList.drop (Sh.ju (.ar m s) j.toNat)).take d3.flat.length) hsh hlf (by rw[←hlen,qX.len]) (oS qX g3) (by rw[←hlen];rfl)
   simp[execOp,ho,hx,hi,Instr.index,asIntOf,run_underlying hu,g1,g2,run_sizeOf hsh,this]
  ·exact hk.elim
 ·exact hk.elim
theorem Sd{t:TypeId}{x i:Operand}{x' i':X}(ho:o.op= .index t x i)(hu:P.underlying t=some .string)(h1:cX x=some x')(h2:cX i=some i')
  (h:df C env rows (.sI x' i') k):bU P n o ρ T env rows a w k:=by
 obtain⟨d,he,hk⟩:=ah h
 split at hk
 ·rename_i b
  obtain⟨d2,uR,hk⟩:=ah hk
  split at hk
  ·rename_i kd j
   have hx:=eh h1 he hs hG
   have hi:=eh h2 uR hs hG
   obtain⟨g1,hk⟩:=hk
   obtain⟨c,hc,hk⟩:=ah hk
   refine .here hs hk (VR.raw rfl) ?_
   have dZ:b[j.toNat]?=some c:=by
    have hlt:=cN hc
    have VH:j.toNat<b.size:=by simpa using hlt
    rw[List.getElem?_eq_getElem hlt]at hc
    simp at hc
    rw[getElem?_pos b j.toNat VH]
    simp[←hc]
    rfl
   simp[execOp,ho,hx,hi,Instr.index,asIntOf,run_underlying hu,g1,dZ]
  ·exact hk.elim
 ·exact hk.elim
end ops
end Go.Am
namespace Go.Am
set_option linter.unusedVariables false
set_option linter.unusedSimpArgs false
variable {C:be} {P:Program} {n:Nat} {ρ:Pl} {T:Nat→Prop} {env:Env} {rows:Rows} {a:Act} {w:World}
theorem VI{d:D}{v:Value}{k:Nat}(h:LR ρ w T d v)(hk:dK d=some k):∃ad cap,v= .slice ad k cap:=by
 cases h with
 | raw v hv =>
  cases v with
  |slice b len cap=>
   cases b<;>cases len<;>cases cap<;>simp[dK]at hk
   subst hk
   exact⟨_,_,rfl⟩
  | _=>simp[dK]at hk
 |ptr=>simp[dK]at hk
 |b5=>simp[dK]at hk
 |lF=>simp[dK]at hk
 |A0=>simp[dK]at hk
 |mp=>simp[dK]at hk
 |om=>simp[dK]at hk
 |sl=>simp[dK]at hk;subst hk;exact⟨_,_,rfl⟩
 |yP=>simp[dK]at hk;subst hk;exact⟨_,_,rfl⟩
 |ou=>simp[dK]at hk;subst hk;exact⟨_,_,rfl⟩
 |cF=>simp[dK]at hk;subst hk;exact⟨_,_,rfl⟩
theorem HD{d:D}{k:Nat}(hk:dK d=some k):d.ee=true:=by
 cases d<;>simp_all[dK,D.ee]
 split at hk<;>simp_all[Value.oneCell']
theorem kY{x:Option Operand}{y:Option X}{z:Option Int}(hc:KY x=some y)(he:DX C env y=some z)(hs:dO n ρ T env rows a w)(hG:rj C ρ w T):
  (x.map a.eval=none∧z=none)∨∃kd i,x.map a.eval=some (.int kd i)∧z=some i:=by
 cases x with
 |none=>
  simp[KY]at hc
  subst hc
  simp[DX]at he
  exact .inl ⟨rfl,he.symm⟩
 | some x =>
  simp only[KY]at hc
  cases hx:cX x with
  |none=>simp[hx]at hc
  | some x' =>
   simp[hx]at hc
   subst hc
   simp only[DX]at he
   split at he
   ·rename_i kd i hh
    simp at he
    subst he
    exact .inr ⟨kd,i,by simp[eh hx hh hs hG],rfl⟩
   ·cases he
theorem run_sliceBound{kd:IntKind}{i:Int}{y:Nat}{code:BoundsCode}(h0:0≤i)(h1:i≤(y:Int))(w:World):(Instr.sliceBound (.int kd i) y code).run P w= .ok i.toNat w:=by
 simp[Instr.sliceBound,asIntOf,h0,h1]
theorem nP{isSlice:Bool}{len cap:Nat}{lo hi mx:Option Value}{l h m:Option Int}{L H M:Nat}
  (hl:(lo=none∧l=none)∨∃kd i,lo=some (.int kd i)∧l=some i)(hh:(hi=none∧h=none)∨∃kd i,hi=some (.int kd i)∧h=some i)
  (hm:(mx=none∧m=none)∨∃kd i,mx=some (.int kd i)∧m=some i)(hmh:mx.isSome=true→hi.isSome=true)
  (eL:l.getD 0=(L:Int))(eH:h.getD len=(H:Int))(eM:m.getD cap=(M:Int))(h1:L≤H)(h2:H≤M)(h3:M≤cap)(w:World):
  (Instr.sliceBounds isSlice len cap lo hi mx).run P w= .ok (L,H,M) w:=by
 have key:∀{kd:IntKind} {i:Int} {y z:Nat} {code:BoundsCode},i=(z:Int)→z≤y→(Instr.sliceBound (.int kd i) y code).run P w= .ok z w:=by
  intro kd i y z code e hz
  subst e
  rw[run_sliceBound (by omega) (by omega)]
  simp
 rcases hm with⟨rfl,rfl⟩|⟨km,im,rfl,rfl⟩
 ·simp at eM
  rcases hh with⟨rfl,rfl⟩|⟨kh,ih,rfl,rfl⟩
  ·simp at eH
   rcases hl with⟨rfl,rfl⟩|⟨kl,il,rfl,rfl⟩
   ·simp at eL
    simp[Instr.sliceBounds,←eL,eH,eM]
    omega
   ·simp at eL
    simp[Instr.sliceBounds,key (kd:=kl) (y:=len) eL (by omega)]
    omega
  ·simp at eH
   have kH:=fun(c:BoundsCode)=>key (kd:=kh) (y:=cap) (code:=c) eH (by omega)
   rcases hl with⟨rfl,rfl⟩|⟨kl,il,rfl,rfl⟩
   ·simp at eL
    cases isSlice<;>simp[Instr.sliceBounds,kH]<;>omega
   ·simp at eL
    have kL:=fun(c:BoundsCode)=>key (kd:=kl) (y:=H) (code:=c) eL (by omega)
    cases isSlice<;>simp[Instr.sliceBounds,kH,kL]<;>omega
 ·simp at eM
  have kM:=fun(c:BoundsCode)=>key (kd:=km) (y:=cap) (code:=c) eM (by omega)
  rcases hh with⟨rfl,rfl⟩|⟨kh,ih,rfl,rfl⟩
  ·simp at hmh
  ·simp at eH
   have kH:=fun(c:BoundsCode)=>key (kd:=kh) (y:=M) (code:=c) eH (by omega)
   rcases hl with⟨rfl,rfl⟩|⟨kl,il,rfl,rfl⟩
   ·simp at eL
    cases isSlice<;>simp[Instr.sliceBounds,kH,kM]<;>omega
   ·simp at eL
    have kL:=fun(c:BoundsCode)=>key (kd:=kl) (y:=H) (code:=c) eL (by omega)
    cases isSlice<;>simp[Instr.sliceBounds,kH,kL,kM]<;>omega
section ops
variable (hs:dO n ρ T env rows a w) (hG:rj C ρ w T) {o:Oper} {k:D→Rows→Prop}
include hs hG
theorem op_len{c:Call}{x:Operand}{x':X}{t e:TypeId}{ts:List TypeId}(ho:o.op= .call c)(hc:c.callee= .builtin .len)(ha:c.args.toList=[x])(hts:c.argTypes.toList=t::ts)
  (hu:P.underlying t=some (.slice e))(h1:cX x=some x')(h:df C env rows (.len x') k):bU P n o ρ T env rows a w k:=by
 obtain⟨d,he,hk⟩:=ah h
 obtain⟨j,hj,hk⟩:=ah hk
 have hv:=(bI h1 he hs hG).y7 (HD hj)
 obtain⟨ad,cap,hx⟩:=VI hv hj
 have hargs:c.args=#[x]:=by apply Array.ext';simpa using ha
 have VJ:c.argTypes[0]?=some t:=by
  have:c.argTypes.toList[0]?=some t:=by rw[hts];rfl
  simpa using this
 refine .here hs hk (VR.raw rfl) ?_
 rw[gB ho hc]
 simp[builtin,Builtin.len_,hargs,VJ,run_underlying hu,hx,goInt]
theorem Se{c:Call}{x:Operand}{x':X}{t:TypeId}{ts:List TypeId}(ho:o.op= .call c)(hc:c.callee= .builtin .len)(ha:c.args.toList=[x])(hts:c.argTypes.toList=t::ts)
  (hu:P.underlying t=some .string)(h1:cX x=some x')(h:df C env rows (.xT x') k):bU P n o ρ T env rows a w k:=by
 obtain⟨d,he,hk⟩:=ah h
 split at hk
 ·have hx:=eh h1 he hs hG
  have hargs:c.args=#[x]:=by apply Array.ext';simpa using ha
  have VJ:c.argTypes[0]?=some t:=by
   have:c.argTypes.toList[0]?=some t:=by rw[hts];rfl
   simpa using this
  refine .here hs hk (VR.raw rfl) ?_
  rw[gB ho hc]
  simp[builtin,Builtin.len_,hargs,VJ,run_underlying hu,hx,goInt]
 ·exact hk.elim
theorem Sf{t e:TypeId}{x:Operand}{lo hi mx:Option Operand}{x':X}{lo' hi' mx':Option X}{s:Sh}{m:Nat}(ho:o.op= .slice t x lo hi mx)(hu:P.underlying t=some (.array m e))(hsh:sh P e=some s)
  (h1:cX x=some x')(h2:KY lo=some lo')(h3:KY hi=some hi')(h4:KY mx=some mx')(hmh:mx.isSome=true→hi.isSome=true)
  (h:df C env rows (.xR m s x' lo' hi' mx') k):bU P n o ρ T env rows a w k:=by
 obtain⟨d,he,k1⟩:=ah h
 obtain⟨l,hl,k2⟩:=ah k1
 obtain⟨hh,UW,k3⟩:=ah k2
 obtain⟨c,hc,hk⟩:=ah k3
 clear k1 k2 k3
 have hv:=bI h1 he hs hG
 obtain⟨b1,b2,b3,b4,hk⟩:=hk
 have hrun:∀(b o':Nat),(Instr.sliceAt t (.pointer (some ⟨b,o',none⟩)) (lo.map a.eval) (hi.map a.eval) (mx.map a.eval)).run P w=
   .ok (.slice (some (if(c.getD m).toNat=(l.getD 0).toNat then⟨b,o',none⟩else⟨b,o'+(l.getD 0).toNat*s.size,none⟩)) ((hh.getD m).toNat-(l.getD 0).toNat) ((c.getD m).toNat-(l.getD 0).toNat)) w:=by
  intro b o'
  have:=nP (P:=P) (isSlice:=false) (len:=m) (cap:=m) (L:=(l.getD 0).toNat) (H:=(hh.getD m).toNat) (M:=(c.getD m).toNat)
   (kY h2 hl hs hG) (kY h3 UW hs hG) (kY h4 hc hs hG) (by simpa using hmh) (by omega) (by omega) (by omega) (by omega) (by omega) (by omega) w
  simp[Instr.sliceAt,run_underlying hu,Instr.sureAddr,this,run_sizeOf hsh,lI]
 have uS:∀v,a.eval x=v→(execOp a.eval o).run P w=((Instr.sliceAt t v (lo.map a.eval) (hi.map a.eval) (mx.map a.eval)).run P w).andThen fun v w'=> .ok (.value v) w':=by
  intro v hx
  simp[execOp,ho,hx]
 generalize hL:(l.getD 0).toNat=L' at hk hrun
 generalize hH:(hh.getD (m:Int)).toNat=H' at hk hrun
 generalize hM:(c.getD (m:Int)).toNat=M' at hk hrun
 split at hk
 ·rename_i t' r p
  obtain⟨rfl,hk⟩:=hk
  have hl:LR ρ w T _ _:=hv
  generalize hx:a.eval x=v at hl
  cases hl with
  | ptr _ _ _ L I1 hp =>
   by_cases hz:M'=L'
   ·have Cb:H'-L'=0:=by omega
    have I3:M'-L'=0:=by omega
    refine .here hs hk (v:= .slice (some ⟨L.b,L.off p,none⟩) 0 0) ?_ ?_
    ·rw[Cb];exact VR.bG (.yP _ _ _ _ _ _)
    ·rw[uS _ hx,hrun];simp[hz,Cb,I3]
   ·refine .here hs hk (v:= .slice (some ⟨L.b,L.off p+L'*s.size,none⟩) (H'-L') (M'-L')) ?_ ?_
    ·refine VR.bG (.sl _ _ _ _ _ _ L _ I1 (by omega) (fun hq=>?_) (.inr ⟨m,hp,by omega⟩))
     have:H'=M':=by simpa using hq
     omega
    ·rw[uS _ hx,hrun];simp[hz]
 ·rename_i t' els
  obtain⟨rfl,hk⟩:=hk
  obtain⟨b,o',cs,s',hx,g1,hT,g2,g3⟩:=LR.za (show LR ρ w T _ _ from hv)
  obtain⟨rfl,ha⟩:=nM g1
  obtain⟨l',mh,hlen,fh⟩:=g1.iJ rfl
  cases mh
  have bY:∀d∈els,aK s d:=by
   intro d hd
   obtain⟨q,hq,rfl⟩:=List.mem_iff_getElem.1 hd
   exact fh q s _ (by simp[Sh.sub];simp[Sh.count]at hlen;omega) (List.getElem?_eq_getElem hq)
  simp[Sh.count]at hlen
  have fV:∀d∈(els.drop L').take (H'-L'),aK s d:=fun d hd=>bY d (List.mem_of_mem_drop (List.mem_of_mem_take hd))
  have HE:((els.drop L').take (H'-L')).length=H'-L':=by simp;omega
  by_cases hz:M'=L'
  ·have Cb:H'-L'=0:=by omega
   have I3:M'-L'=0:=by omega
   refine .here hs hk (v:= .slice (some ⟨b,o',none⟩) 0 0) ?_ ?_
   ·rw[Cb];simp;exact VR.bG (.ou _ _ _ _ (fun _=>rfl) (fun _=>rfl))
   ·rw[uS _ hx,hrun];simp[hz,Cb,I3]
  ·obtain⟨pre,post,q1,q2⟩:=sL (off:=L') (len:=H'-L') bY (by omega)
   simp only[D.flat]at g2
   rw[q1]at g2
   have q3:=(g2.drop pre.length).take (au ((els.drop L').take (H'-L'))).length
   rw[List.drop_left,List.take_left]at q3
   refine .here hs hk (v:= .slice (some ⟨b,o'+L'*s.size,none⟩) ((els.drop L').take (H'-L')).length (M'-L')) ?_ ?_
   ·refine VR.bG (LR.K7 fV hT q3 (by rw[←q2];exact(g3.drop _).take _) (by omega) (fun hq=>?_))
    have:H'=M':=by simpa using hq
    omega
   ·rw[uS _ hx,hrun];simp only[hz,if_false,Result.andThen_ok,HE]
 ·exact hk.elim
theorem VK{t e:TypeId}{x:Operand}{lo hi mx:Option Operand}{x':X}{lo' hi' mx':Option X}{s:Sh}(ho:o.op= .slice t x lo hi mx)(hu:P.underlying t=some (.slice e))(hsh:sh P e=some s)
  (h1:cX x=some x')(h2:KY lo=some lo')(h3:KY hi=some hi')(h4:KY mx=some mx')(hmh:mx.isSome=true→hi.isSome=true)
  (h:df C env rows (.slice s x' lo' hi' mx') k):bU P n o ρ T env rows a w k:=by
 obtain⟨d,he,k1⟩:=ah h
 obtain⟨l,hl,k2⟩:=ah k1
 obtain⟨hh,UW,k3⟩:=ah k2
 obtain⟨c,hc,k4⟩:=ah k3
 obtain⟨N,hN,hk⟩:=ah k4
 clear k1 k2 k3 k4
 have hv:=bI h1 he hs hG
 obtain⟨b1,b2,b3,b4,hk⟩:=hk
 have Dj:=hv.y7 (HD hN)
 have hrun:∀(ad:Option Addr) (cap:Nat),N≤cap→(Instr.sliceAt t (.slice ad N cap) (lo.map a.eval) (hi.map a.eval) (mx.map a.eval)).run P w=
   .ok (.slice (if(c.getD cap).toNat=(l.getD 0).toNat then ad else ad.map (·.add ((l.getD 0).toNat*s.size))) ((hh.getD N).toNat-(l.getD 0).toNat) ((c.getD cap).toNat-(l.getD 0).toNat)) w:=by
  intro ad cap hcap
  have:=nP (P:=P) (isSlice:=true) (len:=N) (cap:=cap) (L:=(l.getD 0).toNat) (H:=(hh.getD N).toNat) (M:=(c.getD cap).toNat)
   (kY h2 hl hs hG) (kY h3 UW hs hG) (kY h4 hc hs hG) (by simpa using hmh) (by omega) (by omega) (by cases c<;>simp at b3 b4⊢;omega)
   (by omega) (by cases c<;>simp at b3 b4⊢<;>omega) (by cases c<;>simp at b3 b4⊢;omega) w
  simp[Instr.sliceAt,Instr.slice,run_underlying hu,this,run_sizeOf hsh]
 have uS:∀v,a.eval x=v→(execOp a.eval o).run P w=((Instr.sliceAt t v (lo.map a.eval) (hi.map a.eval) (mx.map a.eval)).run P w).andThen fun v w'=> .ok (.value v) w':=by
  intro v hx
  simp[execOp,ho,hx]
 have bM:∀cap:Nat,N≤cap→(hh.getD N).toNat≤(c.getD cap).toNat∧(c.getD cap).toNat≤cap:=by
  intro cap hcap
  cases c<;>simp at b3 b4⊢<;>omega
 generalize hL:(l.getD 0).toNat=L' at hk hrun
 have hLH:L'≤(hh.getD N).toNat:=by omega
 have hHN:(hh.getD N).toNat≤N:=by cases c<;>simp at b3 b4<;>omega
 have hcm:∀cap:Nat,∀z,c=some z→(c.getD (hh.getD N)).toNat=(c.getD cap).toNat:=by intro cap z hz;simp[hz]
 generalize hH:(hh.getD (N:Int)).toNat=H' at hk hrun bM hLH hHN
 split at hk
 ·have hx:=eh h1 he hs hG
  simp[dK]at hN
  subst hN
  refine .here hs hk (VR.raw rfl) ?_
  have Vx:L'=0:=by omega
  have hH0:H'=0:=by omega
  rw[uS _ hx,hrun none 0 (by omega)]
  have hb:=bM 0 (by omega)
  have h0:(c.getD ((0:Nat):Int)).toNat=0:=by omega
  simp only[h0,Vx,hH0]
  rfl
 ·rename_i t' r p off len ex
  obtain⟨rfl,hk⟩:=hk
  simp[dK]at hN
  subst hN
  generalize hx:a.eval x=v at Dj
  cases Dj with
  | yP _ _ _ _ _ ad =>
   have Vx:L'=0:=by omega
   have hH0:H'=0:=by omega
   have hb:=bM 0 (by omega)
   have h0:(c.getD ((0:Nat):Int)).toNat=0:=by omega
   refine .here hs hk (v:= .slice ad 0 0) ?_ ?_
   ·rw[Vx,hH0];exact VR.bG (.yP _ _ _ _ _ _)
   ·rw[uS _ hx,hrun ad 0 (by omega)]
    simp only[h0,Vx,hH0]
    rfl
  | sl _ _ _ _ _ _ L cap I1 c1 c2 c3 =>
   have hb:=bM cap c1
   generalize hM:(c.getD (cap:Int)).toNat=M' at hb hrun
   have hM:=hrun (some ⟨L.b,L.off p+off*t'.size,none⟩) cap c1
   generalize hMM:(c.getD (cap:Int)).toNat=M' at hM hb
   by_cases hz:M'=L'
   ·have Cb:H'-L'=0:=by omega
    have I3:M'-L'=0:=by omega
    refine .here hs hk (v:= .slice (some ⟨L.b,L.off p+off*t'.size,none⟩) 0 0) ?_ ?_
    ·rw[Cb];exact VR.bG (.yP _ _ _ _ _ _)
    ·rw[uS _ hx,hM];simp only[hz,if_true,Result.andThen_ok,Cb,Nat.sub_self]
   ·refine .here hs hk (v:= .slice (some ⟨L.b,L.off p+(off+L')*t'.size,none⟩) (H'-L') (M'-L')) ?_ ?_
    ·refine VR.bG (.sl _ _ _ _ _ _ L _ I1 (by omega) (fun hq=>?_) ?_)
     ·cases c with
      |none=>
       simp[oM]at hq hMM
       have:=c2 hq.1
       omega
      |some z=>
       simp[oM]at hq hMM
       omega
     ·rcases c3 with⟨d1,d2,dm,d3⟩|⟨m,d1,d2⟩
      ·refine .inl ⟨d1,d2,dm,Nat.le_trans (Nat.mul_le_mul_right _ (by omega)) d3⟩
      ·exact .inr ⟨m,d1,by omega⟩
    ·rw[uS _ hx,hM]
     simp only[hz,if_false,Result.andThen_ok,Option.map_some,lI,Nat.add_mul,Nat.add_assoc]
 ·rename_i t' els ex
  obtain⟨rfl,hk⟩:=hk
  simp[dK]at hN
  subst hN
  have key:∀(ad:Option Addr) (cap:Nat) (v:Value),a.eval x=v→v= .slice ad els.length cap→els.length≤cap→(∀d∈els,aK t' d)→(ex=true→cap=els.length)→(ad=none→cap=0)→
    (els.length≠0→∃b o' cs,ad=some ⟨b,o',none⟩∧T b∧aY (LR ρ w T) (au els) cs∧At w b o' cs)→bU P n o ρ T env rows a w k:=by
   intro ad cap v hx kU hcap bY hex NR hcs
   subst kU
   have hb:=bM cap hcap
   have hM:=hrun ad cap hcap
   generalize hMM:(c.getD (cap:Int)).toNat=M' at hM hb
   have hexM:oM c H' (c.getD (hh.getD ↑els.length)).toNat els.length ex=true→M'=H':=by
    intro hq
    cases c with
    |none=>
     simp[oM]at hq hMM
     have:=hex hq.1
     omega
    |some z=>
     simp[oM]at hq hMM
     omega
   have HE:((els.drop L').take (H'-L')).length=H'-L':=by simp;omega
   by_cases hz:H'=L'
   ·have NT:(els.drop L').take (H'-L')=[]:=List.eq_nil_of_length_eq_zero (by omega)
    refine .here hs hk (v:= .slice (if M'=L' then ad else ad.map (·.add (L'*t'.size))) 0 (M'-L')) ?_ ?_
    ·rw[NT]
     refine VR.bG (.ou _ _ _ _ (fun hq=>by have:=hexM hq;omega) (fun hq=>?_))
     split at hq
     ·omega
     ·have:ad=none:=by simpa using hq
      have:=NR this
      omega
    ·rw[uS _ hx,hM,hz]
     simp only[Nat.sub_self,Result.andThen_ok]
   ·have I5:¬M'=L':=by omega
    obtain⟨b,o',cs,rfl,hT,q2,q3⟩:=hcs (by omega)
    obtain⟨pre,post,q4,q5⟩:=sL (off:=L') (len:=H'-L') bY (by omega)
    rw[q4]at q2
    have q6:=(q2.drop pre.length).take (au ((els.drop L').take (H'-L'))).length
    rw[List.drop_left,List.take_left]at q6
    refine .here hs hk (v:= .slice (some ⟨b,o'+L'*t'.size,none⟩) ((els.drop L').take (H'-L')).length (M'-L')) ?_ ?_
    ·refine VR.bG (LR.K7 (fun d hd=>bY d (List.mem_of_mem_drop (List.mem_of_mem_take hd))) hT q6 (by rw[←q5];exact(q3.drop _).take _) (by omega) (fun hq=>by have:=hexM hq;omega))
    ·rw[uS _ hx,hM]
     simp only[I5,if_false,Result.andThen_ok,HE,Option.map_some,lI]
  generalize hx:a.eval x=v at Dj
  cases Dj with
  |ou _ _ ad cap c1 c2=>exact key ad cap _ hx rfl (by simp) (by simp) (by simpa using c1) c2 (by simp)
  |cF _ _ _ b o' cap f c1 hb c2 c3 c4 c5=>
   exact key _ cap _ hx rfl c4 c1 c5 (by simp) (fun _=>⟨b,o',_,rfl,hb,(y9 (d:=default) c2 c3).1,(y9 (d:=default) c2 c3).2⟩)
 ·exact hk.elim
end ops
end Go.Am
namespace Go.Am
set_option linter.unusedVariables false
set_option linter.unusedSimpArgs false
variable {C:be} {P:Program} {n:Nat} {ρ:Pl} {T:Nat→Prop} {env:Env} {rows:Rows} {a:Act} {w:World}
theorem VL{a b:Value}(h:Vn a b=true):b=a∧a.oneCell'=true:=by
  unfold Vn at h
  split at h<;>first
    |(simp at h;obtain⟨rfl,rfl⟩:=h;exact⟨rfl,rfl⟩)
    |(simp at h;subst h;exact⟨rfl,rfl⟩)
    | (rename_i x y
       have e:x.data.toList=y.data.toList:=by simpa using h
       have e2:x.data=y.data:=Array.ext' e
       have e3:x=y:=ByteArray.ext e2
       subst e3
       exact⟨rfl,rfl⟩)
    |exact⟨rfl,rfl⟩
    |cases h
theorem Cc{l:List D}{vs:List Value}(h:xU l vs=true)(ρ:Pl)(w:World)(T:Nat→Prop):aY (LR ρ w T) l vs:=by
 induction l generalizing vs with
 |nil=>cases vs with
  |nil=>exact .nil
  |cons v vs=>simp[xU]at h
 | cons d l ih => cases vs with
  |nil=>simp[xU]at h
  | cons v vs =>
   cases d with
   |raw x=>
    simp[xU]at h
    obtain⟨rfl,h2⟩:=VL h.1
    exact .cons (.raw _ h2) (ih h.2)
   | _=>simp[xU]at h
theorem Qf{f:TypeId→Option D}{g:TypeId→Option Sh}(hfg:∀t d e,f t=some d→g t=some e→aK e d):∀(fs:List Field) {l:List D} {s:Sh},zL f fs=some l→shL g fs=some s→
  s.isAgg=true∧l.length=s.count∧∀i e d,s.sub i=some e→l[i]?=some d→aK e d
 |[],l,s,h1,h2=>by
  simp[zL]at h1
  simp[shL]at h2
  subst h1;subst h2
  simp[Sh.isAgg,Sh.count,Sh.sub]
 | x :: fs, l, s, h1, h2 => by
  simp only[zL]at h1
  simp only[shL]at h2
  split at h1
  ·rename_i d hd
   split at h1
   ·rename_i l' mh
    cases h1
    split at h2
    ·rename_i e he
     split at h2
     ·rename_i s' fD
      cases h2
      obtain⟨g1,g2,g3⟩:=Qf hfg fs mh fD
      refine⟨g1,by simp[Sh.count,g2],fun i e' d' hi je=>?_⟩
      cases i with
      |zero=>
       simp[Sh.sub]at hi je
       subst hi;subst je
       exact hfg _ _ _ hd he
      |succ i=>exact g3 i e' d' (by simpa[Sh.sub]using hi) (by simpa using je)
     ·cases h2
    ·cases h2
   ·cases h1
  ·cases h1
theorem I6(P:Program):∀(n:Nat) (t:TypeId) (d:D) (s:Sh),zT P n t=some d→shT P n t=some s→aK s d
 |0,t,d,s,h1,h2=>by simp[zT]at h1
 | n + 1, t, d, s, h1, h2 => by
  have UX:=h2
  simp only[zT]at h1
  simp only[shT]at h2
  cases hu:P.underlying t with
  |none=>simp[hu]at h1
  | some u =>
   cases u with
   | struct fs =>
    simp only[hu]at h1 h2
    rw[UX]at h1
    simp only at h1
    split at h1
    ·rename_i l hl
     cases h1
     obtain⟨g1,g2,g3⟩:=Qf (fun t d e hd he=>I6 P n t d e hd he) fs.toList hl h2
     exact .agg s l g1 g2 g3
    ·cases h1
   | array m e =>
    simp only[hu]at h1 h2
    rw[UX]at h1
    simp only at h1
    split at h1
    ·rename_i d' je
     cases h1
     split at h2
     ·rename_i s' fD
      cases h2
      refine .agg _ _ rfl (by simp[Sh.count]) fun i e' d'' hi hd''=>?_
      simp only[Sh.sub]at hi
      split at hi
      ·cases hi
       rw[List.eq_of_mem_replicate (List.mem_of_getElem? hd'')]
       exact I6 P n e d' s' je fD
      ·cases hi
     ·cases h2
    ·cases h1
   |bool=>simp[hu]at h1 h2;subst h1;subst h2;exact .leaf _ _ rfl
   |int k=>simp[hu]at h1 h2;subst h1;subst h2;exact .leaf _ _ (by simp[mE])
   |string=>simp[hu]at h1 h2;subst h1;subst h2;exact .leaf _ _ rfl
   |pointer _=>simp[hu]at h1 h2;subst h1;subst h2;exact .ref _ rfl
   |slice _=>simp[hu]at h1 h2;subst h1;subst h2;exact .ref _ rfl
   |map _ _=>simp[hu]at h1 h2;subst h1;subst h2;exact .ref _ rfl
   |func _ _ _=>simp[hu]at h1 h2;subst h1;subst h2;exact .ref _ rfl
   |interface _=>simp[hu]at h1 h2;subst h1;subst h2;exact .ref _ rfl
   | _=>simp[hu]at h1
theorem sh_shT{t:TypeId}{s:Sh}(h:sh P t=some s):shT P 40 t=some s:=by
 unfold sh at h
 split at h
 ·rename_i s' fD
  split at h
  ·rename_i i hi
   cases hb:(i.size==s'.size)with
   |false=>rw[hb]at h;simp at h
   |true=>rw[hb]at h;simp at h;subst h;exact fD
  ·cases h
 ·cases h
theorem rk{w:World}{o:Obj}{b:Nat}(h:b<w.heap.size):({w with heap:=w.heap.push o}:World).heap[b]?=w.heap[b]?:=by
 rw[Array.getElem?_push,if_neg (by omega)]
theorem EF{α:Type}{c:Bool}{x y:α}(h:(bif c then some x else none)=some y):c=true∧x=y:=by
 cases c with
 |false=>simp at h
 |true=>exact⟨rfl,by simpa using h⟩
theorem jy{t:TypeId}{s:Sh}{z:D}(hs:sh P t=some s)(hz:zero P t=some z):
  aK s z∧∃v,(∀w,(zeroValue t).run P w= .ok v w)∧v.cells.size=s.size∧∀ρ w T,aY (LR ρ w T) z.flat v.cells.toList:=by
 unfold zero at hz
 split at hz
 ·rename_i d hd
  split at hz
  ·rename_i i hi
   split at hz
   ·rename_i v hv
    obtain⟨EG,hdz⟩:=EF hz
    have hb:=(Bool.and_eq_true_iff.1 EG).1
    ·subst hdz
     have hsh:=I6 P 40 t d s hd (sh_shT hs)
     refine⟨hsh,v,fun w=>by simp[zeroValue,typeInfo,hi,hv],?_,fun ρ w T=>Cc hb ρ w T⟩
     have:=(Cc hb (fun _=>none) default (fun _=>False)).len
     rw[hsh.len]at this
     simpa using this.symm
   ·cases hz
  ·cases hz
 ·cases hz
theorem dO.DY(hs:dO n ρ T env rows a w)(row:Row)(cur:Array Value)(t:TypeId)(w':World)(hw':w'={w with heap:=w.heap.push (.cells cur t)})
  (fV:∀d∈row.els,aK row.sh d)(hlen:(au row.els).length≤cur.size)(hc:aY (LR ρ w T) (au row.els) (cur.toList.take (au row.els).length)):
  dO n (sE ρ rows.length ⟨w.heap.size,row.sh,cur.size,false⟩) T env (rows++[some row]) a w'∧Step ρ T rows w (sE ρ rows.length ⟨w.heap.size,row.sh,cur.size,false⟩) T (rows++[some row]) w':=by
 subst hw'
 exact hs.push row cur t rfl rfl rfl rfl fV hlen hc
theorem aY.I7{α β:Type}{R:α→β→Prop}{l:List α}{m:List β}(h:aY R l m):aY R l (m.take l.length):=by
 rw[h.len,List.take_length]
 exact h
theorem Cd(off:Nat):∀(vs:List Value) (k:Nat) (cells:Array Value),off+k+vs.length≤cells.size→
  ((vs.zipIdx k).foldl (fun(cs:Array Value) (x:Value×Nat)=>cs.setIfInBounds (off+x.2) x.1) cells).toList=cells.toList.take (off+k)++(vs++cells.toList.drop (off+k+vs.length))
 |[],k,cells,_=>by simp
 | v :: vs, k, cells, h => by
  simp only[List.zipIdx_cons,List.foldl_cons]
  rw[Cd off vs (k+1) _ (by simp at h⊢;omega)]
  simp only[List.length_cons]at h
  have h1:(cells.setIfInBounds (off+k) v).toList=cells.toList.set (off+k) v:=by simp
  rw[h1]
  apply List.ext_getElem?
  intro i
  simp only[List.getElem?_append,List.length_take,List.length_set,Array.length_toList,List.getElem?_take,List.getElem?_set,List.getElem?_drop,List.length_cons,List.getElem?_cons]
  have hsz:off+k<cells.size:=by omega
  rcases Nat.lt_trichotomy i (off+k)with h2|h2|h2
  ·simp[show i<min (off+(k+1)) cells.size by omega,show i<min (off+k) cells.size by omega,show i<off+(k+1) by omega,show i<off+k by omega,show¬(off+k=i) by omega]
  ·subst h2
   simp[show off+k<min (off+(k+1)) cells.size by omega,show¬(off+k<min (off+k) cells.size) by omega,show min (off+k) cells.size=off+k by omega,hsz,show off+k<off+(k+1) by omega]
  ·have e1:min (off+(k+1)) cells.size=off+(k+1):=by omega
   have e2:min (off+k) cells.size=off+k:=by omega
   simp only[e1,e2,show¬(i<off+(k+1)) by omega,show¬(i<off+k) by omega,if_false]
   have e3:i-(off+k)≠0:=by omega
   by_cases h3:i-(off+(k+1))<vs.length
   ·simp only[h3,if_true,show i-(off+k)<vs.length+1 by omega,e3,if_false]
    congr 1
   ·simp only[h3,if_false,show¬(i-(off+k)<vs.length+1) by omega]
    rw[if_neg (by omega)]
    congr 1
    omega
theorem VM{l:List (Nat×Operand)}{ps:List (Nat×X)}(h:nK l=some ps):(l=[]∧ps=[])∨∃i x r y q,l=(i,x)::r∧ps=(i,y)::q∧cX x=some y∧nK r=some q:=by
 cases l with
 |nil=>simp[nK]at h;exact .inl ⟨rfl,h⟩
 | cons p r =>
  obtain⟨i,x⟩:=p
  simp only[nK]at h
  split at h
  ·rename_i y hy
   split at h
   ·rename_i q hq
    cases h
    exact .inr ⟨i,x,r,y,q,rfl,rfl,hy,hq⟩
   ·cases h
  ·cases h
theorem xX(hs:dO n ρ T env rows a w)(hG:rj C ρ w T){s:Sh}{place:Nat→Option (Nat×Nat)}(nO:∀i e,s.sub i=some e→place i=some (s.ju i,e.size))(ha:s.isAgg=true):
  ∀(parts:List (Nat×Operand)) (ps:List (Nat×X)) (l l':List D) (cells:Array Value),nK parts=some ps→m9 C env s.sub ps l=some l'→aK s (.agg s l)→aY (LR ρ w T) (au l) cells.toList→
  ∃cells',Instr.fill place cells (parts.map fun x=>(x.1,a.eval x.2))=some cells'∧aK s (.agg s l')∧aY (LR ρ w T) (au l') cells'.toList:=by
 intro parts
 induction parts with
 |nil=>
  intro ps l l' cells hc hf hsh bY
  simp[nK]at hc
  subst hc
  simp[m9]at hf
  subst hf
  exact⟨cells,rfl,hsh,bY⟩
 | cons p parts ih =>
  intro ps l l' cells hc hf hsh bY
  rcases VM hc with⟨h,_⟩|⟨i,x,r,y,q,h1,h2,h3,h4⟩
  ·cases h
  ·cases h1
   subst h2
   simp only[m9]at hf
   split at hf
   ·rename_i d hd
    split at hf
    ·rename_i e he
     cases hfit:d.fits e with
     |false=>rw[hfit]at hf;simp at hf
     | true =>
      rw[hfit]at hf
      simp at hf
      obtain⟨g1,g2,_⟩:=(bI h3 hd hs hG).cells hfit
      obtain⟨d0,hd0,Ce,mH⟩:=hsh.part ha he
      have hall':=bY
      rw[fu hd0]at bY
      have EH:=aY.seg (N:=cells.toList.length) (by rw[List.take_length];exact bY)
      have HF:d0.flat.length=e.size:=Ce.len
      have hvs:(a.eval x).cells.size=e.size:=by rw[←g1.len];simpa using g2.len.symm
      have hfold:=Cd (s.ju i) (a.eval x).cells.toList 0 cells (by rw[mH]at EH;simp[hvs];simp[HF]at EH;omega)
      have uu:=hsh.Qe ha he g1
      have iB:aY (LR ρ w T) (au (l.set i d)) ((a.eval x).cells.zipIdx.foldl (fun cs (c,j)=>cs.setIfInBounds (s.ju i+j) c) cells).toList:=by
       rw[←Array.foldl_toList,Array.toList_zipIdx,hfold,A6 (cN hd0)]
       have q1:=bY.take (au (l.take i)).length
       rw[List.take_left]at q1
       have q2:=bY.drop ((au (l.take i)).length+d0.flat.length)
       rw[←List.drop_drop,List.drop_left,List.drop_left]at q2
       have e1:s.ju i+0=(au (l.take i)).length:=by rw[mH];rfl
       have e2:s.ju i+0+(a.eval x).cells.toList.length=(au (l.take i)).length+d0.flat.length:=by rw[mH,HF];simp[hvs]
       rw[e2,e1]
       exact q1.append (g2.append q2)
      obtain⟨cells',k1,k2,k3⟩:=ih q (l.set i d) l' _ h4 hf uu iB
      refine⟨cells',?_,k2,k3⟩
      simp only[List.map_cons,Instr.fill,nO i e he]
      rw[if_neg]
      ·exact k1
      ·have:=EH.2
       rw[mH,HF]at this
       simp[hvs]
       simp at this
       omega
    ·cases hf
   ·cases hf
theorem uT{s:Sh}{z:D}(hz:aK s z):∀(m i:Nat),(au (List.replicate m z))[i]?=if i<m*s.size then z.flat[i %s.size]? else none
 |0,i=>by simp[au]
 | m + 1, i => by
  simp only[List.replicate_succ,au]
  rw[List.getElem?_append,hz.len]
  by_cases h:i<s.size
  ·rw[if_pos h,if_pos (by rw[Nat.succ_mul];omega),Nat.mod_eq_of_lt h]
  ·rw[if_neg h,uT hz m (i-s.size)]
   have h0:0<s.size∨s.size=0:=by omega
   rcases h0 with h0|h0
   ·have e:i %s.size=(i-s.size) %s.size:=by
     rw[←Nat.mod_eq_sub_mod (by omega)]
    rw[e]
    by_cases h1:i-s.size<m*s.size
    ·rw[if_pos h1,if_pos (by rw[Nat.succ_mul];omega)]
    ·rw[if_neg h1,if_neg (by rw[Nat.succ_mul];omega)]
   ·simp[h0]
theorem sM{s:Sh}{z:D}{v:Value}(hz:aK s z)(hv:v.cells.size=s.size)(hc:aY (LR ρ w T) z.flat v.cells.toList)(m:Nat):
  aY (LR ρ w T) (au (List.replicate m z)) ((Array.range (m*s.size)).map (v.cells[· %v.cells.size]!)).toList:=by
 refine⟨?_,fun i x y hx hy=>?_⟩
 ·rw[bb (s:=s) (fun d hd=>(List.eq_of_mem_replicate hd)▸hz)]
  simp
 ·rw[uT hz]at hx
  split at hx
  ·rename_i hi
   simp only[Array.toList_map,Array.toList_range,List.getElem?_map,List.getElem?_range hi,Option.map_some,Option.some.injEq]at hy
   obtain⟨u,hu,hr⟩:=hc.some hx
   have hlt:i %v.cells.size<v.cells.size:=by
    rw[hv]
    apply Nat.mod_lt
    rcases Nat.eq_zero_or_pos s.size with h0|h0
    ·rw[h0]at hi;simp at hi
    ·exact h0
   have e:v.cells[i %v.cells.size]! =u:=by
    have h1:v.cells[i %s.size]?=some u:=by simpa using hu
    rw[hv]
    rw[hv]at hlt
    have h2:i %s.size<v.cells.size:=by omega
    rw[getElem!_pos v.cells (i %s.size) h2]
    rw[Array.getElem?_eq_getElem h2]at h1
    exact Option.some.inj h1
   rw[←hy,e]
   exact hr
  ·cases hx
section ops
variable (hs:dO n ρ T env rows a w) (hG:rj C ρ w T) {o:Oper} {k:D→Rows→Prop}
include hs hG
omit hG in
theorem VN{t:TypeId}{s:Sh}{z:D}(ho:o.op= .alloc t)(hsh:sh P t=some s)(hz:zero P t=some z)(h:df C env rows (.alloc s z) k):bU P n o ρ T env rows a w k:=by
 obtain⟨h1,v,h2,h3,h4⟩:=jy hsh hz
 have hc:aY (LR ρ w T) (au [z]) v.cells.toList:=by simpa[au]using h4 ρ w T
 obtain⟨g1,g2⟩:=hs.DY ⟨s,[z]⟩ v.cells t _ rfl (by simpa using h1) (by simp[au,h1.len,h3]) hc.I7
 refine⟨_,_,_,_,.pointer (some ⟨w.heap.size,0,none⟩),_,h,g1,g2,?_,.inl ?_,fun _=>⟨fun b hb=> .inl (rk hb),fun _ h=> .inl h⟩⟩
 ·have:=LR.ptr (ρ:=sE ρ rows.length ⟨w.heap.size,s,v.cells.size,false⟩) (w:={w with heap:=w.heap.push (.cells v.cells t)}) (T:=T) s rows.length [0] ⟨w.heap.size,s,v.cells.size,false⟩ (by simp[sE]) rfl
  simpa[Loc.off,Sh.off]using VR.bG this
 ·simp[execOp,ho,Instr.alloc,h2,newVar,newRow]
theorem op_box{t:TypeId}{x:Operand}{x':X}{s:Sh}(ho:o.op= .box t x)(h1:cX x=some x')(h:df C env rows (.box s x') k):bU P n o ρ T env rows a w k:=by
 obtain⟨d,he,hf,hk⟩:=ah h
 obtain⟨g1,g2,_⟩:=(bI h1 he hs hG).cells hf
 have hc:aY (LR ρ w T) (au [d]) (a.eval x).cells.toList:=by simpa[au]using g2
 obtain⟨q1,q2⟩:=hs.DY ⟨s,[d]⟩ (a.eval x).cells t _ rfl (by simpa using g1) (by have:=hc.len;simp at this⊢;omega) hc.I7
 refine⟨_,_,_,_,.pointer (some ⟨w.heap.size,0,none⟩),_,hk,q1,q2,?_,.inl ?_,fun _=>⟨fun b hb=> .inl (rk hb),fun _ h=> .inl h⟩⟩
 ·have:=LR.ptr (ρ:=sE ρ rows.length ⟨w.heap.size,s,(a.eval x).cells.size,false⟩) (w:={w with heap:=w.heap.push (.cells (a.eval x).cells t)}) (T:=T) s rows.length [0] ⟨w.heap.size,s,(a.eval x).cells.size,false⟩ (by simp[sE]) rfl
  simpa[Loc.off,Sh.off]using VR.bG this
 ·simp[execOp,ho,Instr.box,newVar,newRow]
theorem HG{t:TypeId}{x y:Operand}{x' y':X}{s:Sh}(ho:o.op= .store t x y)(hsh:sh P t=some s)(h1:cX x=some x')(h2:cX y=some y')(h:df C env rows (.store s x' y') k):
  ∃d ab v w',k d ab∧dO n ρ T env ab a w'∧Step ρ T rows w ρ T ab w'∧VR ρ w' T d v∧Runs P o a w v w'∧∃r p L,ev C env x'=some (.ptr s r p)∧ρ r=some L∧(∀b,b≠L.b→w'.heap[b]?=w.heap[b]?)∧∃x,ab=rows.set r (some x):=by
 obtain⟨d,he,hk⟩:=ah h
 have hv:=bI h1 he hs hG
 split at hk
 ·rename_i s' r p
  obtain⟨d,uR,k1⟩:=ah hk
  obtain⟨hf,Lb,k2⟩:=k1
  subst Lb
  obtain⟨row,qc,k3⟩:=ah k2
  obtain⟨els,uu,k4⟩:=ah k3
  clear hk k2 k3
  obtain⟨g1,g2,_⟩:=(bI h2 uR hs hG).cells hf
  have hl:LR ρ w T _ _:=hv
  generalize hx:a.eval x=v at hl
  cases hl with
  | ptr _ _ _ L hL hp =>
   have hr:=hs.bD.row r row L qc hL
   obtain⟨cur,t',q1,q2,q3,q4⟩:=hr.cells (Loc.Eu hp)
   cases p with
   |nil=>simp[Loc.at]at hp
   | cons i p =>
    have hmp:=Loc.Eu hp
    rw[Loc.wg hmp,hr.sh]at hp
    obtain⟨m1,m2,m3,pre,old,post,m4,m5,m6,m7⟩:=Ca hr.els hp g1 uu
    rw[m4]at q4
    have EH:=q4.seg
    have mH:L.off (i::p)=pre.length:=by simp[Loc.off,hr.sh,m6]
    have hvl:(a.eval y).cells.toList.length=d.flat.length:=g2.len.symm
    have hfit:L.off (i::p)+0+(a.eval y).cells.toList.length≤cur.size:=by rw[mH,hvl,←m7];simpa using EH.2
    have hone:∀v∈(a.eval y).cells.toList,v.oneCell'=true:=by
     intro v hv
     obtain⟨j,hj,rfl⟩:=List.mem_iff_getElem.1 hv
     exact(g2.at_ j _ _ (List.getElem?_eq_getElem (by omega)) (List.getElem?_eq_getElem hj)).one
    have hst:=fW P L.b (L.off (i::p)) t' (a.eval y).cells.toList 0 cur w q1 hfit hone
    have lz:(au els).length=(pre++(old++post)).length:=by rw[m5];simp[m7]
    have iB:aY (LR ρ w T) (au els) ((cur.toList.take (L.off (i::p)+0)++(a.eval y).cells.toList++cur.toList.drop (L.off (i::p)+0+(a.eval y).cells.toList.length)).take (au els).length):=by
     rw[mH,hvl,←m7]
     have z1:=q4.take pre.length
     rw[List.take_left,List.take_take]at z1
     have z2:=q4.drop (pre.length+old.length)
     rw[←List.drop_drop,List.drop_left,List.drop_left,List.drop_take]at z2
     have hle:pre.length+old.length≤cur.toList.length:=EH.2
     have:((cur.toList.take (pre.length+0)++(a.eval y).cells.toList++cur.toList.drop (pre.length+0+old.length)).take (au els).length)=
       cur.toList.take (min pre.length (pre++(old++post)).length)++((a.eval y).cells.toList++((cur.toList.drop (pre.length+old.length)).take ((pre++(old++post)).length-(pre.length+old.length)))):=by
      rw[List.append_assoc,lz,List.take_append,List.take_append]
      simp only[Nat.add_zero,List.length_take]
      have e1:min pre.length cur.toList.length=pre.length:=by omega
      rw[e1]
      simp only[List.length_append]
      rw[List.take_take]
      have e2:min (pre.length+(old.length+post.length)) pre.length=min pre.length (pre.length+(old.length+post.length)):=by omega
      rw[e2]
      congr 1
      have e3:(a.eval y).cells.toList.length=old.length:=by omega
      rw[e3]
      congr 1
      ·rw[List.take_of_length_le]
       omega
      ·congr 1
       omega
     rw[this,m5]
     exact z1.append (g2.append z2)
    obtain⟨u1,u2⟩:=hs.write qc hL els cur _ t' hmp q1 (by have hf2:=hfit;simp only[Array.length_toList]at hf2;simp only[List.size_toArray,List.length_append,List.length_take,List.length_drop,Array.length_toList];omega) m1
     (by rw[lz];rw[m4]at q3;exact q3) iB
    refine⟨_,_,undef,_,k4,u1,u2,?_,.inr ⟨?_,rfl⟩,r,i::p,L,he,hL,fun b hb=>setRow_other w L.b b _ hb,_,rfl⟩
    ·exact⟨#[],rfl,.nil⟩
    ·obtain⟨inf,hi,hsz⟩:=wj hsh
     have hcs:(a.eval y).cells.size=s'.size:=by rw[←g1.len];simpa using g2.len.symm
     simp[execOp,ho,hx,Instr.storeAt,Instr.sureAddr,storeVar,sizeOf,typeInfo,hi,hsz,hcs,hst]
 ·exact hk.elim
theorem VO{t:TypeId}{x y:Operand}{x' y':X}{s:Sh}(ho:o.op= .store t x y)(hsh:sh P t=some s)(h1:cX x=some x')(h2:cX y=some y')(h:df C env rows (.store s x' y') k):bU P n o ρ T env rows a w k:=by
 obtain⟨d,ab,v,w',g1,g2,g3,g4,g5,-⟩:=HG hs hG ho hsh h1 h2 h
 exact⟨d,ab,ρ,T,v,w',g1,g2,g3,g4,g5,fun hq=>by rw[ho]at hq;cases hq⟩
end ops
end Go.Am

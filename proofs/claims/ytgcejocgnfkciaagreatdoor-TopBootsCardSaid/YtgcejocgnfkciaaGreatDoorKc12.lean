import Derived.Test.YtgcejocgnfkciaaGreatDoorKc11
import Derived.Test.YtgcejocgnfkciaaGreatDoorRows
import Derived.OpenShut
import Derived.WalkKit
import Derived.ProofKit
import Derived.JoinedCond
import Derived.Carry
import Derived.Lib.LaidTab
namespace Go.Am
set_option linter.unusedVariables false
set_option linter.unusedSimpArgs false
def Tf(R:Env→Rows→Prop)(Q:fa→Env→Rows→Prop):fa→Env→Rows→Prop:=fun e env rows=>match e with
 | .normal=>R env rows
 |e=>Q e env rows
theorem q_rn(R Q env rows):Tf R Q .normal env rows=R env rows:=Eq.trans rfl rfl
theorem q_rr(R Q env rows):Tf R Q .ret env rows=Q .ret env rows:=Eq.trans rfl rfl
theorem q_re(R Q i env rows):Tf R Q (.exit i) env rows=Q (.exit i) env rows:=Eq.trans rfl rfl
theorem rB{C:be}{a:aB}{Q:fa→Env→Rows→Prop}(I:Nat→Env→Rows→Prop)
  (h:∀k env rows,I k env rows→∀R:Env→Rows→Prop,(∀k' env' ab,k'<k→I k' env' ab→R env' ab)→aw C a (Tf R Q) env rows)(k:Nat){env:Env}{rows:Rows}(h0:I k env rows):H0 C a Q env rows:=by
 have key:∀n k env rows,k<n→I k env rows→jd (aw C a) Q n env rows:=by
  intro n
  induction n with
  |zero=>intro k env rows hk;omega
  |succ n ih=>
   intro k env rows hk hi
   exact h k env rows hi (jd (aw C a) Q n) (fun k' env' ab Lf hi'=>ih k' env' ab (by omega) hi')
 exact⟨k+1,key (k+1) k env rows (by omega) h0⟩
def has(env:Env):Env→Prop
 |[]=>True
 |(t,d)::l=>look env t=some d∧has env l
def iK(s:Sh)(d:D)(rows:Rows)(els:List D):Prop:=
 (els=[]∧d= .raw (.slice none 0 0))∨∃r ex,d= .sl s r [] 0 els.length ex∧live rows r=some ⟨s,els⟩
theorem iK.nil{s:Sh}{rows:Rows}:iK s (.raw (.slice none 0 0)) rows []:= .inl ⟨rfl,rfl⟩
theorem iK.elems{s:Sh}{d:D}{rows:Rows}{els:List D}(h:iK s d rows els):elems rows d=some els:=by
 rcases h with⟨rfl,rfl⟩|⟨r,ex,rfl,hl⟩
 ·rfl
 ·simp only[Am.elems,hl];simp
theorem iK.dK{s:Sh}{d:D}{rows:Rows}{els:List D}(h:iK s d rows els):dK d=some els.length:=by
 rcases h with⟨rfl,rfl⟩|⟨r,ex,rfl,hl⟩
 ·rfl
 ·rfl
theorem iK.eK{s:Sh}{d:D}{rows:Rows}{els:List D}(h:iK s d rows els):eK s d=true:=by
 rcases h with⟨rfl,rfl⟩|⟨r,ex,rfl,hl⟩
 ·rfl
 ·simp[Am.eK]
theorem vi{rows:Rows}{x:Row}:live (rows++[some x]) rows.length=some x:=by simp[live]
theorem bJ{rows more:Rows}{r:Nat}{x:Row}(h:live rows r=some x):live (rows++more) r=some x:=by
 have:=bn h
 unfold live at h⊢
 rw[List.getElem?_append_left this];exact h
theorem iX{s:Sh}{d:D}{rows:Rows}{els news:List D}{bytes:Nat}{k:D→Rows→Prop}(h:iK s d rows els)(hb:(els.length+news.length)*bytes≤most)(HI:els.length+news.length≤most)
  (hk:∀d' ab,iK s d' ab (els++news)→(∀r x,live rows r=some x→(∀ex,d≠ .sl s r [] 0 els.length ex)→live ab r=some x)→ab.length=rows.length+1→(∃r ex,d'= .sl s r [] 0 (els++news).length ex)→k d' ab):uL rows s bytes d news k:=by
 unfold uL
 rw[h.elems,h.dK]
 refine⟨h.eK,rfl,hb,HI,?_⟩
 have e:els.length+news.length=(els++news).length:=by simp
 rcases h with⟨rfl,rfl⟩|⟨r,ex,rfl,hl⟩
 ·simp only[isNil,Bool.true_or,cond_true,kill,e]
  refine hk _ _ (.inr ⟨rows.length,false,rfl,vi⟩) (fun r x hx _=>bJ hx) (by simp) ⟨_,_,rfl⟩
 ·simp only[isNil,owned,Bool.false_or,cond_true,kill,e]
  have h1:(rows.set r none).length=rows.length:=by simp
  refine hk _ _ (.inr ⟨rows.length,false,rfl,by rw[←h1];exact vi⟩) (fun r' x hx hne=>?_) (by simp) ⟨_,_,rfl⟩
  have hr:r≠r':=fun e=>hne ex (by rw[e])
  refine bJ ?_
  unfold live at hx⊢
  rw[List.getElem?_set_ne hr];exact hx
def bs(l:List (BitVec 8)):List D:=l.map fun b=> .raw (u8 b)
def Z3:D→Option (BitVec 8)
 | .raw (.int .u8 n)=>bif decide (0≤n)&&decide (n<256)then some (BitVec.ofInt 8 n)else none
 | _=>none
def qN:D→Option (BitVec 32)
 | .raw (.int .u32 n)=>bif decide (0≤n)&&decide (n<4294967296)then some (BitVec.ofInt 32 n)else none
 | _=>none
def Ot:D→Option (BitVec 64)
 | .raw (.int .u64 n)=>bif decide (0≤n)&&decide (n<18446744073709551616)then some (BitVec.ofInt 64 n)else none
 | _=>none
def rC:D→Option Int
 | .raw (.int .i64 n)=>some n
 | _=>none
theorem Jr(x:BitVec 8):Z3 (.raw (u8 x))=some x:=by
 have:=lt8 x
 simp only[Z3,u8]
 rw[show(decide (0≤(x.toNat:Int))&&decide ((x.toNat:Int)<256))=true by simp;omega]
 simp
theorem fK(x:BitVec 32):qN (.raw (u32 x))=some x:=by
 have:=lt32 x
 simp only[qN,u32]
 rw[show(decide (0≤(x.toNat:Int))&&decide ((x.toNat:Int)<4294967296))=true by simp;omega]
 simp
theorem D0(x:BitVec 64):Ot (.raw (u64 x))=some x:=by
 have:=lt64 x
 simp only[Ot,u64]
 rw[show(decide (0≤(x.toNat:Int))&&decide ((x.toNat:Int)<18446744073709551616))=true by simp;omega]
 simp
theorem nS(n:Int):rC (.raw (it n))=some n:=rfl
theorem E8{d:D}{x:BitVec 8}(h:Z3 d=some x):d= .raw (u8 x):=by
 unfold Z3 at h
 split at h
 ·rename_i n
  cases hb:(decide (0≤n)&&decide (n<256))with
  |false=>rw[hb]at h;cases h
  |true=>
   rw[hb]at h
   simp only[cond_true,Option.some.injEq]at h
   simp only[Bool.and_eq_true,decide_eq_true_eq]at hb
   subst h
   unfold u8
   rw[BitVec.toNat_ofInt]
   congr 2
   simp;omega
 ·cases h
theorem dL{d:D}{x:BitVec 32}(h:qN d=some x):d= .raw (u32 x):=by
 unfold qN at h
 split at h
 ·rename_i n
  cases hb:(decide (0≤n)&&decide (n<4294967296))with
  |false=>rw[hb]at h;cases h
  |true=>
   rw[hb]at h
   simp only[cond_true,Option.some.injEq]at h
   simp only[Bool.and_eq_true,decide_eq_true_eq]at hb
   subst h
   unfold u32
   rw[BitVec.toNat_ofInt]
   congr 2
   simp;omega
 ·cases h
theorem rD{d:D}{x:BitVec 64}(h:Ot d=some x):d= .raw (u64 x):=by
 unfold Ot at h
 split at h
 ·rename_i n
  cases hb:(decide (0≤n)&&decide (n<18446744073709551616))with
  |false=>rw[hb]at h;cases h
  |true=>
   rw[hb]at h
   simp only[cond_true,Option.some.injEq]at h
   simp only[Bool.and_eq_true,decide_eq_true_eq]at hb
   subst h
   unfold u64
   rw[BitVec.toNat_ofInt]
   congr 2
   simp;omega
 ·cases h
theorem bX{d:D}{x:Int}(h:rC d=some x):d= .raw (it x):=by
 unfold rC at h
 split at h
 ·cases h;rfl
 ·cases h
def dN:D→Option (List (BitVec 8))
 | .raw (.slice none 0 0)=>some []
 | .cF s l _=>bif s== .leaf uE then cW Z3 l else none
 | _=>none
theorem mapO_bs(l:List (BitVec 8)):cW Z3 (bs l)=some l:=by
 induction l with
 |nil=>rfl
 |cons x l ih=>
  simp only[bs,List.map_cons,cW,Jr]
  have:cW Z3 (List.map (fun b=>D.raw (u8 b)) l)=some l:=ih
  rw[this]
theorem LN:∀{l:List D} {l':List (BitVec 8)},cW Z3 l=some l'→l=bs l'
 |[],l',h=>by simp[cW]at h;subst h;rfl
 | x :: l, l', h => by
  simp only[cW]at h
  split at h
  ·rename_i y hy
   split at h
   ·rename_i ys hys
    cases h
    rw[E8 hy,LN hys]
    rfl
   ·cases h
  ·cases h
theorem zp(l:List (BitVec 8))(e:Bool):dN (.cF (.leaf uE) (bs l) e)=some l:=by
 simp only[dN]
 rw[show((Sh.leaf uE)== .leaf uE)=true by simp,cond_true,mapO_bs]
theorem WX:dN (.raw (.slice none 0 0))=some []:=rfl
def ec(d:D)(l:List (BitVec 8)):Prop:=(d= .raw (.slice none 0 0)∧l=[])∨∃e,d= .cF (.leaf uE) (bs l) e
theorem eU{d:D}{l:List (BitVec 8)}(h:dN d=some l):ec d l:=by
 unfold dN at h
 split at h
 ·cases h;exact .inl ⟨rfl,rfl⟩
 ·rename_i s l0 e
  cases hb:(s== .leaf uE)with
  |false=>rw[hb]at h;cases h
  |true=>
   rw[hb]at h
   have:s= .leaf uE:=by simpa using hb
   subst this
   exact .inr ⟨e,by rw[LN h]⟩
 ·cases h
theorem ec.elems{d:D}{l:List (BitVec 8)}{rows:Rows}(h:ec d l):elems rows d=some (bs l):=by
 rcases h with⟨rfl,rfl⟩|⟨e,rfl⟩<;>rfl
theorem ec.dK{d:D}{l:List (BitVec 8)}(h:ec d l):dK d=some l.length:=by
 rcases h with⟨rfl,rfl⟩|⟨e,rfl⟩
 ·rfl
 ·simp[Am.dK,bs]
theorem ec.eK{d:D}{l:List (BitVec 8)}(h:ec d l):eK (.leaf uE) d=true:=by
 rcases h with⟨rfl,rfl⟩|⟨e,rfl⟩
 ·rfl
 ·simp[Am.eK]
theorem ec.rd{d:D}{l:List (BitVec 8)}(h:ec d l):dN d=some l:=by
 rcases h with⟨rfl,rfl⟩|⟨e,rfl⟩
 ·rfl
 ·exact zp l e
theorem gh{d:D}{l:List (BitVec 8)}{n:Int}{rows:Rows}{k:D→Rows→Prop}(h:ec d l)(hn:0≤n∧n<l.length):nQ (.leaf (.int .u8)) n rows k d=k (.b5 (.raw (u8 (l.getD n.toNat 0#8)))) rows:=by
 rcases h with⟨rfl,rfl⟩|⟨e,rfl⟩
 ·simp at hn;omega
 ·have h1:n.toNat<l.length:=by omega
  have h2:(bs l)[n.toNat]?=some (.raw (u8 (l.getD n.toNat 0#8))):=by simp[bs,h1]
  simp only[nQ,h2,bd]
  simp[bs,hn]
theorem aC(l:List (BitVec 8)):(bs l).length=l.length:=by simp[bs]
theorem nU(a b:List (BitVec 8)):bs a++bs b=bs (a++b):=by simp[bs]
theorem mJ{l:List (BitVec 8)}{i:Nat}(h:i<l.length):(bs l)[i]?=some (.raw (u8 (l.getD i 0#8))):=by
 simp[bs,h]
theorem Qz(l:List (BitVec 8))(x:BitVec 8):bs (l++[x])=bs l++[.raw (u8 x)]:=by simp[bs]
theorem oV{α:Type}{a:List α}{i:Nat}{z:α}(h:i<a.length):a.take (i+1)=a.take i++[a.getD i z]:=by
 rw[List.take_succ_eq_append_getElem h];simp[h]
theorem fw(l:List (BitVec 8))(n:Nat):(bs l).drop n=bs (l.drop n):=by simp[bs]
theorem ey(l:List (BitVec 8))(n:Nat):(bs l).take n=bs (l.take n):=by simp[bs]
theorem iK.view{d:D}{rows:Rows}{l:List (BitVec 8)}(h:iK (.leaf uE) d rows (bs l)):∃d',view rows 9 d=some d'∧ec d' l:=by
 rcases h with⟨h1,rfl⟩|⟨r,ex,rfl,hl⟩
 ·have:l=[]:=by cases l<;>simp_all[bs]
  subst this
  exact⟨_,rfl,.inl ⟨rfl,rfl⟩⟩
 ·refine⟨.cF (.leaf uE) (bs l) ex,?_,.inr ⟨ex,rfl⟩⟩
  simp only[Am.view]
  have:Am.elems rows (.sl (.leaf uE) r [] 0 (bs l).length ex)=some (bs l):=by simp only[Am.elems,hl];simp
  rw[this]
  simp[Sh.pure]
theorem aH{P:Program}{G:Nat→Option D}{f:FuncId}{A:jx}{F:Fn}(hA:aO G P f A)
  (h:∀ds rows r,F ds rows=some r→rows=[]∧A ds [] (fun d rows=>wR rows d r.1 r.2)):aO G P f (Fn.run F):=by
 intro ds rows K hr ρ w T args hrows kq wN hargs hG
 unfold Fn.run at hr
 obtain⟨r,hr,hk⟩:=ah hr
 obtain⟨rfl,h2⟩:=h ds rows r hr
 have WY:∀r,ρ r=none:=fun r=>kq r (by simp)
 exact(hA _ [] _ h2 ρ w T args hrows kq wN hargs hG).mono fun e w' hb=>Bc.Jl WY hb fun d rows hx=>⟨_,_,hx,hk⟩
def lE{α:Type}(rd:D→Option α)(pre:α→Bool)(out:α→D×Rows):Fn
 |[d],[]=>match rd d with
  |some x=>bif pre x then some (out x)else none
  |none=>none
 | _,_=>none
def wS{α β:Type}(rd:D→Option α)(rd':D→Option β)(pre:α→β→Bool)(out:α→β→D×Rows):Fn
 |[d,e],[]=>match rd d,rd' e with
  |some x,some y=>bif pre x y then some (out x y)else none
  | _,_=>none
 | _,_=>none
theorem a8{α:Type}{rd:D→Option α}{pre:α→Bool}{out:α→D×Rows}{ds:List D}{rows:Rows}{r:D×Rows}(h:lE rd pre out ds rows=some r):
  ∃d x,ds=[d]∧rows=[]∧rd d=some x∧pre x=true∧r=out x:=by
 unfold lE at h
 split at h
 ·rename_i d
  split at h
  ·rename_i x hx
   cases hp:pre x with
   |false=>rw[hp]at h;cases h
   |true=>rw[hp]at h;cases h;exact⟨d,x,rfl,rfl,hx,hp,rfl⟩
  ·cases h
 ·cases h
theorem dq{α β:Type}{rd:D→Option α}{rd':D→Option β}{pre:α→β→Bool}{out:α→β→D×Rows}{ds:List D}{rows:Rows}{r:D×Rows}(h:wS rd rd' pre out ds rows=some r):
  ∃d e x y,ds=[d,e]∧rows=[]∧rd d=some x∧rd' e=some y∧pre x y=true∧r=out x y:=by
 unfold wS at h
 split at h
 ·rename_i d e
  split at h
  ·rename_i x y hx hy
   cases hp:pre x y with
   |false=>rw[hp]at h;cases h
   |true=>rw[hp]at h;cases h;exact⟨d,e,x,y,rfl,rfl,hx,hy,hp,rfl⟩
  ·cases h
 ·cases h
theorem ei{α:Type}{rd:D→Option α}{pre:α→Bool}{out:α→D×Rows}{d:D}{x:α}(h:rd d=some x)(hp:pre x=true):lE rd pre out [d] []=some (out x):=by
 simp[lE,h,hp]
theorem jP{α β:Type}{rd:D→Option α}{rd':D→Option β}{pre:α→β→Bool}{out:α→β→D×Rows}{d e:D}{x:α}{y:β}(h:rd d=some x)(h':rd' e=some y)(hp:pre x y=true):
  wS rd rd' pre out [d,e] []=some (out x y):=by
 simp[wS,h,h',hp]
def ez(l:List (BitVec 8))(ex:Bool):D×Rows:=(.sl (.leaf uE) 0 [] 0 l.length ex,[some ⟨.leaf uE,bs l⟩])
def bc(rows:Rows)(d:D)(l:List (BitVec 8)):Prop:=(∃d',view rows 9 d=some d'∧ec d' l)∧(aQ d=false→ec d l)
theorem ec.to{rows:Rows}{d:D}{l:List (BitVec 8)}(h:ec d l):bc rows d l:=by
 refine⟨?_,fun _=>h⟩
 rcases h with⟨rfl,rfl⟩|⟨e,rfl⟩
 ·exact⟨_,rfl,.inl ⟨rfl,rfl⟩⟩
 ·exact⟨.cF (.leaf uE) (bs l) e,rfl,.inr ⟨e,rfl⟩⟩
theorem iK.to{rows:Rows}{d:D}{l:List (BitVec 8)}(h:iK (.leaf uE) d rows (bs l)):bc rows d l:=by
 refine⟨h.view,fun hr=>?_⟩
 rcases h with⟨h1,rfl⟩|⟨r,ex,rfl,hl⟩
 ·have:l=[]:=by cases l<;>simp_all[bs]
  exact .inl ⟨rfl,this⟩
 ·simp[aQ]at hr
noncomputable def b8{α:Type}(mk:α→D)(d:D):Option α:=open Classical in if h:∃x,d=mk x then some h.choose else none
theorem aF{α:Type}{mk:α→D}{d:D}{x:α}(h:b8 mk d=some x):d=mk x:=by
 unfold b8 at h
 split at h
 ·rename_i hh
  cases h
  exact hh.choose_spec
 ·cases h
theorem bV{α:Type}{mk:α→D}(WZ:∀x y,mk x=mk y→x=y)(x:α):b8 mk (mk x)=some x:=by
 have h:∃y,mk x=mk y:=⟨x,rfl⟩
 unfold b8
 rw[dif_pos h]
 exact congrArg some (WZ _ _ h.choose_spec.symm)
theorem W0{x y:BitVec 8}:u8 x=u8 y↔x=y:=⟨fun h=>by unfold u8 at h;injection h with _ h;exact BitVec.eq_of_toNat_eq (by omega),fun h=>by rw[h]⟩
theorem QA{x y:BitVec 32}:u32 x=u32 y↔x=y:=⟨fun h=>by unfold u32 at h;injection h with _ h;exact BitVec.eq_of_toNat_eq (by omega),fun h=>by rw[h]⟩
theorem u64_inj{x y:BitVec 64}:u64 x=u64 y↔x=y:=⟨fun h=>by unfold u64 at h;injection h with _ h;exact BitVec.eq_of_toNat_eq (by omega),fun h=>by rw[h]⟩
theorem E9{x y:Int}:it x=it y↔x=y:=⟨fun h=>by unfold it at h;injection h,fun h=>by rw[h]⟩
theorem bi{A:Fn}{rows:Rows}{k:D→Rows→Prop}{ds:List D}{r:D×Rows}(h:aN ds=false)(hA:A ds []=some r):aJ A rows k ds=k (shift rows.length r.1) (rows++ae rows.length r.2):=by
 unfold aJ
 rw[h,hA]
 simp[bd]
theorem zq{A:Fn}{rows:Rows}{k:D→Rows→Prop}{d:D}{r:D×Rows}(hv:∀d',view rows 9 d=some d'→A [d'] []=some r)(hs:∃d',view rows 9 d=some d')(hn:aQ d=false→A [d] []=some r)
  (hr:(bZ r.1&&aS r.2)=true):aJ A rows k [d]=k (shift rows.length r.1) (rows++ae rows.length r.2):=by
 obtain⟨d',je⟩:=hs
 unfold aJ
 have h1:aN [d]=aQ d:=by simp[aN]
 rw[h1]
 cases hh:aQ d with
 |true=>
  simp only[forall_const,cW,je,bd,hv d' je,hr,true_and]
  simp
 |false=>
  simp only[forall_const,bd,hn hh]
  simp
theorem rE{pre:List (BitVec 8)→Bool}{out:List (BitVec 8)→D×Rows}{rows:Rows}{k:D→Rows→Prop}{d:D}{a:List (BitVec 8)}(h:bc rows d a)(hp:pre a=true)
  (hr:(bZ (out a).1&&aS (out a).2)=true):aJ (lE dN pre out) rows k [d]=k (shift rows.length (out a).1) (rows++ae rows.length (out a).2):=by
 obtain⟨⟨d',je,hb⟩,hn⟩:=h
 refine zq (fun d2 yQ=>?_) ⟨d',je⟩ (fun hh=>ei (hn hh).rd hp) hr
 rw[je]at yQ
 cases yQ
 exact ei hb.rd hp
theorem Bl{pre:List (BitVec 8)→List (BitVec 8)→Bool}{out:List (BitVec 8)→List (BitVec 8)→D×Rows}{rows:Rows}{k:D→Rows→Prop}{d e:D}{a b:List (BitVec 8)}(h:bc rows d a)(h':bc rows e b)(hp:pre a b=true)
  (hr:(bZ (out a b).1&&aS (out a b).2)=true):aJ (wS dN dN pre out) rows k [d,e]=k (shift rows.length (out a b).1) (rows++ae rows.length (out a b).2):=by
 obtain⟨⟨d',je,hb⟩,hn⟩:=h
 obtain⟨⟨e',he',EG⟩,NZ⟩:=h'
 unfold aJ
 simp only[cW,je,he',bd,jP hb.rd EG.rd hp,hr,true_and]
 cases hh:aN [d,e]with
 |true=>simp
 |false=>
  simp[aN]at hh
  simp only[jP (hn hh.1).rd (NZ hh.2).rd hp]
  simp
theorem iK.push{s:Sh}{d:D}{rows more:Rows}{els:List D}(h:iK s d rows els):iK s d (rows++more) els:=by
 rcases h with⟨h1,rfl⟩|⟨r,ex,rfl,hl⟩
 ·exact .inl ⟨h1,rfl⟩
 ·exact .inr ⟨r,ex,rfl,bJ hl⟩
theorem iK.mI{s:Sh}{d:D}{rows:Rows}{els:List D}(h:iK s d rows els):mI d=some d:=by
 rcases h with⟨h1,rfl⟩|⟨r,ex,rfl,hl⟩<;>rfl
theorem ec.mI{d:D}{l:List (BitVec 8)}(h:ec d l):mI d=some d:=by
 rcases h with⟨rfl,h1⟩|⟨ex,rfl⟩<;>rfl
theorem iK.Jl{d:D}{rows:Rows}{l:List (BitVec 8)}(h:iK (.leaf uE) d rows (bs l)):wR rows d (ez l false).1 (ez l false).2:=by
 rcases h with⟨h1,rfl⟩|⟨r,ex,rfl,hl⟩
 ·have:l=[]:=by cases l<;>simp_all[bs]
  subst this
  exact .Wl _
 ·have:(bs l).length=l.length:=by simp[bs]
  rw[this]
  exact .own _ r 0 _ ex false _ hl rfl (fun h=>by cases h)
inductive U8:D→D→Prop where
 |refl (d:D):U8 d d
 |nil (s:Sh) (e:Bool):U8 (.raw (.slice none 0 0)) (.cF s [] e)
theorem U8.vr{ρ:Pl}{w:World}{T:Nat→Prop}{d d':D}{v:Value}(h:U8 d d')(hv:VR ρ w T d v):VR ρ w T d' v:=by
 cases h with
 |refl=>exact hv
 |nil s e=>
  have:=hv.ofRaw
  subst this
  exact VR.bG (.ou s e none 0 (fun _=>rfl) (fun _=>rfl))
end Go.Am
namespace Go.Am
open Go.Proofs.YtgcejocgnfkciaaGreatDoor.Rows (uptoBulk uptoBulkAll)
set_option linter.unusedVariables false
set_option linter.unusedSimpArgs false
def flX(P:Program)(f:TypeId→Option Sh):Nat→List Field→Option Sh
 | _,[]=>some .nil
 | off, x :: l => match f x.type with
  |some a=>bif x.offset==off&&P.cellsOf x.type==a.size then(match flX P f (off+a.size) l with
   |some b=>some (.cons a b)
   |none=>none)else none
  |none=>none
def Dr(P:Program):Nat→TypeId→Option Sh
 |0,_=>none
 | n + 1, t => match P.underlying t with
  |some .bool=>some (.leaf .bool)
  |some (.int k)=>some (.leaf (.int k))
  |some .string=>some (.leaf .str)
  |some (.struct fs)=>match flX P (Dr P n) 0 fs.toList with
   |some s=>bif P.cellsOf t==s.size then some s else none
   |none=>none
  |some (.array m e)=>match Dr P n e with
   |some a=>bif P.cellsOf e==a.size&&P.cellsOf t==m*a.size then some (.ar m a)else none
   |none=>none
  |some (.slice e)=>match Dr P n e with
   |some a=>bif P.cellsOf e==a.size&&Nat.blt 0 a.size then some .ref else none
   |none=>none
  | _=>none
def H2(P:Program):Nat→TypeId→D→Prop
 |0,_,_=>False
 |n+1,t,d=>match P.underlying t with
  |some .bool=>∃b,d= .raw (.bool b)
  |some (.int k)=>∃m,d= .raw (.int k m)∧(Lit.int k m).wf=true
  |some .string=>∃b,d= .raw (.string b)∧b.size≤maxLen
  |some (.struct fs)=>∃s l,flX P (Dr P n) 0 fs.toList=some s∧d= .agg s l∧aY (fun(f:Field) x=>H2 P n f.type x) fs.toList l
  |some (.array m e)=>∃s l,Dr P n e=some s∧d= .agg (.ar m s) l∧l.length=m∧∀x∈l,H2 P n e x
  |some (.slice e)=>d= .raw (.slice none 0 0)∨∃s l,Dr P n e=some s∧d= .cF s l false∧l.length≤maxLen∧∀x∈l,H2 P n e x
  | _=>False
mutual
/-- how many values and letters -/
def nj:D→Nat
 | .raw (.string b)=>b.size+1
 | .raw _=>1
 | .cF _ l _=>fY l+1
 | .agg _ l=>fY l+1
 | _=>0
def fY:List D→Nat
 |[]=>0
 |d::l=>nj d+fY l
end
theorem Ou(a b:List D):fY (a++b)=fY a+fY b:=by
 induction a with
 |nil=>simp[fY]
 |cons x a ih=>simp[fY,ih];omega
theorem W2{H:Type}(a b:List (DataW H)):uptoBulkAll (a++b)=uptoBulkAll a+uptoBulkAll b:=by
 induction a with
 |nil=>simp[uptoBulkAll]
 |cons x a ih=>simp[uptoBulkAll,ih];omega
def old(w:World):Nat→Prop:=fun b=>b<w.heap.size
section
variable {P:Program} {H:Type} {enc:TypeId×Value→H} {w:World} {base:Nat} {spare:Nat→Bool} {held:Bool}
theorem H3(x:DataW H):1≤uptoBulk x:=by
 cases x with
 |lit l=>cases l<;>simp[uptoBulk]
 | _=>simp[uptoBulk]
theorem LO{m n:Nat}{cs:List Value}(ih:∀(t:TypeId) (cs:List Value) (x:DataW H×List MemPlace) (s:Sh),DataW.trod enc P w base spare held m t cs=some x→Dr P n t=some s→∃d,H2 P n t d∧aK s d∧aY (LR eT w (old w)) d.flat cs∧nj d≤uptoBulk x.1):
  ∀(fs:List Field) (xs:List (DataW H×List MemPlace)) (off:Nat) (s:Sh),flX P (Dr P n) off fs=some s→xs.length=fs.length→(∀(i:Nat) (f:Field),fs[i]?=some f→DataW.trod enc P w base spare held m f.type ((cs.drop f.offset).take (P.cellsOf f.type))=xs[i]?)→
  ∃l,aY (fun(f:Field) x=>H2 P n f.type x) fs l∧s.isAgg=true∧l.length=s.count∧(∀i e d,s.sub i=some e→l[i]?=some d→aK e d)∧aY (LR eT w (old w)) (au l) ((cs.drop off).take s.size)∧fY l≤uptoBulkAll (xs.map (·.1))
 |[],xs,off,s,h,_,_=>by
  simp[flX]at h;subst h
  exact⟨[],.nil,rfl,rfl,by simp[Sh.sub],by simp[au,Sh.size];exact .nil,by simp[fY]⟩
 |f::fs,[],off,s,h,yR,hx=>by simp at yR
 | f :: fs, x0 :: xs, off, s, h, yR, hx => by
  simp only[flX]at h
  split at h
  ·rename_i a ha
   cases hb:(f.offset==off&&P.cellsOf f.type==a.size)with
   |false=>rw[hb]at h;cases h
   | true =>
    rw[hb]at h
    simp only[cond_true]at h
    split at h
    ·rename_i b hbq
     cases h
     simp only[Bool.and_eq_true,beq_iff_eq]at hb
     have pS:=hx 0 f rfl
     obtain⟨d,hd1,yQ,I4,hd4⟩:=ih _ _ _ _ pS ha
     obtain⟨l,g1,g2,g3,g4,g5,g6⟩:=LO ih fs xs (off+a.size) b hbq (by simpa using yR) (fun i f' hf'=>by simpa using hx (i+1) f' (by simpa using hf'))
     refine⟨d::l,.cons hd1 g1,g2,by simp[Sh.count,g3],fun i e d' hi je=>?_,?_,by simp only[fY,List.map_cons,uptoBulkAll];omega⟩
     ·cases i with
      |zero=>simp[Sh.sub]at hi je;subst hi;subst je;exact yQ
      |succ i=>exact g4 i e d' (by simpa[Sh.sub]using hi) (by simpa using je)
     ·simp only[au,Sh.size]
      rw[hb.1,hb.2]at I4
      have:(cs.drop off).take (a.size+b.size)=(cs.drop off).take a.size++((cs.drop (off+a.size)).take b.size):=by
       rw[List.take_add,List.drop_drop]
      rw[this]
      exact I4.append g5
    ·cases h
  ·cases h
theorem Js{m n:Nat}{e:TypeId}{a:Sh}(ih:∀(t:TypeId) (cs:List Value) (x:DataW H×List MemPlace) (s:Sh),DataW.trod enc P w base spare held m t cs=some x→Dr P n t=some s→∃d,H2 P n t d∧aK s d∧aY (LR eT w (old w)) d.flat cs∧nj d≤uptoBulk x.1)
  (ha:Dr P n e=some a):∀(k:Nat) (f:Nat→List Value) (g:Nat→DataW H×List MemPlace),(∀i,i<k→DataW.trod enc P w base spare held m e (f i)=some (g i))→
  ∃l,l.length=k∧(∀x∈l,H2 P n e x)∧(∀x∈l,aK a x)∧aY (LR eT w (old w)) (au l) ((List.range k).flatMap f)∧fY l≤uptoBulkAll (((List.range k).map g).map (·.1))
 |0,f,_,_=>⟨[],rfl,by simp,by simp,by simp[au];exact .nil,by simp[fY]⟩
 | k + 1, f, g, h => by
  obtain⟨l,g1,g2,g3,g4,g5⟩:=Js ih ha k f g (fun i hi=>h i (by omega))
  have hx:=h k (by omega)
  obtain⟨d,h1,h2,h3,h4⟩:=ih _ _ _ _ hx ha
  refine⟨l++[d],by simp[g1],?_,?_,?_,by rw[Ou,List.range_succ,List.map_append,List.map_append,W2];simp only[fY,List.map_cons,List.map_nil,uptoBulkAll];omega⟩
  ·intro y hy
   rcases List.mem_append.1 hy with hy|hy
   ·exact g2 y hy
   ·simp at hy;subst hy;exact h1
  ·intro y hy
   rcases List.mem_append.1 hy with hy|hy
   ·exact g3 y hy
   ·simp at hy;subst hy;exact h2
  ·have e1:au (l++[d])=au l++d.flat:=by
    have:∀l:List D,au (l++[d])=au l++d.flat:=by
     intro l
     induction l with
     |nil=>simp[au]
     |cons q l ih=>simp[au,ih]
    exact this l
   rw[e1,List.range_succ,List.flatMap_append]
   exact g4.append (by simpa using h3)
theorem Cm{α:Type}{f:Nat→List α}{c:Nat}:∀(k:Nat),(∀i,i<k→(f i).length=c)→((List.range k).flatMap f).length=k*c∧∀i j,i<k→j<c→((List.range k).flatMap f)[i*c+j]?=(f i)[j]?
 |0,_=>⟨by simp,fun i j hi=>by omega⟩
 | k + 1, h => by
  obtain⟨h1,h2⟩:=Cm (f:=f) (c:=c) k (fun i hi=>h i (by omega))
  have hk:=h k (by omega)
  rw[List.range_succ,List.flatMap_append]
  have e:List.flatMap f [k]=f k:=by simp
  rw[e]
  refine⟨by rw[List.length_append,h1,hk,Nat.succ_mul],fun i j hi hj=>?_⟩
  rcases Nat.lt_or_ge i k with h3|h3
  ·have:i*c+j<k*c:=by
    have:(i+1)*c≤k*c:=Nat.mul_le_mul_right c h3
    rw[Nat.succ_mul]at this
    omega
   rw[List.getElem?_append_left (by omega)]
   exact h2 i j h3 hj
  ·have:i=k:=by omega
   subst this
   rw[List.getElem?_append_right (by omega),h1]
   congr 1
   omega
theorem Bm{a:Addr}{c:Nat}{l:List Value}(h:w.cells? base a c=some l):l.length=c∧∀j,j<c→w.cell? (a.add j)=l[j]?:=by
 unfold World.cells? at h
 split at h
 ·refine⟨by simpa using mapM_some_length h,fun j hj=>?_⟩
  exact mapM_some_get h j j (by simp[hj])
 ·cases h
theorem add_add{a:Addr}(h:a.spot=none)(i j:Nat):(a.add i).add j=⟨a.block,a.off+(i+j),none⟩:=by
 obtain⟨b,o,sp⟩:=a
 simp only at h
 subst h
 unfold Addr.add
 by_cases hi:i=0<;>by_cases hj:j=0<;>simp[hi,hj]<;>omega
theorem slice_D{m n:Nat}{t e:TypeId}{cs:List Value}{x:DataW H×List MemPlace}{a:Sh}(ih:∀(t:TypeId) (cs:List Value) (x:DataW H×List MemPlace) (s:Sh),DataW.trod enc P w base spare held m t cs=some x→Dr P n t=some s→∃d,H2 P n t d∧aK s d∧aY (LR eT w (old w)) d.flat cs∧nj d≤uptoBulk x.1)
  (ht:P.underlying t=some (.slice e))(h:DataW.trod enc P w base spare held (m+1) t cs=some x)(ha:Dr P n e=some a)(hc:P.cellsOf e=a.size)(h0:0<a.size):
  ∃d v,cs=[v]∧(d= .raw (.slice none 0 0)∨∃s l,Dr P n e=some s∧d= .cF s l false∧l.length≤maxLen∧∀x∈l,H2 P n e x)∧d.ee=true∧LR eT w (old w) d v∧nj d≤uptoBulk x.1:=by
 rcases DataW.trod_slice ht h with⟨rfl,rfl⟩|⟨ad,len,cap,elems,rest,m',hm,rfl,rfl,_,hlc,hcm,hel,jz,_⟩
 ·exact⟨_,_,rfl,.inl rfl,rfl,.raw _ rfl,by simp[nj,uptoBulk]⟩
 ·have:m=m':=by omega
  subst this
  rw[hc]at jz
  let f:Nat→List Value:=fun i=>(w.cells? base (ad.add (i*a.size)) a.size).getD []
  have hf:∀i,i<len→w.cells? base (ad.add (i*a.size)) a.size=some (f i)∧DataW.trod enc P w base spare held m e (f i)=some (elems.getD i (.nil,[])):=by
   intro i hi
   have h1:=jz i hi
   rw[List.getElem?_eq_getElem (by omega)]at h1
   cases ja:w.cells? base (ad.add (i*a.size)) a.size with
   |none=>rw[ja]at h1;cases h1
   |some l=>
    rw[ja]at h1
    have:f i=l:=by simp[f,ja]
    rw[this]
    refine⟨rfl,?_⟩
    simp only[Option.bind_some]at h1
    rw[h1]
    simp[List.getD_eq_getElem?_getD,show i<elems.length by omega]
  obtain⟨l,g1,g2,g3,g4,g5⟩:=Js ih ha len f _ (fun i hi=>(hf i hi).2)
  have hmap:(List.range len).map (fun i=>elems.getD i (.nil,[]))=elems:=by
   apply List.ext_getElem
   ·simp[hel]
   ·intro i h1 h2
    simp[List.getD_eq_getElem?_getD,h2]
  rw[hmap]at g5
  refine⟨.cF a l false,_,rfl,.inr ⟨a,l,ha,rfl,by omega,g2⟩,rfl,?_,by simp only[nj,uptoBulk];omega⟩
  have hlens:∀i,i<len→(f i).length=a.size:=fun i hi=>(Bm (hf i hi).1).1
  obtain⟨e1,e2⟩:=Cm (f:=f) len hlens
  cases len with
  |zero=>
   have:l=[]:=List.eq_nil_of_length_eq_zero g1
   subst this
   exact .ou a false (some ad) cap (by simp) (by simp)
  | succ len =>
   have c0:=(Bm (hf 0 (by omega)).1).2 0 h0
   have HF:=hlens 0 (by omega)
   rw[List.getElem?_eq_getElem (by omega)]at c0
   simp only[Nat.zero_mul]at c0
   have e0:((ad.add 0).add 0)=ad:=by simp[Addr.add]
   rw[e0]at c0
   have hsp:ad.spot=none:=by
    unfold World.cell? at c0
    split at c0
    ·split at c0
     ·cases c0
     ·rename_i hs;simpa using hs
    ·cases c0
   have hold:old w ad.block:=by
    unfold World.cell? at c0
    split at c0
    ·rename_i hh;exact(Array.getElem?_eq_some_iff.1 hh).1
    ·cases c0
   have UT:ad=⟨ad.block,ad.off,none⟩:=by
    obtain⟨b,o,sp⟩:=ad
    simp only at hsp
    subst hsp;rfl
   have key:LR eT w (old w) (.cF a l false) (.slice (some ⟨ad.block,ad.off,none⟩) l.length cap):=by
    refine .cF a l false ad.block ad.off cap (fun i=>((List.range (len+1)).flatMap f).getD i undef) g3 hold (fun i d hd=>?_) (fun i d hd=>?_) (by omega) (by simp)
    ·have hi:i<(au l).length:=cN hd
     rw[g4.len,e1]at hi
     have hq:i/a.size<len+1:=(Nat.div_lt_iff_lt_mul h0).2 hi
     have hr:i %a.size<a.size:=Nat.mod_lt _ h0
     have Dn:i/a.size*a.size+i %a.size=i:=by rw[Nat.mul_comm];exact Nat.div_add_mod i a.size
     have c1:=(Bm (hf _ hq).1).2 _ hr
     rw[add_add hsp,Dn,←e2 _ _ hq hr,Dn]at c1
     rw[c1,List.getD_eq_getElem?_getD,List.getElem?_eq_getElem (by omega)]
     rfl
    ·have hi:i<(au l).length:=cN hd
     rw[g4.len]at hi
     refine g4.at_ i d _ hd ?_
     rw[List.getD_eq_getElem?_getD,List.getElem?_eq_getElem hi]
     rfl
   rw[←UT,g1]at key
   exact key
theorem W3 : ∀ (n fuel : Nat) (t : TypeId) (cs : List Value) (x : DataW H × List MemPlace) (s : Sh), DataW.trod enc P w base spare held fuel t cs = some x → Dr P n t = some s → ∃ d, H2 P n t d ∧ aK s d ∧ aY (LR eT w (old w)) d.flat cs ∧ nj d ≤ uptoBulk x.1
 |0,_,_,_,_,_,_,h=>by simp[Dr]at h
 | _+1,0,_,_,_,_,h,_=>by simp[DataW.trod]at h
 | n + 1, m + 1, t, cs, x, s, h, hs => by
  have ih:=W3 n m
  have h':=h
  simp only[Dr]at hs
  simp only[H2]
  unfold DataW.trod at h
  cases hu:P.underlying t with
  |none=>simp[hu]at hs
  | some u =>
   rw[hu]at h
   simp only[hu]at hs
   cases u with
   |bool=>
    cases hs
    have:∃b,cs=[.bool b]:=by split at h<;>simp_all
    obtain⟨b,rfl⟩:=this
    exact⟨.raw (.bool b),⟨b,rfl⟩,.leaf _ _ rfl,aY.single (.raw _ rfl),by simp only[nj];exact H3 _⟩
   |int k=>
    cases hs
    have:∃q,cs=[.int k q]∧(Lit.int k q).wf=true:=by split at h<;>simp_all
    obtain⟨q,rfl,hw⟩:=this
    exact⟨.raw (.int k q),⟨q,rfl,hw⟩,.leaf _ _ (by simp[mE]),aY.single (.raw _ rfl),by simp only[nj];exact H3 _⟩
   |string=>
    cases hs
    obtain⟨b,rfl,rfl,hw⟩:=DataW.trod_string hu h'
    exact⟨.raw (.string b),⟨b,rfl,hw⟩,.leaf _ _ rfl,aY.single (.raw _ rfl),by simp[nj,uptoBulk]⟩
   | struct fs =>
    clear h
    simp only at hs
    split at hs
    ·rename_i s' lz
     cases hb:(P.cellsOf t==s'.size)with
     |false=>rw[hb]at hs;cases hs
     |true=>
      rw[hb]at hs
      cases hs
      obtain⟨xs,m',hm,rfl,hlen,yR,jz⟩:=DataW.trod_struct hu h'
      have:m=m':=by omega
      subst this
      obtain⟨l,g1,g2,g3,g4,g5,g6⟩:=LO (cs:=cs) ih fs.toList xs 0 s lz (by simpa using yR) (fun i f hf=>jz i f (by simpa using hf))
      refine⟨.agg s l,⟨s,l,lz,rfl,g1⟩,.agg s l g2 g3 g4,?_,by simp only[nj,uptoBulk];omega⟩
      have EG:P.cellsOf t=s.size:=by simpa using hb
      simp only[List.drop_zero]at g5
      rw[List.take_of_length_le (by omega)]at g5
      simpa[D.flat]using g5
    ·cases hs
   | array k e =>
    clear h
    simp only at hs
    split at hs
    ·rename_i a ha
     cases hb:(P.cellsOf e==a.size&&P.cellsOf t==k*a.size)with
     |false=>rw[hb]at hs;cases hs
     | true =>
      rw[hb]at hs
      cases hs
      simp only[Bool.and_eq_true,beq_iff_eq]at hb
      obtain⟨xs,m',hm,rfl,hlen,yR,jz⟩:=DataW.trod_array hu h'
      have:m=m':=by omega
      subst this
      rw[hb.1]at jz
      obtain⟨l,g1,g2,g3,g4,g5⟩:=Js ih ha k (fun i=>(cs.drop (i*a.size)).take a.size) (fun i=>xs.getD i (.nil,[])) (fun i hi=>by
       have:=jz i hi
       rw[this]
       simp[List.getD_eq_getElem?_getD,show i<xs.length by omega])
      have hmap:(List.range k).map (fun i=>xs.getD i (.nil,[]))=xs:=by
       apply List.ext_getElem
       ·simp[yR]
       ·intro i h1 h2
        simp[List.getD_eq_getElem?_getD,h2]
      rw[hmap]at g5
      refine⟨.agg (.ar k a) l,⟨a,l,ha,rfl,g1,g2⟩,.agg _ l rfl (by simp[Sh.count,g1]) (fun i e' d' hi je=>?_),?_,by simp only[nj,uptoBulk];omega⟩
      ·simp only[Sh.sub]at hi
       split at hi
       ·cases hi;exact g3 d' (bN je)
       ·cases hi
      ·have e1:(List.range k).flatMap (fun i=>(cs.drop (i*a.size)).take a.size)=cs.take (k*a.size):=by
        clear g4 g5 hmap g1 jz yR hlen hb hu h'
        induction k with
        |zero=>simp
        |succ k ihk=>
         rw[List.range_succ,List.flatMap_append,ihk,Nat.succ_mul,List.take_add]
         simp
       rw[e1,List.take_of_length_le (by omega)]at g4
       simpa[D.flat]using g4
    ·cases hs
   | slice e =>
    clear h
    simp only at hs
    split at hs
    ·rename_i a ha
     cases hb:(P.cellsOf e==a.size&&Nat.blt 0 a.size)with
     |false=>rw[hb]at hs;cases hs
     |true=>
      rw[hb]at hs
      cases hs
      simp only[Bool.and_eq_true,beq_iff_eq]at hb
      obtain⟨d,v,rfl,h1,h2,h3,h4⟩:=slice_D ih hu h' ha hb.1 (Nat.blt_eq.mp hb.2)
      exact⟨d,h1,.ref d h2,by rw[cj h2];exact aY.single h3,h4⟩
    ·cases hs
   | _=>cases hs
end
end Go.Am
namespace Go.Am
set_option linter.unusedVariables false
set_option linter.unusedSimpArgs false
variable {P:Program} {H:Type} {enc:TypeId×Value→H} {w:World} {base:Nat} {spare:Nat→Bool} {held:Bool}
theorem Tg{s t:Sh}{l:List D}(h:aK s (.agg t l)):s.isAgg=true:=by
 cases h with
 |ref _ h=>simp[D.ee]at h
 |agg s l h1 _ _=>exact h1
theorem arg_D{r:Reach}{b0 n fuel:Nat}{t:TypeId}{v:Value}{x:DataW H×List MemPlace}{s:Sh}(hw:Value.okWide P w r b0 t v)(h:DataW.trod enc P w base spare held fuel t v.cells.toList=some x)(hs:Dr P n t=some s):
  ∃d,H2 P n t d∧VR eT w (old w) d v∧nj d≤Go.Proofs.YtgcejocgnfkciaaGreatDoor.Rows.uptoBulk x.1:=by
 obtain⟨d,h1,h2,h3,h4⟩:=W3 n fuel t _ x s h hs
 refine⟨d,h1,?_,h4⟩
 cases n with
 |zero=>exact h1.elim
 | succ n =>
  simp only[H2]at h1
  unfold Value.okWide at hw
  have one:d.ee=true→v.oneCell'=true→VR eT w (old w) d v:=by
   intro hl hv
   rw[cj hl,wh hv]at h3
   exact VR.bG h3.head
  have agg:(∃cs,v= .agg cs∧cs.size=P.cellsOf t∧Row.okWide P w r b0 t cs)→(∃s l,d= .agg s l)→VR eT w (old w) d v:=by
   rintro⟨cs,rfl,-⟩ ⟨s',l,rfl⟩
   exact VR.xg (pQ.K6 h2 (Tg h2) (by simpa[Value.cells]using h3))
  cases hu:P.underlying t with
  |none=>simp[hu]at h1
  | some u =>
   simp only[hu]at h1 hw
   cases u with
   |struct fs=>
    obtain⟨s',l,_,hd,_⟩:=h1
    exact agg hw ⟨s',l,hd⟩
   |array k e=>
    obtain⟨s',l,_,hd,_⟩:=h1
    exact agg hw ⟨_,l,hd⟩
   |bool=>
    obtain⟨b,rfl⟩:=h1
    refine one rfl ?_
    simp only[Cell.okWide,Cell.ok,hu]at hw
    cases v<;>simp_all[Value.oneCell']
   |int k=>
    obtain⟨b,rfl,_⟩:=h1
    refine one rfl ?_
    simp only[Cell.okWide,Cell.ok,hu]at hw
    cases v<;>simp_all[Value.oneCell']
   |string=>
    obtain⟨b,rfl,_⟩:=h1
    refine one rfl ?_
    simp only[Cell.okWide,Cell.ok,hu]at hw
    cases v<;>simp_all[Value.oneCell']
   |slice e=>
    refine one (by rcases h1 with rfl|⟨_,_,_,rfl,_⟩<;>rfl) ?_
    simp only[Cell.okWide,Cell.ok,hu]at hw
    cases v<;>simp_all[Value.oneCell']
   | _=>exact h1.elim
end Go.Am
namespace Go.Am
open Go.ChangeShapes Go.WideShapes Go.ChangeAt Go.RowKit
set_option linter.unusedVariables false
set_option linter.unusedSimpArgs false
theorem Step.below{ρ ρ':Pl}{T T':Nat→Prop}{ab:Rows}{w w':World}(h:Step ρ T [] w ρ' T' ab w'):Below w.heap.size w w':=
 ⟨h.os,h.tape,h.output,h.size,fun k hk=>h.keep k hk (by intro r row L h1;simp[live]at h1)⟩
section
variable {H:Type} {enc:TypeId×Value→H} {P:Program}
theorem Ov{f:Func}{s:ChangeSpec}{apart fresh handsOn again:Bool}{W W':World}{args:Array Value}{v:Value}{ds gs:List (DataW H)}{before pa pv:List MemPlace}
  (hW:DataW.Whole enc P f.params.toList s.vars apart W args.toList ds gs before)
  (hres:∀(b:Nat) (sp:Nat→Bool) (hd:Bool),DataW.TrodAll enc P W' b sp hd f.resultTypes.toList (v.resultList f.resultTypes.size) (s.fn H (ds++gs)).results [])
  (hargs:∀sp:Nat→Bool,(∀p∈before,sp p.block=true)→DataW.TrodAll enc P W' 0 sp true f.params.toList args.toList (s.fn H (ds++gs)).args pa)
  (hvars:∀sp:Nat→Bool,(∀p∈before,sp p.block=true)→DataW.TrodVars enc P W' sp s.vars (s.fn H (ds++gs)).vars pv)
  (hps:before=pa++pv)(hb:Below W.heap.size W W')
  (hok:∀(j:Nat) (t:TypeId) (r:Value),f.resultTypes[j]?=some t→(v.resultList f.resultTypes.size)[j]?=some r→Value.okWide P W' .any 0 t r):
  s.post enc P f apart fresh handsOn again W args v W':=by
 have hlt:∀p∈before,p.block<W.heap.size:=fun p hp=>hW.lt p hp
 have hold:∀p∈before,(fun b=>decide (b<W.heap.size)) p.block=true:=fun p hp=>by simpa using hlt p hp
 refine⟨ds,gs,before,[],pa,pv,hW,hres _ _ _,hargs _ hold,hvars _ hold,World.keptBut_mono (fun p hp=>⟨hp,?_⟩) (hb.frame (· ∈before)),fun _=>?_⟩
 ·rw[hps,List.mem_append]at hp
  exact Or.inr hp
 ·obtain⟨_,_,_,_,_,hz,hn⟩:=hW
  refine⟨hok,_,_,([]++pa)++pv,⟨[]++pa,pv,trodAll_append (hargs _ (fun _ _=>rfl)) (hres _ _ _),hvars _ (fun _ _=>rfl),rfl,?_,?_⟩,?_⟩
  ·intro b off hp
   have hin:MemPlace.cell b off∈before:=by rw[hps];simpa using hp
   rw[hb.frozen (hlt _ hin)]
   exact hz b off hin
  ·intro ha
   have:=hn ha
   rw[hps]at this
   simpa using this
  ·intro p hp _
   rw[hps]
   simpa using hp
theorem W4{n:Nat}{base:Nat}{W:World}:∀{ts:List TypeId} {vs:List Value} {ds:List (DataW H)} {p:List MemPlace},DataW.TrodAll enc P W 0 (fun _=>true) true ts vs ds p→
  (∀(j:Nat) t v,ts[j]?=some t→vs[j]?=some v→Value.okWide P W .any base t v)→(∀t∈ts,(Dr P n t).isSome=true)→
  ∃dd,aY (fun t d=>H2 P n t d) ts dd∧aY (VR eT W (old W)) dd vs∧fY dd≤Go.Proofs.YtgcejocgnfkciaaGreatDoor.Rows.uptoBulkAll ds
 |[],vs,ds,p,h,_,_=>by
  obtain⟨rfl,rfl,rfl⟩:=trodAll_nil h
  exact⟨[],.nil,.nil,by simp[fY]⟩
 |t::ts,vs,ds,p,h,hv,ht=>by
  obtain⟨v,vs1,d,ds1,a,b,rfl,rfl,rfl,h1,h2⟩:=trodAll_cons h
  obtain⟨fuel,hf⟩:=h1
  obtain⟨s,hs⟩:=Option.isSome_iff_exists.1 (ht t (by simp))
  obtain⟨d',g1,g2,g3⟩:=arg_D (hv 0 t v rfl rfl) hf hs
  obtain⟨dd,q1,q2,q3⟩:=W4 h2 (fun j t' v' h3 h4=>hv (j+1) t' v' (by simpa using h3) (by simpa using h4)) (fun t' h3=>ht t' (by simp[h3]))
  exact⟨d'::dd,.cons g1 q1,.cons g2 q2,by simp only[fY,Go.Proofs.YtgcejocgnfkciaaGreatDoor.Rows.uptoBulkAll]at*;omega⟩
theorem H4{W W':World}(hl:laidOutB P=true)(hb:Below W.heap.size W W'){sp:Nat→Bool}:∀{ts:List TypeId} {vs:List Value} {ds:List (DataW H)} {p:List MemPlace},DataW.TrodAll enc P W 0 (fun _=>true) true ts vs ds p→
  (∀t∈ts,P.readableRec t=true∧t<P.types.size)→(∀x∈p,x.block<W.heap.size)→(∀x∈p,sp x.block=true)→DataW.TrodAll enc P W' 0 sp true ts vs ds p
 |[],vs,ds,p,h,_,_,_=>by
  obtain⟨rfl,rfl,rfl⟩:=trodAll_nil h
  exact rfl
 |t::ts,vs,ds,p,h,ht,hlt,hs=>by
  obtain⟨v,vs1,d,ds1,a,b,rfl,rfl,rfl,h1,h2⟩:=trodAll_cons h
  obtain⟨r1,r2⟩:=ht t (by simp)
  exact⟨a,b,WideElems.Trod_stays hl r1 r2 h1 (fun x hx=>hb.same (hlt x (by simp[hx]))) (fun x hx=>hs x (by simp[hx])),H4 hl hb h2 (fun t' h3=>ht t' (by simp[h3])) (fun x hx=>hlt x (by simp[hx])) (fun x hx=>hs x (by simp[hx])),rfl⟩
theorem Jt{f:FuncId}{fn:Func}{spec:ChangeSpec}{A:jx}{n:Nat}{tb:TypeId}{G:Nat→Option D}(hA:aO G P f A)(hl:laidOutB P=true)
  (hty:(fn.params.toList.all fun t=>(Dr P n t).isSome&&P.readableRec t&&decide (t<P.types.size))=true)
  (hvars:spec.vars=[])(hres:fn.resultTypes=#[tb])(htb:P.underlying tb=some .bool)
  (hspec:∀ds:List (DataW H),ds.length=fn.params.toList.length→spec.fn H ds={results:=[.lit (.bool true)],args:=ds})
  {W:World}{base:Nat}{args:Array Value}{ds gs:List (DataW H)}{before:List MemPlace}
  (W5:∀dd,aY (fun t d=>H2 P n t d) fn.params.toList dd→fY dd≤Go.Proofs.YtgcejocgnfkciaaGreatDoor.Rows.uptoBulkAll (ds++gs)→∃U9,aY U8 dd U9∧A U9 [] (fun d _=>d= .raw (.bool true)))
  (hval:∀(j:Nat) t v,fn.params[j]?=some t→args[j]?=some v→Value.okWide P W .any base t v)
  (hW:DataW.Whole enc P fn.params.toList spec.vars false W args.toList ds gs before)(hG:∀g d,G g=some d→LR eT W (old W) (.b5 d) (.pointer (some ⟨g,0,none⟩))):
  Calls P f args W fun e W'=>∃v,e= .returned v∧spec.post enc P fn false true false false W args v W':=by
 have hW':=hW
 obtain⟨p,q,Bn,hV,rfl,hfz,Cj⟩:=hW
 rw[hvars]at hV
 obtain⟨rfl,rfl⟩:=trodVars_none hV
 have hty':∀t∈fn.params.toList,(Dr P n t).isSome=true∧P.readableRec t=true∧t<P.types.size:=by
  intro t ht
  have:=List.all_eq_true.1 hty t ht
  simp only[Bool.and_eq_true,decide_eq_true_eq]at this
  exact⟨this.1.1,this.1.2,this.2⟩
 obtain⟨dd,g1,g2,g3⟩:=W4 (n:=n) (base:=base) Bn (fun j t v h1 h2=>hval j t v (by simpa using h1) (by simpa using h2)) (fun t ht=>(hty' t ht).1)
 rw[List.append_nil]at W5
 have hlt:∀x∈p,x.block<W.heap.size:=fun x hx=>hW'.lt x (by simp[hx])
 have hlen:ds.length=fn.params.toList.length:=by
  clear W5 g1 g2 g3 dd hW' hfz Cj hlt hV hty hty' hval hspec
  generalize fn.params.toList=ts at Bn⊢
  generalize args.toList=vs at Bn
  induction ts generalizing vs ds p with
  |nil=>obtain⟨rfl,rfl,rfl⟩:=trodAll_nil Bn;rfl
  |cons t ts ih=>
   obtain⟨v,vs1,d,ds1,a,b,rfl,rfl,rfl,h1,h2⟩:=trodAll_cons Bn
   simp[ih _ _ h2]
 obtain⟨U9,n1,n2⟩:=W5 dd g1 g3
 have g2':aY (VR eT W (old W)) U9 args.toList:=by
  refine⟨by rw[←n1.len];exact g2.len,fun i x y hx hy=>?_⟩
  have hi:i<dd.length:=by rw[n1.len];exact cN hx
  have hd:=List.getElem?_eq_getElem hi
  exact(n1.at_ i _ x hd hx).vr (g2.at_ i _ y hd hy)
 refine(hA U9 [] _ n2 eT W (old W) args ⟨fun r row L h=>by simp[live]at h,fun r _ row _ _ _ h=>by simp[live]at h⟩ (fun _ _=>rfl) (fun b h=>h) g2' hG).mono fun e W' hb=>?_
 obtain⟨v,d,ab,ρ',T',rfl,rfl,-,-,-,hst,hv⟩:=hb.ex
 have kU:=hv.ofRaw
 subst kU
 have Ow:=hst.below
 simp only[List.append_nil]at hW'
 refine⟨_,rfl,Ov (pa:=p) (pv:=[]) hW' (fun _ _ _=>?_) (fun sp hsp=>?_) (fun sp _=>?_) (by simp) Ow (ok_one hres rfl (okWide_bool_mk htb _))⟩
 ·rw[List.append_nil,hspec ds hlen,hres]
  exact trodAll_cons_mk (shut_bool htb _) trodAll_mk0
 ·rw[List.append_nil,hspec ds hlen]
  exact H4 hl Ow Bn (fun t ht=>(hty' t ht).2) hlt hsp
 ·rw[List.append_nil,hspec ds hlen,hvars]
  exact rfl
end
end Go.Am
namespace Go.Am
open Go.ChangeShapes Go.WideShapes Go.ChangeAt Go.RowKit
set_option linter.unusedVariables false
set_option linter.unusedSimpArgs false
mutual
/-- a type whose values are data -/
inductive TK where
 |bool
 |int (k:IntKind)
 |str
 |struct (l:Th)
 |arr (n:Nat) (t:TK)
 |slice (t:TK)
inductive Th where
 |nil
 |cons (a:TK) (l:Th)
end
mutual
def TK.sh:TK→Sh
 | .bool=> .leaf .bool
 | .int k=> .leaf (.int k)
 | .str=> .leaf .str
 | .struct l=>l.sh
 | .arr n t=> .ar n t.sh
 | .slice _=> .ref
def Th.sh:Th→Sh
 | .nil=> .nil
 | .cons a l=> .cons a.sh l.sh
end
def Va(f:TypeId→Option TK):List TypeId→Option Th
 |[]=>some .nil
 | x :: l => match f x with
  |some a=>match Va f l with
   |some b=>some (.cons a b)
   |none=>none
  |none=>none
def Ox(P:Program):Nat→TypeId→Option TK
 |0,_=>none
 | n + 1, t => match P.underlying t with
  |some .bool=>some .bool
  |some (.int k)=>some (.int k)
  |some .string=>some .str
  |some (.struct fs)=>match Va (Ox P n) (fs.toList.map (·.type))with
   |some l=>some (.struct l)
   |none=>none
  |some (.array m e)=>match Ox P n e with
   |some a=>some (.arr m a)
   |none=>none
  |some (.slice e)=>match Ox P n e with
   |some a=>some (.slice a)
   |none=>none
  | _=>none
mutual
/-- data of a type -/
def DK:TK→D→Prop
 | .bool,d=>∃b,d= .raw (.bool b)
 | .int .u8,d=>∃x:BitVec 8,d= .raw (u8 x)
 | .int .u16,d=>∃x:BitVec 16,d= .raw (u16 x)
 | .int .u32,d=>∃x:BitVec 32,d= .raw (u32 x)
 | .int .u64,d=>∃x:BitVec 64,d= .raw (u64 x)
 | .int .i64,d=>∃n:Int,(-9223372036854775808≤n∧n<9223372036854775808)∧d= .raw (it n)
 | .int k,d=>∃n:Int,d= .raw (.int k n)∧(Lit.int k n).wf=true
 | .str,d=>∃b,d= .raw (.string b)∧b.size≤maxLen
 | .struct l,d=>∃ds,d= .agg l.sh ds∧DKs l ds
 | .arr n t,d=>∃l,d= .agg (.ar n t.sh) l∧l.length=n∧∀x∈l,DK t x
 | .slice t,d=>d= .raw (.slice none 0 0)∨∃l,d= .cF t.sh l false∧l.length≤maxLen∧∀x∈l,DK t x
def DKs:Th→List D→Prop
 | .nil,[]=>True
 | .cons a l,d::ds=>DK a d∧DKs l ds
 | _,_=>False
end
variable {P:Program}
theorem W6{n:Nat}(ih:∀(t:TypeId) (k:TK) (s:Sh),Ox P n t=some k→Dr P n t=some s→s=k.sh):∀(fs:List Field) (off:Nat) (l:Th) (s:Sh),
  Va (Ox P n) (fs.map (·.type))=some l→flX P (Dr P n) off fs=some s→s=l.sh
 |[],off,l,s,h1,h2=>by
  simp[Va]at h1;simp[flX]at h2
  subst h1;subst h2;rfl
 | f :: fs, off, l, s, h1, h2 => by
  simp only[List.map_cons,Va]at h1
  simp only[flX]at h2
  split at h1
  ·rename_i a ha
   split at h1
   ·rename_i b hb
    cases h1
    split at h2
    ·rename_i s1 hs1
     cases hq:(f.offset==off&&P.cellsOf f.type==s1.size)with
     |false=>rw[hq]at h2;cases h2
     | true =>
      rw[hq]at h2
      simp only[cond_true]at h2
      split at h2
      ·rename_i s2 tJ
       cases h2
       rw[ih _ _ _ ha hs1,W6 ih fs _ _ _ hb tJ]
       rfl
      ·cases h2
    ·cases h2
   ·cases h1
  ·cases h1
theorem QB:∀(n:Nat) (t:TypeId) (k:TK) (s:Sh),Ox P n t=some k→Dr P n t=some s→s=k.sh
 |0,t,k,s,h1,h2=>by simp[Ox]at h1
 | n + 1, t, k, s, h1, h2 => by
  have ih:=QB n
  simp only[Ox]at h1
  simp only[Dr]at h2
  cases hu:P.underlying t with
  |none=>simp[hu]at h1
  | some u =>
   simp only[hu]at h1 h2
   cases u with
   |bool=>cases h1;cases h2;rfl
   |int=>cases h1;cases h2;rfl
   |string=>cases h1;cases h2;rfl
   | struct fs =>
    simp only at h1 h2
    split at h1
    ·rename_i l hl
     cases h1
     split at h2
     ·rename_i s' fD
      cases hq:(P.cellsOf t==s'.size)with
      |false=>rw[hq]at h2;cases h2
      |true=>
       rw[hq]at h2
       cases h2
       exact W6 ih _ _ _ _ hl fD
     ·cases h2
    ·cases h1
   | array m e =>
    simp only at h1 h2
    split at h1
    ·rename_i a ha
     cases h1
     split at h2
     ·rename_i s' fD
      cases hq:(P.cellsOf e==s'.size&&P.cellsOf t==m*s'.size)with
      |false=>rw[hq]at h2;cases h2
      |true=>
       rw[hq]at h2
       cases h2
       rw[ih _ _ _ ha fD]
       rfl
     ·cases h2
    ·cases h1
   | slice e =>
    simp only at h1 h2
    split at h1
    ·rename_i a ha
     cases h1
     split at h2
     ·rename_i s' fD
      cases hq:(P.cellsOf e==s'.size&&Nat.blt 0 s'.size)with
      |false=>rw[hq]at h2;cases h2
      |true=>rw[hq]at h2;cases h2;rfl
     ·cases h2
    ·cases h1
   | _=>cases h1
theorem QC{w:Nat}{m:Int}(h:0≤m∧m<2^w):m=((BitVec.ofInt w m).toNat:Int):=by
 rw[BitVec.toNat_ofInt]
 rw[Int.emod_eq_of_lt h.1 (by simpa using h.2)]
 omega
theorem dof_int{k:IntKind}{m:Int}(h:(Lit.int k m).wf=true):DK (.int k) (.raw (.int k m)):=by
 have hw:=h
 cases k<;>simp only[Lit.wf,Bool.and_eq_true,decide_eq_true_eq,IntKind.min,IntKind.max,IntKind.signed,IntKind.bits,DK]at h⊢
 ·exact⟨m,rfl,h⟩
 ·exact⟨m,rfl,h⟩
 ·exact⟨m,rfl,h⟩
 ·exact⟨m,by simp at h;omega,rfl⟩
 ·exact⟨BitVec.ofInt 8 m,by unfold u8;rw[←QC];simp at h;omega⟩
 ·exact⟨BitVec.ofInt 16 m,by unfold u16;rw[←QC];simp at h;omega⟩
 ·exact⟨BitVec.ofInt 32 m,by unfold u32;rw[←QC];simp at h;omega⟩
 ·exact⟨BitVec.ofInt 64 m,by unfold u64;rw[←QC];simp at h;omega⟩
theorem fl_dk{n:Nat}(ih:∀(t:TypeId) (k:TK) (d:D),Ox P n t=some k→H2 P n t d→DK k d):∀(fs:List Field) (l:Th) (ds:List D),
  Va (Ox P n) (fs.map (·.type))=some l→aY (fun(f:Field) x=>H2 P n f.type x) fs ds→DKs l ds
 |[],l,ds,h1,h2=>by
  simp[Va]at h1
  have:ds=[]:=List.eq_nil_of_length_eq_zero (by simpa using h2.len.symm)
  subst h1;subst this;trivial
 | f :: fs, l, ds, h1, h2 => by
  simp only[List.map_cons,Va]at h1
  split at h1
  ·rename_i a ha
   split at h1
   ·rename_i b hb
    cases h1
    match ds,h2.len with
    |d::ds,_=>exact⟨ih _ _ _ ha h2.head,fl_dk ih fs _ _ hb h2.tail⟩
   ·cases h1
  ·cases h1
theorem W7:∀(n:Nat) (t:TypeId) (k:TK) (d:D),Ox P n t=some k→H2 P n t d→DK k d
 |0,t,k,d,h1,h2=>by simp[Ox]at h1
 | n + 1, t, k, d, h1, h2 => by
  have ih:=W7 n
  simp only[Ox]at h1
  simp only[H2]at h2
  cases hu:P.underlying t with
  |none=>simp[hu]at h1
  | some u =>
   simp only[hu]at h1 h2
   cases u with
   |bool=>cases h1;exact h2
   |int k=>cases h1;obtain⟨m,rfl,hw⟩:=h2;exact dof_int hw
   |string=>cases h1;exact h2
   | struct fs =>
    simp only at h1 h2
    split at h1
    ·rename_i l hl
     cases h1
     obtain⟨s,ds,g1,rfl,g2⟩:=h2
     have:=W6 (QB n) _ _ _ _ hl g1
     subst this
     exact⟨ds,rfl,fl_dk ih _ _ _ hl g2⟩
    ·cases h1
   | array m e =>
    simp only at h1 h2
    split at h1
    ·rename_i a ha
     cases h1
     obtain⟨s,l,g1,rfl,g2,g3⟩:=h2
     have:=QB n _ _ _ ha g1
     subst this
     exact⟨l,rfl,g2,fun x hx=>ih _ _ _ ha (g3 x hx)⟩
    ·cases h1
   | slice e =>
    simp only at h1 h2
    split at h1
    ·rename_i a ha
     cases h1
     rcases h2 with rfl|⟨s,l,g1,rfl,g2,g3⟩
     ·exact .inl rfl
     ·have:=QB n _ _ _ ha g1
      subst this
      exact .inr ⟨l,rfl,g2,fun x hx=>ih _ _ _ ha (g3 x hx)⟩
    ·cases h1
   | _=>cases h1
theorem LP{n:Nat}:∀{ts:List TypeId} {ks:Th} {dd:List D},Va (Ox P n) ts=some ks→aY (fun t d=>H2 P n t d) ts dd→DKs ks dd
 |[],ks,dd,h1,h2=>by
  simp[Va]at h1
  have:dd=[]:=List.eq_nil_of_length_eq_zero (by simpa using h2.len.symm)
  subst h1;subst this;trivial
 | t :: ts, ks, dd, h1, h2 => by
  simp only[Va]at h1
  split at h1
  ·rename_i a ha
   split at h1
   ·rename_i b hb
    cases h1
    match dd,h2.len with
    |d::ds,_=>exact⟨W7 _ _ _ _ ha h2.head,LP hb h2.tail⟩
   ·cases h1
  ·cases h1
theorem LQ:∀{l:List D},(∀x∈l,DK (.int .u8) x)→∃l':List (BitVec 8),l=bs l'
 |[],_=>⟨[],rfl⟩
 |x::l,h=>by
  obtain⟨b,rfl⟩:=h x (by simp)
  obtain⟨l',rfl⟩:=LQ (l:=l) (fun y hy=>h y (by simp[hy]))
  exact⟨b::l',rfl⟩
theorem dbulkL_bs(l:List (BitVec 8)):fY (bs l)=l.length:=by
 induction l with
 |nil=>rfl
 |cons x l ih=>simp only[bs,List.map_cons,fY]at ih⊢;rw[ih];simp[nj,u8];omega
theorem dk_arr8{n:Nat}{d:D}(h:DK (.arr n (.int .u8)) d):∃l:List (BitVec 8),d= .agg (.ar n (.leaf uE)) (bs l)∧l.length=n:=by
 obtain⟨l,rfl,g1,g2⟩:=h
 obtain⟨l',rfl⟩:=LQ g2
 exact⟨l',rfl,by simpa[bs]using g1⟩
def DN:TK→D→Prop
 | .slice t,d=>∃l,d= .cF t.sh l false∧l.length≤maxLen∧∀x∈l,DK t x
 |k,d=>DK k d
def DNs:Th→List D→Prop
 | .nil,[]=>True
 | .cons a l,d::ds=>DN a d∧DNs l ds
 | _,_=>False
theorem dk_dn{k:TK}{d:D}(h:DK k d):∃d',U8 d d'∧DN k d'∧nj d'≤nj d:=by
 cases k with
 |slice t=>
  rcases h with rfl|⟨l,rfl,g1,g2⟩
  ·exact⟨_,.nil t.sh false,⟨[],rfl,by simp,by simp⟩,by simp[nj,fY]⟩
  ·exact⟨_,.refl _,⟨l,rfl,g1,g2⟩,Nat.le_refl _⟩
 | _=>exact⟨d,.refl _,h,Nat.le_refl _⟩
theorem QD:∀{ks:Th} {dd:List D},DKs ks dd→∃U9,aY U8 dd U9∧DNs ks U9∧fY U9≤fY dd
 | .nil,[],_=>⟨[],.nil,trivial,Nat.le_refl _⟩
 | .nil,_::_,h=>by simp[DKs]at h
 | .cons a l,[],h=>by simp[DKs]at h
 | .cons a l,d::ds,h=>by
  obtain⟨d',h1,h2,h3⟩:=dk_dn h.1
  obtain⟨ds',g1,g2,g3⟩:=QD h.2
  exact⟨d'::ds',.cons h1 g1,⟨h2,g2⟩,by simp only[fY];omega⟩
theorem dn_bs{d:D}(h:DN (.slice (.int .u8)) d):∃l:List (BitVec 8),d= .cF L8 (bs l) false∧l.length≤maxLen∧nj d=l.length+1:=by
 obtain⟨l,rfl,g1,g2⟩:=h
 obtain⟨l',rfl⟩:=LQ g2
 exact⟨l',rfl,by simpa[bs]using g1,by simp only[nj,dbulkL_bs]⟩
theorem aak{α:Type}{t:TK}{mk:α→D}(hmk:∀d,DK t d→∃x,d=mk x):∀{l:List D},(∀x∈l,DK t x)→∃l':List α,l=l'.map mk
 |[],_=>⟨[],rfl⟩
 |x::l,h=>by
  obtain⟨b,rfl⟩:=hmk x (h x (by simp))
  obtain⟨l',rfl⟩:=aak hmk (l:=l) (fun y hy=>h y (by simp[hy]))
  exact⟨b::l',rfl⟩
theorem row_law{H:Type}{enc:TypeId×Value→H}{f:FuncId}{fn:Func}{spec:ChangeSpec}{A:jx}{ks:Th}{n:Nat}{tb:TypeId}{G:Nat→Option D}(hA:aO G P f A)(hl:laidOutB P=true)
  (hty:(fn.params.toList.all fun t=>(Dr P n t).isSome&&P.readableRec t&&decide (t<P.types.size))=true)(hks:Va (Ox P n) fn.params.toList=some ks)
  (hvars:spec.vars=[])(hres:fn.resultTypes=#[tb])(htb:P.underlying tb=some .bool)
  (hspec:∀ds:List (DataW H),ds.length=fn.params.toList.length→spec.fn H ds={results:=[.lit (.bool true)],args:=ds})
  {W:World}{base:Nat}{args:Array Value}{ds gs:List (DataW H)}{before:List MemPlace}
  (W5:∀dd,DNs ks dd→fY dd≤Go.Proofs.YtgcejocgnfkciaaGreatDoor.Rows.uptoBulkAll (ds++gs)→A dd [] (fun d _=>d= .raw (.bool true)))
  (hval:∀(j:Nat) t v,fn.params[j]?=some t→args[j]?=some v→Value.okWide P W .any base t v)
  (hW:DataW.Whole enc P fn.params.toList spec.vars false W args.toList ds gs before)(hG:∀g d,G g=some d→LR eT W (old W) (.b5 d) (.pointer (some ⟨g,0,none⟩))):
  Calls P f args W fun e W'=>∃v,e= .returned v∧spec.post enc P fn false true false false W args v W':=
 Jt hA hl hty hvars hres htb hspec (fun dd h1 h2=>by
  obtain⟨U9,g1,g2,g3⟩:=QD (LP hks h1)
  exact⟨U9,g1,W5 U9 g2 (by omega)⟩) hval hW hG
end Go.Am
namespace Go.Am
set_option linter.unusedVariables false
set_option linter.unusedSimpArgs false
def vj(k:IntKind)(zs:List Int):D:= .agg (.ar zs.length (.leaf (.int k))) (zs.map fun z=> .raw (.int k z))
theorem H5(k:IntKind):∀zs:List Int,au (zs.map fun z=>D.raw (.int k z))=zs.map fun z=>D.raw (.int k z)
 |[]=>rfl
 |z::zs=>by simp[au,D.flat,H5 k zs]
theorem LU{P:Program}{W:World}{name:String}{k:IntKind}{zs:List Int}{g:Nat}{t e:TypeId}{n:Nat}
  (hg:P.globalNamed name=some g)(hty:(P.globals[g]?).map (·.type)=some t)(ht:P.underlying t=some (.array n e))(he:P.underlying e=some (.int k))(hce:P.cellsOf e=1)(hct:P.cellsOf t=n):
  ∀{l:List (String×DataW Unit)} {ps:List MemPlace},DataW.LaidVars P W l ps→(name,Lib.tabData k zs)∈l→Lib.TabIs P W name k zs
 |[],ps,_,hm=>by cases hm
 | (n', d') :: r, ps, h, hm => by
  obtain⟨g',t',cs,fuel,p,q,NA,wO,hvar,hd,hr,_⟩:=h
  rcases List.mem_cons.1 hm with hm|hm
  ·cases hm
   obtain rfl:=Option.some.inj (hg.symm.trans NA)
   obtain rfl:=Option.some.inj (hty.symm.trans wO)
   unfold Lib.TabIs
   rw[hvar,←Lib.cells_of_tab ht he hce hct hd]
  ·exact LU hg hty ht he hce hct hr hm
theorem Bo{P:Program}{W:World}{name:String}{k:IntKind}{zs:List Int}{g:Nat}{t e:TypeId}{n:Nat}{l:List (String×DataW Unit)}(h:laidMet P l W)(hm:(name,Lib.tabData k zs)∈l)
  (hg:P.globalNamed name=some g)(hty:(P.globals[g]?).map (·.type)=some t)(ht:P.underlying t=some (.array n e))(he:P.underlying e=some (.int k))(hce:P.cellsOf e=1)(hct:P.cellsOf t=n)(hz:zs≠[]):
  LR eT W (old W) (.b5 (vj k zs)) (.pointer (some ⟨g,0,none⟩)):=by
 obtain⟨ps,hv,_⟩:=h
 have hT:=LU hg hty ht he hce hct hv hm
 refine LR.xW (cs:=zs.map fun z=>Value.int k z) (s:= .ar zs.length (.leaf (.int k))) ?_ ?_ ?_ ?_
 ·refine .agg _ _ rfl (by simp[Sh.count]) fun i e d h1 h2=>?_
  simp only[Sh.sub]at h1
  split at h1
  ·cases h1
   obtain⟨z,_,rfl⟩:=List.mem_map.1 (bN h2)
   exact .leaf _ _ (by simp[mE])
  ·cases h1
 ·have:=hT.cell hg 0 (by cases zs<;>simp_all)
  show g<W.heap.size
  rw[World.cell?]at this
  split at this
  ·rename_i h0;exact(Array.getElem?_eq_some_iff.1 h0).1
  ·cases this
 ·rw[vj,D.flat,H5]
  clear hT hm hz
  induction zs with
  |nil=>exact .nil
  |cons z zs ih=>exact .cons (.raw _ rfl) ih
 ·intro j x hx
  have hj:j<zs.length:=by have:=cN hx;simpa using this
  have:=hT.cell hg j hj
  rw[Nat.zero_add,this]
  simp[hj]at hx
  simp[hj,←hx]
end Go.Am

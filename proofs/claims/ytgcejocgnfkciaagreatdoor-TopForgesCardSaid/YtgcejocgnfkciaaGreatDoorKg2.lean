import Derived.Test.YtgcejocgnfkciaaGreatDoorKg1
import Derived.Laws.StructEq
import Derived.ChangeKeysEq
import Derived.Laws.BytesString
import Derived.Lib.ConvBytes
import Derived.Laws.Externs
set_option linter.unusedSimpArgs false
set_option linter.unusedVariables false
namespace Go.Am
variable {C:bf} {P:Program} {n:Nat} {ρ:Pl} {T:Nat->Prop} {env:Env} {rows:Rows} {a:Act} {w:World}
theorem Z0{d:D}{v:Value}{k:Nat}(h:LR ρ w T d v)(hk:dQ d=some k):∃ad cap,v= .slice ad k cap:=by
 cases h with
 | raw v hv =>
  cases v with
  |slice b len cap=>
   cases b<;>cases len<;>cases cap<;>simp[dQ]at hk
   subst hk
   exact⟨_,_,rfl⟩
  | _=>simp[dQ]at hk
 |ptr=>simp[dQ]at hk
 |cd=>simp[dQ]at hk
 |nX=>simp[dQ]at hk
 |Fi=>simp[dQ]at hk
 |mp=>simp[dQ]at hk
 |om=>simp[dQ]at hk
 |sl=>simp[dQ]at hk;subst hk;exact⟨_,_,rfl⟩
 |Bw=>simp[dQ]at hk;subst hk;exact⟨_,_,rfl⟩
 |qj=>simp[dQ]at hk;subst hk;exact⟨_,_,rfl⟩
 |cI=>simp[dQ]at hk;subst hk;exact⟨_,_,rfl⟩
theorem Lh{d:D}{k:Nat}(hk:dQ d=some k):d.eZ=true:=by
 cases d<;>simp_all[dQ,D.eZ]
 split at hk<;>simp_all[Value.oneCell']
theorem mO{x:Option Operand}{y:Option X}{z:Option Int}(hc:O2 x=some y)(he:Km C env y=some z)(hs:eQ n ρ T env rows a w)(hG:tZ C ρ w T):
  (x.map a.eval=none/\z=none)\/∃kd i,x.map a.eval=some (.int kd i)/\z=some i:=by
 cases x with
 |none=>
  simp[O2]at hc
  subst hc
  simp[Km]at he
  exact .inl ⟨rfl,he.symm⟩
 | some x =>
  simp only[O2]at hc
  cases hx:cX x with
  |none=>simp[hx]at hc
  | some x' =>
   simp[hx]at hc
   subst hc
   simp only[Km]at he
   split at he
   ·rename_i kd i hh
    simp at he
    subst he
    exact .inr ⟨kd,i,by simp[fb hx hh hs hG],rfl⟩
   ·cases he
theorem run_sliceBound{kd:IntKind}{i:Int}{y:Nat}{code:BoundsCode}(h0:0<=i)(h1:i<=(y:Int))(w:World):(Instr.sliceBound (.int kd i) y code).run P w= .ok i.toNat w:=by
 simp[Instr.sliceBound,asIntOf,h0,h1]
theorem pK{isSlice:Bool}{len cap:Nat}{lo hi mx:Option Value}{l h m:Option Int}{L H M:Nat}
  (hl:(lo=none/\l=none)\/∃kd i,lo=some (.int kd i)/\l=some i)(hh:(hi=none/\h=none)\/∃kd i,hi=some (.int kd i)/\h=some i)
  (hm:(mx=none/\m=none)\/∃kd i,mx=some (.int kd i)/\m=some i)(hmh:mx.isSome=true->hi.isSome=true)
  (eL:l.getD 0=(L:Int))(eH:h.getD len=(H:Int))(eM:m.getD cap=(M:Int))(h1:L<=H)(h2:H<=M)(h3:M<=cap)(w:World):
  (Instr.sliceBounds isSlice len cap lo hi mx).run P w= .ok (L,H,M) w:=by
 have key:∀{kd:IntKind} {i:Int} {y z:Nat} {code:BoundsCode},i=(z:Int)->z<=y->(Instr.sliceBound (.int kd i) y code).run P w= .ok z w:=by
  intro kd i y z code e hz
  subst e
  rw[run_sliceBound (by omega) (by omega)]
  simp
 rcases hm with⟨rfl,rfl⟩|⟨km,im,rfl,rfl⟩
 ·simp at eM
  rcases hh with⟨rfl,rfl⟩|⟨kh,ih,rfl,rfl⟩
  ·simp at eH
   rcases hl with⟨rfl,rfl⟩|⟨kl,il,rfl,rfl⟩
   ·simp at eL
    simp[Instr.sliceBounds,<-eL,eH,eM]
    omega
   ·simp at eL
    simp[Instr.sliceBounds,key (kd:=kl) (y:=len) eL (by omega)]
    omega
  ·simp at eH
   have kH:=λ(c:BoundsCode)=>key (kd:=kh) (y:=cap) (code:=c) eH (by omega)
   rcases hl with⟨rfl,rfl⟩|⟨kl,il,rfl,rfl⟩
   ·simp at eL
    cases isSlice<;>simp[Instr.sliceBounds,kH]<;>omega
   ·simp at eL
    have kL:=λ(c:BoundsCode)=>key (kd:=kl) (y:=H) (code:=c) eL (by omega)
    cases isSlice<;>simp[Instr.sliceBounds,kH,kL]<;>omega
 ·simp at eM
  have kM:=λ(c:BoundsCode)=>key (kd:=km) (y:=cap) (code:=c) eM (by omega)
  rcases hh with⟨rfl,rfl⟩|⟨kh,ih,rfl,rfl⟩
  ·simp at hmh
  ·simp at eH
   have kH:=λ(c:BoundsCode)=>key (kd:=kh) (y:=M) (code:=c) eH (by omega)
   rcases hl with⟨rfl,rfl⟩|⟨kl,il,rfl,rfl⟩
   ·simp at eL
    cases isSlice<;>simp[Instr.sliceBounds,kH,kM]<;>omega
   ·simp at eL
    have kL:=λ(c:BoundsCode)=>key (kd:=kl) (y:=H) (code:=c) eL (by omega)
    cases isSlice<;>simp[Instr.sliceBounds,kH,kL,kM]<;>omega
section ops
variable (hs:eQ n ρ T env rows a w) (hG:tZ C ρ w T) {o:Oper} {k:D->Rows->Prop}
include hs hG
theorem op_len{c:Call}{x:Operand}{x':X}{t e:TypeId}{ts:List TypeId}(ho:o.op= .call c)(hc:c.callee= .builtin .len)(ha:c.args.toList=[x])(hts:c.argTypes.toList=t::ts)
  (hu:P.underlying t=some (.slice e))(h1:cX x=some x')(h:dW C env rows (.len x') k):bO P n o ρ T env rows a w k:=by
 obtain⟨d,he,hk⟩:=au h
 obtain⟨j,hj,hk⟩:=au hk
 have hv:=(bJ h1 he hs hG).BE (Lh hj)
 obtain⟨ad,cap,hx⟩:=Z0 hv hj
 have hargs:c.args=#[x]:=by apply acb;simpa using ha
 have Z1:c.argTypes[0]?=some t:=by
  have:c.argTypes.toList[0]?=some t:=by rw[hts];rfl
  simpa using this
 refine .here hs hk (VR.raw rfl) ?_
 rw[ik ho hc]
 simp[builtin,Builtin.len_,hargs,Z1,run_underlying hu,hx,goInt]
theorem W5{c:Call}{x:Operand}{x':X}{t:TypeId}{ts:List TypeId}(ho:o.op= .call c)(hc:c.callee= .builtin .len)(ha:c.args.toList=[x])(hts:c.argTypes.toList=t::ts)
  (hu:P.underlying t=some .string)(h1:cX x=some x')(h:dW C env rows (.AE x') k):bO P n o ρ T env rows a w k:=by
 obtain⟨d,he,hk⟩:=au h
 split at hk
 ·have hx:=fb h1 he hs hG
  have hargs:c.args=#[x]:=by apply acb;simpa using ha
  have Z1:c.argTypes[0]?=some t:=by
   have:c.argTypes.toList[0]?=some t:=by rw[hts];rfl
   simpa using this
  refine .here hs hk (VR.raw rfl) ?_
  rw[ik ho hc]
  simp[builtin,Builtin.len_,hargs,Z1,run_underlying hu,hx,goInt]
 ·exact hk.elim
theorem W6{t e:TypeId}{x:Operand}{lo hi mx:Option Operand}{x':X}{lo' hi' mx':Option X}{s:Sh}{m:Nat}(ho:o.op= .slice t x lo hi mx)(hu:P.underlying t=some (.array m e))(hsh:sh P e=some s)
  (h1:cX x=some x')(h2:O2 lo=some lo')(h3:O2 hi=some hi')(h4:O2 mx=some mx')(hmh:mx.isSome=true->hi.isSome=true)
  (h:dW C env rows (.AD m s x' lo' hi' mx') k):bO P n o ρ T env rows a w k:=by
 obtain⟨d,he,k1⟩:=au h
 obtain⟨l,hl,k2⟩:=au k1
 obtain⟨hh,Zi,k3⟩:=au k2
 obtain⟨c,hc,hk⟩:=au k3
 clear k1 k2 k3
 have hv:=bJ h1 he hs hG
 obtain⟨b1,b2,b3,b4,hk⟩:=hk
 have hrun:∀(b o':Nat),(Instr.sliceAt t (.pointer (some ⟨b,o',none⟩)) (lo.map a.eval) (hi.map a.eval) (mx.map a.eval)).run P w=
   .ok (.slice (some (if(c.getD m).toNat=(l.getD 0).toNat then⟨b,o',none⟩else⟨b,o'+(l.getD 0).toNat*s.size,none⟩)) ((hh.getD m).toNat-(l.getD 0).toNat) ((c.getD m).toNat-(l.getD 0).toNat)) w:=by
  intro b o'
  have:=pK (P:=P) (isSlice:=false) (len:=m) (cap:=m) (L:=(l.getD 0).toNat) (H:=(hh.getD m).toNat) (M:=(c.getD m).toNat)
   (mO h2 hl hs hG) (mO h3 Zi hs hG) (mO h4 hc hs hG) (by simpa using hmh) (by omega) (by omega) (by omega) (by omega) (by omega) (by omega) w
  simp[Instr.sliceAt,run_underlying hu,Instr.sureAddr,this,run_sizeOf hsh,nv]
 have xc:∀v,a.eval x=v->(execOp a.eval o).run P w=((Instr.sliceAt t v (lo.map a.eval) (hi.map a.eval) (mx.map a.eval)).run P w).andThen λv w'=> .ok (.value v) w':=by
  intro v hx
  simp[execOp,ho,hx]
 generalize hL:(l.getD 0).toNat=L' at hk hrun
 generalize hH:(hh.getD (m:Int)).toNat=H' at hk hrun
 generalize hM:(c.getD (m:Int)).toNat=M' at hk hrun
 split at hk
 ·rename_i t' r p
  obtain⟨rfl,hk⟩:=hk
  have hl:LR ρ w T _ _:=hv
  generalize hx:a.eval x=v at hl
  cases hl with
  | ptr _ _ _ L M1 hp =>
   by_cases hz:M'=L'
   ·have Fp:H'-L'=0:=by omega
    have Fo:M'-L'=0:=by omega
    refine .here hs hk (v:= .slice (some ⟨L.b,L.off p,none⟩) 0 0) ?_ ?_
    ·rw[Fp];exact VR.bH (.Bw _ _ _ _ _ _)
    ·rw[xc _ hx,hrun];simp[hz,Fp,Fo]
   ·refine .here hs hk (v:= .slice (some ⟨L.b,L.off p+L'*s.size,none⟩) (H'-L') (M'-L')) ?_ ?_
    ·refine VR.bH (.sl _ _ _ _ _ _ L _ M1 (by omega) (λhq=>?_) (.inr ⟨m,hp,by omega⟩))
     have:H'=M':=by simpa using hq
     omega
    ·rw[xc _ hx,hrun];simp[hz]
 ·rename_i t' els
  obtain⟨rfl,hk⟩:=hk
  obtain⟨b,o',cs,s',hx,g1,hT,g2,g3⟩:=LR.BH (show LR ρ w T _ _ from hv)
  obtain⟨rfl,ha⟩:=pI g1
  obtain⟨l',nV,hlen,fJ⟩:=g1.jN rfl
  cases nV
  have bQ:∀d∈els,aL s d:=by
   intro d hd
   obtain⟨q,hq,rfl⟩:=aa3.1 hd
   exact fJ q s _ (by simp[Sh.sub];simp[Sh.count]at hlen;omega) (aap hq)
  simp[Sh.count]at hlen
  have gP:∀d∈(els.drop L').take (H'-L'),aL s d:=λd hd=>bQ d (aca (aa1 hd))
  have HD:((els.drop L').take (H'-L')).length=H'-L':=by simp;omega
  by_cases hz:M'=L'
  ·have Fp:H'-L'=0:=by omega
   have Fo:M'-L'=0:=by omega
   refine .here hs hk (v:= .slice (some ⟨b,o',none⟩) 0 0) ?_ ?_
   ·rw[Fp];simp;exact VR.bH (.qj _ _ _ _ (λ_=>rfl) (λ_=>rfl))
   ·rw[xc _ hx,hrun];simp[hz,Fp,Fo]
  ·obtain⟨pre,post,q1,q2⟩:=u6 (off:=L') (len:=H'-L') bQ (by omega)
   simp only[D.flat]at g2
   rw[q1]at g2
   have q3:=(g2.drop pre.length).take (aA ((els.drop L').take (H'-L'))).length
   rw[abe,aa0]at q3
   refine .here hs hk (v:= .slice (some ⟨b,o'+L'*s.size,none⟩) ((els.drop L').take (H'-L')).length (M'-L')) ?_ ?_
   ·refine VR.bH (LR.Pa gP hT q3 (by rw[<-q2];exact(g3.drop _).take _) (by omega) (λhq=>?_))
    have:H'=M':=by simpa using hq
    omega
   ·rw[xc _ hx,hrun];simp only[hz,abW,Result.andThen_ok,HD]
 ·exact hk.elim
theorem Z2{t e:TypeId}{x:Operand}{lo hi mx:Option Operand}{x':X}{lo' hi' mx':Option X}{s:Sh}(ho:o.op= .slice t x lo hi mx)(hu:P.underlying t=some (.slice e))(hsh:sh P e=some s)
  (h1:cX x=some x')(h2:O2 lo=some lo')(h3:O2 hi=some hi')(h4:O2 mx=some mx')(hmh:mx.isSome=true->hi.isSome=true)
  (h:dW C env rows (.slice s x' lo' hi' mx') k):bO P n o ρ T env rows a w k:=by
 obtain⟨d,he,k1⟩:=au h
 obtain⟨l,hl,k2⟩:=au k1
 obtain⟨hh,Zi,k3⟩:=au k2
 obtain⟨c,hc,k4⟩:=au k3
 obtain⟨N,hN,hk⟩:=au k4
 clear k1 k2 k3 k4
 have hv:=bJ h1 he hs hG
 obtain⟨b1,b2,b3,b4,hk⟩:=hk
 have DW:=hv.BE (Lh hN)
 have hrun:∀(ad:Option Addr) (cap:Nat),N<=cap->(Instr.sliceAt t (.slice ad N cap) (lo.map a.eval) (hi.map a.eval) (mx.map a.eval)).run P w=
   .ok (.slice (if(c.getD cap).toNat=(l.getD 0).toNat then ad else ad.map (·.add ((l.getD 0).toNat*s.size))) ((hh.getD N).toNat-(l.getD 0).toNat) ((c.getD cap).toNat-(l.getD 0).toNat)) w:=by
  intro ad cap hcap
  have:=pK (P:=P) (isSlice:=true) (len:=N) (cap:=cap) (L:=(l.getD 0).toNat) (H:=(hh.getD N).toNat) (M:=(c.getD cap).toNat)
   (mO h2 hl hs hG) (mO h3 Zi hs hG) (mO h4 hc hs hG) (by simpa using hmh) (by omega) (by omega) (by cases c<;>simp at b3 b4⊢;omega)
   (by omega) (by cases c<;>simp at b3 b4⊢<;>omega) (by cases c<;>simp at b3 b4⊢;omega) w
  simp[Instr.sliceAt,Instr.slice,run_underlying hu,this,run_sizeOf hsh]
 have xc:∀v,a.eval x=v->(execOp a.eval o).run P w=((Instr.sliceAt t v (lo.map a.eval) (hi.map a.eval) (mx.map a.eval)).run P w).andThen λv w'=> .ok (.value v) w':=by
  intro v hx
  simp[execOp,ho,hx]
 have bM:∀cap:Nat,N<=cap->(hh.getD N).toNat<=(c.getD cap).toNat/\(c.getD cap).toNat<=cap:=by
  intro cap hcap
  cases c<;>simp at b3 b4⊢<;>omega
 generalize hL:(l.getD 0).toNat=L' at hk hrun
 have hLH:L'<=(hh.getD N).toNat:=by omega
 have hHN:(hh.getD N).toNat<=N:=by cases c<;>simp at b3 b4<;>omega
 have hcm:∀cap:Nat,∀z,c=some z->(c.getD (hh.getD N)).toNat=(c.getD cap).toNat:=by intro cap z hz;simp[hz]
 generalize hH:(hh.getD (N:Int)).toNat=H' at hk hrun bM hLH hHN
 split at hk
 ·have hx:=fb h1 he hs hG
  simp[dQ]at hN
  subst hN
  refine .here hs hk (VR.raw rfl) ?_
  have ZP:L'=0:=by omega
  have hH0:H'=0:=by omega
  rw[xc _ hx,hrun none 0 (by omega)]
  have hb:=bM 0 (by omega)
  have h0:(c.getD ((0:Nat):Int)).toNat=0:=by omega
  simp only[h0,ZP,hH0]
  rfl
 ·rename_i t' r p off len ex
  obtain⟨rfl,hk⟩:=hk
  simp[dQ]at hN
  subst hN
  generalize hx:a.eval x=v at DW
  cases DW with
  | Bw _ _ _ _ _ ad =>
   have ZP:L'=0:=by omega
   have hH0:H'=0:=by omega
   have hb:=bM 0 (by omega)
   have h0:(c.getD ((0:Nat):Int)).toNat=0:=by omega
   refine .here hs hk (v:= .slice ad 0 0) ?_ ?_
   ·rw[ZP,hH0];exact VR.bH (.Bw _ _ _ _ _ _)
   ·rw[xc _ hx,hrun ad 0 (by omega)]
    simp only[h0,ZP,hH0]
    rfl
  | sl _ _ _ _ _ _ L cap M1 c1 c2 c3 =>
   have hb:=bM cap c1
   generalize hM:(c.getD (cap:Int)).toNat=M' at hb hrun
   have hM:=hrun (some ⟨L.b,L.off p+off*t'.size,none⟩) cap c1
   generalize hMM:(c.getD (cap:Int)).toNat=M' at hM hb
   by_cases hz:M'=L'
   ·have Fp:H'-L'=0:=by omega
    have Fo:M'-L'=0:=by omega
    refine .here hs hk (v:= .slice (some ⟨L.b,L.off p+off*t'.size,none⟩) 0 0) ?_ ?_
    ·rw[Fp];exact VR.bH (.Bw _ _ _ _ _ _)
    ·rw[xc _ hx,hM];simp only[hz,abX,Result.andThen_ok,Fp,acq]
   ·refine .here hs hk (v:= .slice (some ⟨L.b,L.off p+(off+L')*t'.size,none⟩) (H'-L') (M'-L')) ?_ ?_
    ·refine VR.bH (.sl _ _ _ _ _ _ L _ M1 (by omega) (λhq=>?_) ?_)
     ·cases c with
      |none=>
       simp[qJ]at hq hMM
       have:=c2 hq.1
       omega
      |some z=>
       simp[qJ]at hq hMM
       omega
     ·rcases c3 with⟨d1,d2,dm,d3⟩|⟨m,d1,d2⟩
      ·refine .inl ⟨d1,d2,dm,abd (abF _ (by omega)) d3⟩
      ·exact .inr ⟨m,d1,by omega⟩
    ·rw[xc _ hx,hM]
     simp only[hz,abW,Result.andThen_ok,acN,nv,adK,ab2]
 ·rename_i t' els ex
  obtain⟨rfl,hk⟩:=hk
  simp[dQ]at hN
  subst hN
  have key:∀(ad:Option Addr) (cap:Nat) (v:Value),a.eval x=v->v= .slice ad els.length cap->els.length<=cap->(∀d∈els,aL t' d)->(ex=true->cap=els.length)->(ad=none->cap=0)->
    (els.length≠0->∃b o' cs,ad=some ⟨b,o',none⟩/\T b/\bd (LR ρ w T) (aA els) cs/\At w b o' cs)->bO P n o ρ T env rows a w k:=by
   intro ad cap v hx mN hcap bQ hex Sp hcs
   subst mN
   have hb:=bM cap hcap
   have hM:=hrun ad cap hcap
   generalize hMM:(c.getD (cap:Int)).toNat=M' at hM hb
   have hexM:qJ c H' (c.getD (hh.getD ↑els.length)).toNat els.length ex=true->M'=H':=by
    intro hq
    cases c with
    |none=>
     simp[qJ]at hq hMM
     have:=hex hq.1
     omega
    |some z=>
     simp[qJ]at hq hMM
     omega
   have HD:((els.drop L').take (H'-L')).length=H'-L':=by simp;omega
   by_cases hz:H'=L'
   ·have Sr:(els.drop L').take (H'-L')=[]:=aaF (by omega)
    refine .here hs hk (v:= .slice (if M'=L' then ad else ad.map (·.add (L'*t'.size))) 0 (M'-L')) ?_ ?_
    ·rw[Sr]
     refine VR.bH (.qj _ _ _ _ (λhq=>by have:=hexM hq;omega) (λhq=>?_))
     split at hq
     ·omega
     ·have:ad=none:=by simpa using hq
      have:=Sp this
      omega
    ·rw[xc _ hx,hM,hz]
     simp only[acq,Result.andThen_ok]
   ·have Kw:¬M'=L':=by omega
    obtain⟨b,o',cs,rfl,hT,q2,q3⟩:=hcs (by omega)
    obtain⟨pre,post,q4,q5⟩:=u6 (off:=L') (len:=H'-L') bQ (by omega)
    rw[q4]at q2
    have q6:=(q2.drop pre.length).take (aA ((els.drop L').take (H'-L'))).length
    rw[abe,aa0]at q6
    refine .here hs hk (v:= .slice (some ⟨b,o'+L'*t'.size,none⟩) ((els.drop L').take (H'-L')).length (M'-L')) ?_ ?_
    ·refine VR.bH (LR.Pa (λd hd=>bQ d (aca (aa1 hd))) hT q6 (by rw[<-q5];exact(q3.drop _).take _) (by omega) (λhq=>by have:=hexM hq;omega))
    ·rw[xc _ hx,hM]
     simp only[Kw,abW,Result.andThen_ok,HD,acN,nv]
  generalize hx:a.eval x=v at DW
  cases DW with
  |qj _ _ ad cap c1 c2=>exact key ad cap _ hx rfl (by simp) (by simp) (by simpa using c1) c2 (by simp)
  |cI _ _ _ b o' cap f c1 hb c2 c3 c4 c5=>
   exact key _ cap _ hx rfl c4 c1 c5 (by simp) (λ_=>⟨b,o',_,rfl,hb,(BG (d:=default) c2 c3).1,(BG (d:=default) c2 c3).2⟩)
 ·exact hk.elim
end ops
end Go.Am
namespace Go.Am
variable {C:bf} {P:Program} {n:Nat} {ρ:Pl} {T:Nat->Prop} {env:Env} {rows:Rows} {a:Act} {w:World}
theorem Z3{a b:Value}(h:ZF a b=true):b=a/\a.oneCell'=true:=by
  unfold ZF at h
  split at h<;>first
    |(simp at h;obtain⟨rfl,rfl⟩:=h;exact⟨rfl,rfl⟩)
    |(simp at h;subst h;exact⟨rfl,rfl⟩)
    | (rename_i x y
       have e:x.data.toList=y.data.toList:=by simpa using h
       have e2:x.data=y.data:=acb e
       have e3:x=y:=ByteArray.ext e2
       subst e3
       exact⟨rfl,rfl⟩)
    |exact⟨rfl,rfl⟩
    |cases h
theorem Fq{l:List D}{vs:List Value}(h:AF l vs=true)(ρ:Pl)(w:World)(T:Nat->Prop):bd (LR ρ w T) l vs:=by
 induction l generalizing vs with
 |nil=>cases vs with
  |nil=>exact .nil
  |cons v vs=>simp[AF]at h
 | cons d l ih => cases vs with
  |nil=>simp[AF]at h
  | cons v vs =>
   cases d with
   |raw x=>
    simp[AF]at h
    obtain⟨rfl,h2⟩:=Z3 h.1
    exact .cons (.raw _ h2) (ih h.2)
   | _=>simp[AF]at h
theorem UW{f:TypeId->Option D}{g:TypeId->Option Sh}(hfg:∀t d e,f t=some d->g t=some e->aL e d):∀(fs:List Field) {l:List D} {s:Sh},zL f fs=some l->shL g fs=some s->
  s.isAgg=true/\l.length=s.count/\∀i e d,s.sub i=some e->l[i]?=some d->aL e d
 |[],l,s,h1,h2=>by
  simp[zL]at h1
  simp[shL]at h2
  subst h1;subst h2
  simp[Sh.isAgg,Sh.count,Sh.sub]
 | x :: fs, l, s, h1, h2 => by
  simp only[zL]at h1
  simp only[shL]at h2
  split at h1
  ·rename_i d hd
   split at h1
   ·rename_i l' nV
    cases h1
    split at h2
    ·rename_i e he
     split at h2
     ·rename_i s' gy
      cases h2
      obtain⟨g1,g2,g3⟩:=UW hfg fs nV gy
      refine⟨g1,by simp[Sh.count,g2],λi e' d' hi j9=>?_⟩
      cases i with
      |zero=>
       simp[Sh.sub]at hi j9
       subst hi;subst j9
       exact hfg _ _ _ hd he
      |succ i=>exact g3 i e' d' (by simpa[Sh.sub]using hi) (by simpa using j9)
     ·cases h2
    ·cases h2
   ·cases h1
  ·cases h1
theorem M5(P:Program):∀(n:Nat) (t:TypeId) (d:D) (s:Sh),zT P n t=some d->shT P n t=some s->aL s d
 |0,t,d,s,h1,h2=>by simp[zT]at h1
 | n + 1, t, d, s, h1, h2 => by
  have Zj:=h2
  simp only[zT]at h1
  simp only[shT]at h2
  cases hu:P.underlying t with
  |none=>simp[hu]at h1
  | some u =>
   cases u with
   | struct fs =>
    simp only[hu]at h1 h2
    rw[Zj]at h1
    simp only at h1
    split at h1
    ·rename_i l hl
     cases h1
     obtain⟨g1,g2,g3⟩:=UW (λt d e hd he=>M5 P n t d e hd he) fs.toList hl h2
     exact .agg s l g1 g2 g3
    ·cases h1
   | array m e =>
    simp only[hu]at h1 h2
    rw[Zj]at h1
    simp only at h1
    split at h1
    ·rename_i d' j9
     cases h1
     split at h2
     ·rename_i s' gy
      cases h2
      refine .agg _ _ rfl (by simp[Sh.count]) λi e' d'' hi hd''=>?_
      simp only[Sh.sub]at hi
      split at hi
      ·cases hi
       rw[abG (abZ hd'')]
       exact M5 P n e d' s' j9 gy
      ·cases hi
     ·cases h2
    ·cases h1
   |bool=>simp[hu]at h1 h2;subst h1;subst h2;exact .leaf _ _ rfl
   |int k=>simp[hu]at h1 h2;subst h1;subst h2;exact .leaf _ _ (by simp[oD])
   |string=>simp[hu]at h1 h2;subst h1;subst h2;exact .leaf _ _ rfl
   |pointer _=>simp[hu]at h1 h2;subst h1;subst h2;exact .ref _ rfl
   |slice _=>simp[hu]at h1 h2;subst h1;subst h2;exact .ref _ rfl
   |map _ _=>simp[hu]at h1 h2;subst h1;subst h2;exact .ref _ rfl
   |func _ _ _=>simp[hu]at h1 h2;subst h1;subst h2;exact .ref _ rfl
   |interface _=>simp[hu]at h1 h2;subst h1;subst h2;exact .ref _ rfl
   | _=>simp[hu]at h1
theorem sh_shT{t:TypeId}{s:Sh}(h:sh P t=some s):shT P 40 t=some s:=by
 unfold sh at h
 split at h
 ·rename_i s' gy
  split at h
  ·rename_i i hi
   cases hb:(i.size==s'.size)with
   |false=>rw[hb]at h;simp at h
   |true=>rw[hb]at h;simp at h;subst h;exact gy
  ·cases h
 ·cases h
theorem ua{w:World}{o:Obj}{b:Nat}(h:b<w.heap.size):({w with heap:=w.heap.push o}:World).heap[b]?=w.heap[b]?:=by
 rw[ac8,aaA (by omega)]
theorem HE{α:Type}{c:Bool}{x y:α}(h:(bif c then some x else none)=some y):c=true/\x=y:=by
 cases c with
 |false=>simp at h
 |true=>exact⟨rfl,by simpa using h⟩
theorem lJ{t:TypeId}{s:Sh}{z:D}(hs:sh P t=some s)(hz:zero P t=some z):
  aL s z/\∃v,(∀w,(zeroValue t).run P w= .ok v w)/\v.cells.size=s.size/\∀ρ w T,bd (LR ρ w T) z.flat v.cells.toList:=by
 unfold zero at hz
 split at hz
 ·rename_i d hd
  split at hz
  ·rename_i i hi
   split at hz
   ·rename_i v hv
    obtain⟨HF,hdz⟩:=HE hz
    have hb:=(acY.1 HF).1
    ·subst hdz
     have hsh:=M5 P 40 t d s hd (sh_shT hs)
     refine⟨hsh,v,λw=>by simp[zeroValue,typeInfo,hi,hv],?_,λρ w T=>Fq hb ρ w T⟩
     have:=(Fq hb (λ_=>none) default (λ_=>False)).len
     rw[hsh.len]at this
     simpa using this.symm
   ·cases hz
  ·cases hz
 ·cases hz
theorem eQ.GU(hs:eQ n ρ T env rows a w)(row:Row)(cur:Array Value)(t:TypeId)(w':World)(hw':w'={w with heap:=w.heap.push (.cells cur t)})
  (gP:∀d∈row.els,aL row.sh d)(hlen:(aA row.els).length<=cur.size)(hc:bd (LR ρ w T) (aA row.els) (cur.toList.take (aA row.els).length)):
  eQ n (uX ρ rows.length ⟨w.heap.size,row.sh,cur.size,false⟩) T env (rows++[some row]) a w'/\Step ρ T rows w (uX ρ rows.length ⟨w.heap.size,row.sh,cur.size,false⟩) T (rows++[some row]) w':=by
 subst hw'
 exact hs.push row cur t rfl rfl rfl rfl gP hlen hc
theorem bd.M6{α β:Type}{R:α->β->Prop}{l:List α}{m:List β}(h:bd R l m):bd R l (m.take l.length):=by
 rw[h.len,aaV]
 exact h
theorem Fs(off:Nat):∀(vs:List Value) (k:Nat) (cells:Array Value),off+k+vs.length<=cells.size->
  ((vs.zipIdx k).foldl (λ(cs:Array Value) (x:Value×Nat)=>cs.setIfInBounds (off+x.2) x.1) cells).toList=cells.toList.take (off+k)++(vs++cells.toList.drop (off+k+vs.length))
 |[],k,cells,_=>by simp
 | v :: vs, k, cells, h => by
  simp only[List.zipIdx_cons,adj]
  rw[Fs off vs (k+1) _ (by simp at h⊢;omega)]
  simp only[aaP]at h
  have h1:(cells.setIfInBounds (off+k) v).toList=cells.toList.set (off+k) v:=by simp
  rw[h1]
  apply aco
  intro i
  simp only[ad3,aau,aa6,ab5,abt,adn,abk,aaP,List.getElem?_cons]
  have hsz:off+k<cells.size:=by omega
  rcases adO i (off+k)with h2|h2|h2
  ·simp[show i<min (off+(k+1)) cells.size by omega,show i<min (off+k) cells.size by omega,show i<off+(k+1) by omega,show i<off+k by omega,show¬(off+k=i) by omega]
  ·subst h2
   simp[show off+k<min (off+(k+1)) cells.size by omega,show¬(off+k<min (off+k) cells.size) by omega,show min (off+k) cells.size=off+k by omega,hsz,show off+k<off+(k+1) by omega]
  ·have e1:min (off+(k+1)) cells.size=off+(k+1):=by omega
   have e2:min (off+k) cells.size=off+k:=by omega
   simp only[e1,e2,show¬(i<off+(k+1)) by omega,show¬(i<off+k) by omega,abW]
   have e3:i-(off+k)≠0:=by omega
   by_cases h3:i-(off+(k+1))<vs.length
   ·simp only[h3,abX,show i-(off+k)<vs.length+1 by omega,e3,abW]
    congr 1
   ·simp only[h3,abW,show¬(i-(off+k)<vs.length+1) by omega]
    rw[aaA (by omega)]
    congr 1
    omega
theorem Z4{l:List (Nat×Operand)}{ps:List (Nat×X)}(h:pG l=some ps):(l=[]/\ps=[])\/∃i x r y q,l=(i,x)::r/\ps=(i,y)::q/\cX x=some y/\pG r=some q:=by
 cases l with
 |nil=>simp[pG]at h;exact .inl ⟨rfl,h⟩
 | cons p r =>
  obtain⟨i,x⟩:=p
  simp only[pG]at h
  split at h
  ·rename_i y hy
   split at h
   ·rename_i q hq
    cases h
    exact .inr ⟨i,x,r,y,q,rfl,rfl,hy,hq⟩
   ·cases h
  ·cases h
theorem AI(hs:eQ n ρ T env rows a w)(hG:tZ C ρ w T){s:Sh}{place:Nat->Option (Nat×Nat)}(pJ:∀i e,s.sub i=some e->place i=some (s.lH i,e.size))(ha:s.isAgg=true):
  ∀(parts:List (Nat×Operand)) (ps:List (Nat×X)) (l l':List D) (cells:Array Value),pG parts=some ps->oZ C env s.sub ps l=some l'->aL s (.agg s l)->bd (LR ρ w T) (aA l) cells.toList->
  ∃cells',Instr.fill place cells (parts.map λx=>(x.1,a.eval x.2))=some cells'/\aL s (.agg s l')/\bd (LR ρ w T) (aA l') cells'.toList:=by
 intro parts
 induction parts with
 |nil=>
  intro ps l l' cells hc hf hsh bQ
  simp[pG]at hc
  subst hc
  simp[oZ]at hf
  subst hf
  exact⟨cells,rfl,hsh,bQ⟩
 | cons p parts ih =>
  intro ps l l' cells hc hf hsh bQ
  rcases Z4 hc with⟨h,_⟩|⟨i,x,r,y,q,h1,h2,h3,h4⟩
  ·cases h
  ·cases h1
   subst h2
   simp only[oZ]at hf
   split at hf
   ·rename_i d hd
    split at hf
    ·rename_i e he
     cases hfit:d.fits e with
     |false=>rw[hfit]at hf;simp at hf
     | true =>
      rw[hfit]at hf
      simp at hf
      obtain⟨g1,g2,_⟩:=(bJ h3 hd hs hG).cells hfit
      obtain⟨d0,hd0,Gk,oG⟩:=hsh.part ha he
      have hall':=bQ
      rw[fW hd0]at bQ
      have HG:=bd.seg (N:=cells.toList.length) (by rw[aaV];exact bQ)
      have Li:d0.flat.length=e.size:=Gk.len
      have hvs:(a.eval x).cells.size=e.size:=by rw[<-g1.len];simpa using g2.len.symm
      have hfold:=Fs (s.lH i) (a.eval x).cells.toList 0 cells (by rw[oG]at HG;simp[hvs];simp[Li]at HG;omega)
      have tE:=hsh.UU ha he g1
      have jr:bd (LR ρ w T) (aA (l.set i d)) ((a.eval x).cells.zipIdx.foldl (λcs (c,j)=>cs.setIfInBounds (s.lH i+j) c) cells).toList:=by
       rw[<-Array.foldl_toList,Array.toList_zipIdx,hfold,D9 (dA hd0)]
       have q1:=bQ.take (aA (l.take i)).length
       rw[aa0]at q1
       have q2:=bQ.drop ((aA (l.take i)).length+d0.flat.length)
       rw[<-abv,abe,abe]at q2
       have e1:s.lH i+0=(aA (l.take i)).length:=by rw[oG];rfl
       have e2:s.lH i+0+(a.eval x).cells.toList.length=(aA (l.take i)).length+d0.flat.length:=by rw[oG,Li];simp[hvs]
       rw[e2,e1]
       exact q1.append (g2.append q2)
      obtain⟨cells',k1,k2,k3⟩:=ih q (l.set i d) l' _ h4 hf tE jr
      refine⟨cells',?_,k2,k3⟩
      simp only[abq,Instr.fill,pJ i e he]
      rw[aaA]
      ·exact k1
      ·have:=HG.2
       rw[oG,Li]at this
       simp[hvs]
       simp at this
       omega
    ·cases hf
   ·cases hf
theorem xd{s:Sh}{z:D}(hz:aL s z):∀(m i:Nat),(aA (List.replicate m z))[i]?=if i<m*s.size then z.flat[i %s.size]? else none
 |0,i=>by simp[aA]
 | m + 1, i => by
  simp only[acP,aA]
  rw[ad3,hz.len]
  by_cases h:i<s.size
  ·rw[aaI h,aaI (by rw[acJ];omega),aby h]
  ·rw[aaA h,xd hz m (i-s.size)]
   have h0:0<s.size\/s.size=0:=by omega
   rcases h0 with h0|h0
   ·have e:i %s.size=(i-s.size) %s.size:=by
     rw[<-Nat.mod_eq_sub_mod (by omega)]
    rw[e]
    by_cases h1:i-s.size<m*s.size
    ·rw[aaI h1,aaI (by rw[acJ];omega)]
    ·rw[aaA h1,aaA (by rw[acJ];omega)]
   ·simp[h0]
theorem u7{s:Sh}{z:D}{v:Value}(hz:aL s z)(hv:v.cells.size=s.size)(hc:bd (LR ρ w T) z.flat v.cells.toList)(m:Nat):
  bd (LR ρ w T) (aA (List.replicate m z)) ((Array.range (m*s.size)).map (v.cells[· %v.cells.size]!)).toList:=by
 refine⟨?_,λi x y hx hy=>?_⟩
 ·rw[bj (s:=s) (λd hd=>(abG hd)▸hz)]
  simp
 ·rw[xd hz]at hx
  split at hx
  ·rename_i hi
   simp only[Array.toList_map,Array.toList_range,abu,adB hi,acN,abY]at hy
   obtain⟨u,hu,hr⟩:=hc.some hx
   have hlt:i %v.cells.size<v.cells.size:=by
    rw[hv]
    apply ac5
    rcases Nat.eq_zero_or_pos s.size with h0|h0
    ·rw[h0]at hi;simp at hi
    ·exact h0
   have e:v.cells[i %v.cells.size]! =u:=by
    have h1:v.cells[i %s.size]?=some u:=by simpa using hu
    rw[hv]
    rw[hv]at hlt
    have h2:i %s.size<v.cells.size:=by omega
    rw[getElem!_pos v.cells (i %s.size) h2]
    rw[abw h2]at h1
    exact abg h1
   rw[<-hy,e]
   exact hr
  ·cases hx
section ops
variable (hs:eQ n ρ T env rows a w) (hG:tZ C ρ w T) {o:Oper} {k:D->Rows->Prop}
include hs hG
omit hG in
theorem Z5{t:TypeId}{s:Sh}{z:D}(ho:o.op= .alloc t)(hsh:sh P t=some s)(hz:zero P t=some z)(h:dW C env rows (.alloc s z) k):bO P n o ρ T env rows a w k:=by
 obtain⟨h1,v,h2,h3,h4⟩:=lJ hsh hz
 have hc:bd (LR ρ w T) (aA [z]) v.cells.toList:=by simpa[aA]using h4 ρ w T
 obtain⟨g1,g2⟩:=hs.GU ⟨s,[z]⟩ v.cells t _ rfl (by simpa using h1) (by simp[aA,h1.len,h3]) hc.M6
 refine⟨_,_,_,_,.pointer (some ⟨w.heap.size,0,none⟩),_,h,g1,g2,?_,.inl ?_,λ_=>⟨λb hb=> .inl (ua hb),λ_ h=> .inl h⟩⟩
 ·have:=LR.ptr (ρ:=uX ρ rows.length ⟨w.heap.size,s,v.cells.size,false⟩) (w:={w with heap:=w.heap.push (.cells v.cells t)}) (T:=T) s rows.length [0] ⟨w.heap.size,s,v.cells.size,false⟩ (by simp[uX]) rfl
  simpa[Loc.off,Sh.off]using VR.bH this
 ·simp[execOp,ho,Instr.alloc,h2,newVar,newRow]
theorem op_box{t:TypeId}{x:Operand}{x':X}{s:Sh}(ho:o.op= .box t x)(h1:cX x=some x')(h:dW C env rows (.box s x') k):bO P n o ρ T env rows a w k:=by
 obtain⟨d,he,hf,hk⟩:=au h
 obtain⟨g1,g2,_⟩:=(bJ h1 he hs hG).cells hf
 have hc:bd (LR ρ w T) (aA [d]) (a.eval x).cells.toList:=by simpa[aA]using g2
 obtain⟨q1,q2⟩:=hs.GU ⟨s,[d]⟩ (a.eval x).cells t _ rfl (by simpa using g1) (by have:=hc.len;simp at this⊢;omega) hc.M6
 refine⟨_,_,_,_,.pointer (some ⟨w.heap.size,0,none⟩),_,hk,q1,q2,?_,.inl ?_,λ_=>⟨λb hb=> .inl (ua hb),λ_ h=> .inl h⟩⟩
 ·have:=LR.ptr (ρ:=uX ρ rows.length ⟨w.heap.size,s,(a.eval x).cells.size,false⟩) (w:={w with heap:=w.heap.push (.cells (a.eval x).cells t)}) (T:=T) s rows.length [0] ⟨w.heap.size,s,(a.eval x).cells.size,false⟩ (by simp[uX]) rfl
  simpa[Loc.off,Sh.off]using VR.bH this
 ·simp[execOp,ho,Instr.box,newVar,newRow]
theorem Lj{t:TypeId}{x y:Operand}{x' y':X}{s:Sh}(ho:o.op= .store t x y)(hsh:sh P t=some s)(h1:cX x=some x')(h2:cX y=some y')(h:dW C env rows (.store s x' y') k):
  ∃d aa v w',k d aa/\eQ n ρ T env aa a w'/\Step ρ T rows w ρ T aa w'/\VR ρ w' T d v/\Runs P o a w v w'/\∃r p L,ev C env x'=some (.ptr s r p)/\ρ r=some L/\(∀b,b≠L.b->w'.heap[b]?=w.heap[b]?)/\∃x,aa=rows.set r (some x):=by
 obtain⟨d,he,hk⟩:=au h
 have hv:=bJ h1 he hs hG
 split at hk
 ·rename_i s' r p
  obtain⟨d,w9,k1⟩:=au hk
  obtain⟨hf,Kx,k2⟩:=k1
  subst Kx
  obtain⟨row,sI,k3⟩:=au k2
  obtain⟨els,tE,k4⟩:=au k3
  clear hk k2 k3
  obtain⟨g1,g2,_⟩:=(bJ h2 w9 hs hG).cells hf
  have hl:LR ρ w T _ _:=hv
  generalize hx:a.eval x=v at hl
  cases hl with
  | ptr _ _ _ L hL hp =>
   have hr:=hs.bE.row r row L sI hL
   obtain⟨cur,t',q1,q2,q3,q4⟩:=hr.cells (Loc.Ht hp)
   cases p with
   |nil=>simp[Loc.at]at hp
   | cons i p =>
    have hmp:=Loc.Ht hp
    rw[Loc.yC hmp,hr.sh]at hp
    obtain⟨m1,m2,m3,pre,old,post,m4,m5,m6,m7⟩:=Fm hr.els hp g1 tE
    rw[m4]at q4
    have HG:=q4.seg
    have oG:L.off (i::p)=pre.length:=by simp[Loc.off,hr.sh,m6]
    have hvl:(a.eval y).cells.toList.length=d.flat.length:=g2.len.symm
    have hfit:L.off (i::p)+0+(a.eval y).cells.toList.length<=cur.size:=by rw[oG,hvl,<-m7];simpa using HG.2
    have hone:∀v∈(a.eval y).cells.toList,v.oneCell'=true:=by
     intro v hv
     obtain⟨j,hj,rfl⟩:=aa3.1 hv
     exact(g2.at_ j _ _ (aap (by omega)) (aap hj)).one
    have hst:=gQ P L.b (L.off (i::p)) t' (a.eval y).cells.toList 0 cur w q1 hfit hone
    have my:(aA els).length=(pre++(old++post)).length:=by rw[m5];simp[m7]
    have jr:bd (LR ρ w T) (aA els) ((cur.toList.take (L.off (i::p)+0)++(a.eval y).cells.toList++cur.toList.drop (L.off (i::p)+0+(a.eval y).cells.toList.length)).take (aA els).length):=by
     rw[oG,hvl,<-m7]
     have z1:=q4.take pre.length
     rw[aa0,acV]at z1
     have z2:=q4.drop (pre.length+old.length)
     rw[<-abv,abe,abe,aeD]at z2
     have hle:pre.length+old.length<=cur.toList.length:=HG.2
     have:((cur.toList.take (pre.length+0)++(a.eval y).cells.toList++cur.toList.drop (pre.length+0+old.length)).take (aA els).length)=
       cur.toList.take (min pre.length (pre++(old++post)).length)++((a.eval y).cells.toList++((cur.toList.drop (pre.length+old.length)).take ((pre++(old++post)).length-(pre.length+old.length)))):=by
      rw[aaC,my,adZ,adZ]
      simp only[acQ,aau]
      have e1:min pre.length cur.toList.length=pre.length:=by omega
      rw[e1]
      simp only[aao]
      rw[acV]
      have e2:min (pre.length+(old.length+post.length)) pre.length=min pre.length (pre.length+(old.length+post.length)):=by omega
      rw[e2]
      congr 1
      have e3:(a.eval y).cells.toList.length=old.length:=by omega
      rw[e3]
      congr 1
      ·rw[aaq]
       omega
      ·congr 1
       omega
     rw[this,m5]
     exact z1.append (g2.append z2)
    obtain⟨u1,u2⟩:=hs.write sI hL els cur _ t' hmp q1 (by have hf2:=hfit;simp only[ab5]at hf2;simp only[ado,aao,aau,aar,ab5];omega) m1
     (by rw[my];rw[m4]at q3;exact q3) jr
    refine⟨_,_,undef,_,k4,u1,u2,?_,.inr ⟨?_,rfl⟩,r,i::p,L,he,hL,λb hb=>setRow_other w L.b b _ hb,_,rfl⟩
    ·exact⟨#[],rfl,.nil⟩
    ·obtain⟨inf,hi,hsz⟩:=yE hsh
     have hcs:(a.eval y).cells.size=s'.size:=by rw[<-g1.len];simpa using g2.len.symm
     simp[execOp,ho,hx,Instr.storeAt,Instr.sureAddr,storeVar,sizeOf,typeInfo,hi,hsz,hcs,hst]
 ·exact hk.elim
theorem Z6{t:TypeId}{x y:Operand}{x' y':X}{s:Sh}(ho:o.op= .store t x y)(hsh:sh P t=some s)(h1:cX x=some x')(h2:cX y=some y')(h:dW C env rows (.store s x' y') k):bO P n o ρ T env rows a w k:=by
 obtain⟨d,aa,v,w',g1,g2,g3,g4,g5,-⟩:=Lj hs hG ho hsh h1 h2 h
 exact⟨d,aa,ρ,T,v,w',g1,g2,g3,g4,g5,λhq=>by rw[ho]at hq;cases hq⟩
end ops
end Go.Am
namespace Go.Am
variable {C:bf} {P:Program} {n:Nat} {ρ:Pl} {T:Nat->Prop} {env:Env} {rows:Rows} {a:Act} {w:World}
theorem Ft{s:Sh}:∀(fs:List Field) (i:Nat),Hp s i fs=true->∀j f,fs[j]?=some f->f.offset=s.lH (i+j)
 |[],i,_,j,f,hf=>by simp at hf
 | x :: fs, i, h, j, f, hf => by
  simp[Hp]at h
  cases j with
  |zero=>simp at hf;subst hf;exact h.1
  |succ j=>
   have:=Ft fs (i+1) h.2 j f (by simpa using hf)
   rw[this];congr 1;omega
theorem u9{s:Sh}:∀(fs:List Field) (i:Nat),BC P s i fs=true->∀j f,fs[j]?=some f->∃inf e,P.info? f.type=some inf/\s.sub (i+j)=some e/\inf.size=e.size
 |[],i,_,j,f,hf=>by simp at hf
 | x :: fs, i, h, j, f, hf => by
  simp only[BC,aan]at h
  cases j with
  | zero =>
   simp at hf;subst hf
   have h1:=h.1
   split at h1
   ·rename_i inf e hi he
    exact⟨inf,e,hi,he,by simpa using h1⟩
   ·cases h1
  |succ j=>
   obtain⟨inf,e,h1,h2,h3⟩:=u9 fs (i+1) h.2 j f (by simpa using hf)
   exact⟨inf,e,h1,by rw[<-h2];congr 1;omega,h3⟩
theorem run_places:∀(fs:List Field),(∀(j:Nat) (f:Field),fs[j]?=some f->∃inf,P.info? f.type=some inf)->
  ∃ps:List (Nat×Nat),(fs.mapM (λ(f:Field)=>(do pure (f.offset,<-sizeOf f.type):Sem (Nat×Nat)))).run P w= .ok ps w/\ps.length=fs.length/\
   ∀(j:Nat) (f:Field) (inf:TypeInfo),fs[j]?=some f->P.info? f.type=some inf->ps[j]?=some (f.offset,inf.size)
 |[],_=>⟨[],by simp,rfl,by simp⟩
 | x :: fs, h => by
  obtain⟨inf,hi⟩:=h 0 x rfl
  obtain⟨ps,h1,h2,h3⟩:=run_places fs (λj f hf=>h (j+1) f (by simpa using hf))
  refine⟨(x.offset,inf.size)::ps,?_,by simp[h2],λj f inf' hf hi'=>?_⟩
  ·rw[List.mapM_cons]
   simp[sizeOf,typeInfo,hi]at h1⊢
   simp[h1]
  ·cases j with
   |zero=>simp at hf;subst hf;rw[hi]at hi';cases hi';rfl
   |succ j=>simpa using h3 j f inf' (by simpa using hf) hi'
theorem toAgg{s:Sh}{z:D}(h:aL s z)(ha:z.isAgg=true):∃l,z= .agg s l/\ZH z=l/\s.isAgg=true:=by
 cases z<;>simp[D.isAgg]at ha
 obtain⟨rfl,h2⟩:=pI h
 exact⟨_,rfl,rfl,h2⟩
section ops
variable (hs:eQ n ρ T env rows a w) (hG:tZ C ρ w T) {o:Oper} {k:D->Rows->Prop}
include hs hG
theorem W7{t:TypeId}{parts:Array (Nat×Operand)}{ps:List (Nat×X)}{s:Sh}{z:D}{fs:Array Field}(ho:o.op= .build t parts)(hsh:sh P t=some s)(hz:zero P t=some z)(hu:P.underlying t=some (.struct fs))
  (hp:pG parts.toList=some ps)(hza:z.isAgg=true)(hoffs:Hp s 0 fs.toList=true)(Z7:BC P s 0 fs.toList=true)(hcnt:fs.toList.length=s.count)
  (h:dW C env rows (.build s (ZH z) ps) k):bO P n o ρ T env rows a w k:=by
 obtain⟨l',hl,hk⟩:=au h
 obtain⟨h1,v,h2,h3,h4⟩:=lJ hsh hz
 obtain⟨l,rfl,hdz,ha⟩:=toAgg h1 hza
 rw[hdz]at hl
 obtain⟨pl,g1,g2,g3⟩:=run_places (P:=P) (w:=w) fs.toList (λj f hf=>by
  obtain⟨inf,e,q1,_,_⟩:=u9 fs.toList 0 Z7 j f hf
  exact⟨inf,q1⟩)
 have pJ:∀i e,s.sub i=some e->(λj=>pl[j]?) i=some (s.lH i,e.size):=by
  intro i e he
  have hi:i<fs.toList.length:=by rw[hcnt];exact sub_lt he
  have hf:fs.toList[i]?=some fs.toList[i]:=aap hi
  obtain⟨inf,e',q1,q2,q3⟩:=u9 fs.toList 0 Z7 i _ hf
  have:=g3 i _ inf hf q1
  rw[abE]at q2
  rw[he]at q2
  cases q2
  have q4:=Ft fs.toList 0 hoffs i _ hf
  rw[abE]at q4
  simp only[this,q3,q4]
 have h4':=h4 ρ w T
 simp only[D.flat]at h4'
 obtain⟨cells',f1,f2,f3⟩:=AI hs hG (place:=λj=>pl[j]?) pJ ha parts.toList ps l l' v.cells hp hl h1 h4'
 refine .here hs hk (VR.zz ⟨cells',rfl,f2,f3⟩) ?_
 have hm:(fs.mapM (λ(f:Field)=>(do pure (f.offset,<-sizeOf f.type):Sem (Nat×Nat)))).run P w= .ok pl.toArray w:=by
  rw[aej]
  simp at g1
  simp[g1]
 have tV:∀i:Nat,pl.toArray[i]?=pl[i]?:=λi=>by simp
 simp only[bind_pure_comp]at hm
 simp[execOp,ho,Instr.build,h2,run_underlying hu,hm]
 have f1':Instr.fill (λx=>pl[x]?) v.cells (List.map (λx=>(x.1,a.eval x.2)) parts.toList)=some cells':=f1
 simp[f1']
theorem W8{t e:TypeId}{m:Nat}{parts:Array (Nat×Operand)}{ps:List (Nat×X)}{s se:Sh}{z:D}(ho:o.op= .build t parts)(hsh:sh P t=some s)(hz:zero P t=some z)(hu:P.underlying t=some (.array m e))
  (hp:pG parts.toList=some ps)(hza:z.isAgg=true)(hse:sh P e=some se)(gy:s= .ar m se)
  (h:dW C env rows (.build s (ZH z) ps) k):bO P n o ρ T env rows a w k:=by
 obtain⟨l',hl,hk⟩:=au h
 obtain⟨h1,v,h2,h3,h4⟩:=lJ hsh hz
 obtain⟨l,rfl,hdz,ha⟩:=toAgg h1 hza
 rw[hdz]at hl
 subst gy
 have h4':=h4 ρ w T
 simp only[D.flat]at h4'
 obtain⟨cells',f1,f2,f3⟩:=AI hs hG (place:=λi=>some (i*se.size,se.size)) (λi e he=>by
  simp only[Sh.sub]at he
  split at he
  ·cases he;rfl
  ·cases he) ha parts.toList ps l l' v.cells hp hl h1 h4'
 refine .here hs hk (VR.zz ⟨cells',rfl,f2,f3⟩) ?_
 simp[execOp,ho,Instr.build,h2,run_underlying hu,run_sizeOf hse]
 simp[f1]
theorem W9{t e:TypeId}{m:Nat}{parts:Array (Nat×Operand)}{ps:List (Nat×X)}{s:Sh}{z:D}(ho:o.op= .buildSlice t m parts)(hu:P.underlying t=some (.slice e))(hsh:sh P e=some s)(hz:zero P e=some z)
  (hp:pG parts.toList=some ps)(hsz:s.size≠0)(HH:m*s.size<=16777216)
  (h:dW C env rows (.iX s m z ps) k):bO P n o ρ T env rows a w k:=by
 obtain⟨l',hl,hk⟩:=au h
 obtain⟨h1,v,h2,h3,h4⟩:=lJ hsh hz
 have bQ:=u7 (w:=w) (ρ:=ρ) (T:=T) h1 h3 (h4 ρ w T) m
 have hagg:aL (.ar m s) (.agg (.ar m s) (List.replicate m z)):=by
  refine .agg _ _ rfl (by simp[Sh.count]) λi e d hi hd=>?_
  simp only[Sh.sub]at hi
  split at hi
  ·cases hi;rw[abG (abZ hd)];exact h1
  ·cases hi
 obtain⟨cells',f1,f2,f3⟩:=AI hs hG (s:= .ar m s) (place:=λi=>some (i*s.size,s.size)) (λi e he=>by
  simp only[Sh.sub]at he
  split at he
  ·cases he;rfl
  ·cases he) rfl parts.toList ps (List.replicate m z) l' _ hp hl hagg bQ
 obtain⟨l2,xf,hlen,hsub2⟩:=f2.jN rfl
 cases xf
 have gP:∀d∈l',aL s d:=by
  intro d hd
  obtain⟨q,hq,rfl⟩:=aa3.1 hd
  exact hsub2 q s _ (by simp[Sh.sub];simp[Sh.count]at hlen;omega) (aap hq)
 have jZ:=f3.len
 rw[bj gP]at jZ
 simp[Sh.count]at hlen
 obtain⟨q1,q2⟩:=hs.GU ⟨s,l'⟩ cells' e _ rfl gP (by rw[bj gP];simp at jZ;omega) f3.M6
 refine⟨_,_,_,_,.slice (some ⟨w.heap.size,0,none⟩) m m,_,hk,q1,q2,?_,.inl ?_,λ_=>⟨λb hb=> .inl (ua hb),λ_ h=> .inl h⟩⟩
 ·have:=LR.sl (ρ:=uX ρ rows.length ⟨w.heap.size,s,cells'.size,false⟩) (w:={w with heap:=w.heap.push (.cells cells' e)}) (T:=T) s rows.length [] 0 m true ⟨w.heap.size,s,cells'.size,false⟩ m (by simp[uX]) (aaz _) (λ_=>rfl)
   (.inl ⟨rfl,rfl,rfl,by simp at jZ⊢;rw[<-jZ,hlen];exact aaz _⟩)
  simpa[Loc.off]using VR.bH this
 ·have hnz:¬(16777216<m*s.size):=by omega
  have hpm:(parts.map λx=>(x.1,a.eval x.2)).toList=parts.toList.map λx=>(x.1,a.eval x.2):=by simp
  simp only[execOp,ho,Instr.buildSlice,Sem.run_bind,run_underlying hu,Result.andThen_ok,run_sizeOf hsh]
  rw[aaA hnz]
  by_cases h0:m*s.size=0
  ·rw[h0]at f1
   rw[aaI h0,h0]
   have e0:∀f:Nat->Value,(Array.range 0).map f=#[]:=λf=>by simp
   rw[e0]at f1
   simp only[Sem.run_bind,Sem.run_pure,Result.andThen_ok,hpm,e0,f1]
   simp[newRow]
  ·rw[aaA h0]
   simp only[Sem.run_bind,h2,Result.andThen_ok,Sem.run_pure,hpm,f1]
   simp[newRow]
end ops
end Go.Am
namespace Go.Am
variable {C:bf} {P:Program} {n:Nat} {ρ:Pl} {T:Nat->Prop} {env:Env} {rows:Rows} {a:Act} {w:World}
theorem yG{x:Int}(h1:-9223372036854775808<=x)(h2:x<=9223372036854775807):IntKind.i64.wrap x=x:=by
 have e1:(2:Int)^IntKind.i64.bits=18446744073709551616:=by decide
 have e2:(2:Int)^(IntKind.i64.bits-1)=9223372036854775808:=by decide
 simp only[IntKind.wrap,e1,e2,IntKind.signed,abA]
 by_cases h:0<=x
 ·rw[adp h (by omega)]
  rw[aaA (by simp;omega)]
 ·have:x %18446744073709551616=x+18446744073709551616:=by omega
  rw[this,aaI (by simp;omega)]
  omega
theorem nA:most=1099511627776:=rfl
theorem Pf{i:TypeInfo}{N:Nat}(h:N*i.bytes<=most){cap:Nat}(hc:cap<N):Builtin.nextslicecap N cap*i.bytes<=281474976710656:=
 growslice_fits hc (by rw[nA]at h;omega)
theorem Gl{α:Type}(z:α){l c:Nat}(h:l<=c):List.replicate c z=List.replicate l z++List.replicate (c-l) z:=by
 rw[ab9]
 congr 1
 omega
theorem Ea{argTypes:Array TypeId}{ty t u e:TypeId}{args:Array Value}{base:Option Addr}{sLen sCap m:Nat}{x:Value}{s:Sh}{oX:List Value}
  (h0:argTypes[0]?=some t)(h1:argTypes[1]?=some u)(a0:args[0]?=some (.slice base sLen sCap))(a1:args[1]?=some x)(hu:P.underlying t=some (.slice e))(xg:(∃e',P.underlying u=some (.slice e'))\/P.underlying u=some .string)(hsh:sh P e=some s)(hlen:(Builtin.lenOf x).run P w= .ok m w)(hf:(Builtin.firstCells s.size m x).run P w= .ok oX.toArray w)(hroom:sLen+m<=sCap):
  (Builtin.append_ argTypes ty args).run P w=match base with
   |some ad=>((storeCells (ad.add (sLen*s.size)) oX).run P w).andThen λ_ w'=> .ok (.slice base (sLen+m) sCap) w'
   |none=> .ok (.slice base (sLen+m) sCap) w:=by
 rcases xg with⟨e',xg⟩|xg<;>cases base<;>simp[Builtin.append_,h0,h1,a0,a1,run_underlying hu,run_underlying xg,run_sizeOf hsh,hlen,hroom,hf]
theorem Eb{argTypes:Array TypeId}{ty t u e:TypeId}{args:Array Value}{base:Option Addr}{sLen sCap m:Nat}{x z:Value}{s:Sh}{i:TypeInfo}{oX Gm:List Value}
  (h0:argTypes[0]?=some t)(h1:argTypes[1]?=some u)(a0:args[0]?=some (.slice base sLen sCap))(a1:args[1]?=some x)(hu:P.underlying t=some (.slice e))(xg:(∃e',P.underlying u=some (.slice e'))\/P.underlying u=some .string)(hsh:sh P e=some s)(hi:P.info? e=some i)(hz:∀w,(zeroValue e).run P w= .ok z w)
  (hlen:(Builtin.lenOf x).run P w= .ok m w)(hf:(Builtin.firstCells s.size m x).run P w.drew= .ok oX.toArray w.drew)(ho:(Builtin.firstCells s.size sLen (.slice base sLen sCap)).run P w.drew= .ok Gm.toArray w.drew)
  (hg:sCap<sLen+m)(hb:(sLen+m)*i.bytes<=most)(HH:sLen+m<=most):
  (Builtin.append_ argTypes ty args).run P w= .ok (.slice (some ⟨w.heap.size,0,none⟩) (sLen+m) (grownCap w (sLen+m) sCap e))
   (w.drew.alloc (.cells (Gm.toArray++oX.toArray++Builtin.zeroCells z.cells (grownCap w (sLen+m) sCap e-(sLen+m))) e)):=by
 have hn:¬(sLen+m<=sCap):=by omega
 have h48:¬(281474976710656<Builtin.nextslicecap (sLen+m) sCap*i.bytes):=by have:=Pf hb hg;omega
 have h63:¬((9223372036854775807:Int)<(sLen:Int)+(m:Int)):=by
  rw[nA]at HH
  omega
 rcases xg with⟨e',xg⟩|xg<;>simp[Builtin.append_,h0,h1,a0,a1,run_underlying hu,run_underlying xg,run_sizeOf hsh,typeInfo,hi,hlen,hn,h48,h63,Question.forced,hf,ho,hz,newRow,grownCap]<;>(congr 2;apply acb;simp)
theorem Ec{argTypes:Array TypeId}{ty t u e:TypeId}{kd kd':IntKind}{args:Array Value}{base:Option Addr}{sLen sCap m:Nat}{z:Value}{s:Sh}{i:TypeInfo}
  (h0:argTypes[0]?=some t)(h1:argTypes[1]?=some u)(a0:args[0]?=some (.slice base sLen sCap))(a1:args[1]?=some (.int kd' m))(hu:P.underlying t=some (.slice e))(xg:P.underlying u=some (.int kd))
  (hsh:sh P e=some s)(hi:P.info? e=some i)(hz:∀w,(zeroValue e).run P w= .ok z w)(hroom:sLen+m<=sCap)(hb:(sLen+m)*i.bytes<=most)(HH:sLen+m<=most)(hzs:z.cells.size=s.size)(hsz:s.size≠0):
  (Builtin.append_ argTypes ty args).run P w=match base with
   |some ad=>((storeCells (ad.add (sLen*s.size)) (Builtin.zeroCells z.cells m).toList).run P w).andThen λ_ w'=> .ok (.slice base (sLen+m) sCap) w'
   |none=> .ok (.slice base (sLen+m) sCap) w:=by
 have hw:IntKind.i64.wrap (m:Int)=m:=yG (by omega) (by rw[nA]at HH;omega)
 have hneg:¬((m:Int)<0):=by omega
 have h48:¬((281474976710656:Int)<(m:Int)*(i.bytes:Int)):=by
  have h2:m*i.bytes<=most:=abd (abF _ (by omega)) hb
  rw[nA]at h2
  have h3:((m*i.bytes:Nat):Int)=(m:Int)*(i.bytes:Int):=by simp
  omega
 by_cases hm:m=0
 ·subst hm
  have hw0:IntKind.i64.wrap (0:Int)=0:=by decide
  cases base<;>simp[Builtin.append_,h0,h1,a0,a1,run_underlying hu,run_underlying xg,run_sizeOf hsh,asInt,asIntOf,typeInfo,hi,hw0,Builtin.zeroCells,storeCells,show sLen<=sCap by omega]
 ·have qR:m*s.size≠0:=Nat.mul_ne_zero hm hsz
  cases base<;>simp[Builtin.append_,h0,h1,a0,a1,run_underlying hu,run_underlying xg,run_sizeOf hsh,asInt,asIntOf,hw,hneg,typeInfo,hi,h48,hroom,qR,hz]
theorem Ed{argTypes:Array TypeId}{ty t u e:TypeId}{kd kd':IntKind}{args:Array Value}{base:Option Addr}{sLen sCap m:Nat}{z:Value}{s:Sh}{i:TypeInfo}{Gm:List Value}
  (h0:argTypes[0]?=some t)(h1:argTypes[1]?=some u)(a0:args[0]?=some (.slice base sLen sCap))(a1:args[1]?=some (.int kd' m))(hu:P.underlying t=some (.slice e))(xg:P.underlying u=some (.int kd))
  (hsh:sh P e=some s)(hi:P.info? e=some i)(hz:∀w,(zeroValue e).run P w= .ok z w)(ho:(Builtin.firstCells s.size sLen (.slice base sLen sCap)).run P w.drew= .ok Gm.toArray w.drew)
  (hg:sCap<sLen+m)(hb:(sLen+m)*i.bytes<=most)(HH:sLen+m<=most)(hzs:z.cells.size=s.size)(hsz:s.size≠0)(hm:m≠0):
  (Builtin.append_ argTypes ty args).run P w= .ok (.slice (some ⟨w.heap.size,0,none⟩) (sLen+m) (grownCap w (sLen+m) sCap e))
   (w.drew.alloc (.cells (Gm.toArray++Builtin.zeroCells z.cells m++Builtin.zeroCells z.cells (grownCap w (sLen+m) sCap e-(sLen+m))) e)):=by
 have hw:IntKind.i64.wrap (m:Int)=m:=yG (by omega) (by rw[nA]at HH;omega)
 have hneg:¬((m:Int)<0):=by omega
 have h48:¬((281474976710656:Int)<(m:Int)*(i.bytes:Int)):=by
  have h2:m*i.bytes<=most:=abd (abF _ (by omega)) hb
  rw[nA]at h2
  have h3:((m*i.bytes:Nat):Int)=(m:Int)*(i.bytes:Int):=by simp
  omega
 have hn:¬(sLen+m<=sCap):=by omega
 have h48':¬(281474976710656<Builtin.nextslicecap (sLen+m) sCap*i.bytes):=by have:=Pf hb hg;omega
 have h63:¬((9223372036854775807:Int)<(sLen:Int)+(m:Int)):=by
  rw[nA]at HH
  omega
 have qR:m*s.size≠0:=Nat.mul_ne_zero hm hsz
 simp[Builtin.append_,h0,h1,a0,a1,run_underlying hu,run_underlying xg,run_sizeOf hsh,asInt,asIntOf,hw,hneg,typeInfo,hi,h48,hn,h48',h63,qR,hz,Question.forced,ho,newRow,grownCap]
structure Ss (P:Program) (w:World) (e:TypeId) (s:Sh) (z:Value) (base:Option Addr) (sLen sCap m:Nat) (Gm oX:List Value) (R:Result Value):Prop where
 room:sLen+m<=sCap->R=match base with
   |some ad=>((storeCells (ad.add (sLen*s.size)) oX).run P w).andThen λ_ w'=> .ok (.slice base (sLen+m) sCap) w'
   |none=> .ok (.slice base (sLen+m) sCap) w
 grow:sCap<sLen+m->R= .ok (.slice (some ⟨w.heap.size,0,none⟩) (sLen+m) (grownCap w (sLen+m) sCap e))
   (w.drew.alloc (.cells (Gm.toArray++oX.toArray++Builtin.zeroCells z.cells (grownCap w (sLen+m) sCap e-(sLen+m))) e))
theorem eQ.ghost{n:Nat}(h:eQ n ρ T env rows a w)(row:Row):eQ n ρ T env (rows++[some row]) a w/\Step ρ T rows w ρ T (rows++[some row]) w:=by
 have hk:∀r row' L,live (rows++[some row]) r=some row'->ρ r=some L->live rows r=some row':=by
  intro r row' L hl hL
  rcases sJ hl with⟨rfl,_⟩|⟨_,h2⟩
  ·rw[h.wD rows.length (aaz _)]at hL;cases hL
  ·exact h2
 refine⟨⟨⟨λr row' L h1 h2=>h.bE.row r row' L (hk _ _ _ h1 h2) h2,λr1 r2 Gj pH L1 L2 h1 h2 h3 h4=>h.bE.kx r1 r2 Gj pH L1 L2 (hk _ _ _ h1 h3) (hk _ _ _ h2 h4) h3 h4⟩,h.env,h.size,h.wC,
  λr' uY=>h.wD r' (by simp at uY;omega),h.defers⟩,?_⟩
 exact⟨λ_ _ h=>h,λ_ h=>h,λ_ h=> .inl h,aaz _,λ_ _ _=>rfl,λr' row' L h1 h2=> .inl ⟨r',row',L,hk _ _ _ h1 h2,h2,rfl⟩,rfl,rfl,rfl,by simp,λ_ _=>rfl⟩
theorem eQ.killD(h:eQ n ρ T env rows a w)(d:D):eQ n ρ T env (Am.kill rows d) a w/\Step ρ T rows w ρ T (Am.kill rows d) w/\(Am.kill rows d).length=rows.length:=by
 cases d with
 |sl s r p o l e=>
  obtain⟨h1,h2⟩:=h.kill r
  exact⟨h1,h2,by simp[Am.kill]⟩
 | _=>exact⟨h,Step.refl _ _ _ _,rfl⟩
theorem Pg(hs:eQ n ρ T env rows a w){s:Sh}{e:TypeId}{z:Value}{sLen sCap:Nat}{old news:List D}{Gm oX:List Value}(hold:∀d∈old,aL s d)(jr:∀d∈news,aL s d)(hl:old.length=sLen)
  (ho:bd (LR ρ w T) (aA old) Gm)(hn:bd (LR ρ w T) (aA news) oX)(hzs:z.cells.size=s.size){k:D->Rows->Prop}(da:D):
  ∃ρ',eQ n ρ' T env (rows++[some ⟨s,old++news⟩]) a (w.drew.alloc (.cells (Gm.toArray++oX.toArray++Builtin.zeroCells z.cells (grownCap w (sLen+news.length) sCap e-(sLen+news.length))) e))/\
   Step ρ T rows w ρ' T (rows++[some ⟨s,old++news⟩]) (w.drew.alloc (.cells (Gm.toArray++oX.toArray++Builtin.zeroCells z.cells (grownCap w (sLen+news.length) sCap e-(sLen+news.length))) e))/\
   ∀w',LR ρ' w' T (.sl s rows.length [] 0 (sLen+news.length) false) (.slice (some ⟨w.heap.size,0,none⟩) (sLen+news.length) (grownCap w (sLen+news.length) sCap e)):=by
 have hcap:=grownCap_ge w (sLen+news.length) sCap e
 generalize hc:grownCap w (sLen+news.length) sCap e=cap at hcap⊢
 generalize Sm:(Gm.toArray++oX.toArray++Builtin.zeroCells z.cells (cap-(sLen+news.length)))=cur
 have bQ:∀d∈old++news,aL s d:=by
  intro d hd
  rcases aaQ.1 hd with h|h
  ·exact hold d h
  ·exact jr d h
 have h1:bd (LR ρ w T) (aA (old++news)) (Gm++oX):=by rw[eh];exact ho.append hn
 have jZ:cur.toList=(Gm++oX)++(Builtin.zeroCells z.cells (cap-(sLen+news.length))).toList:=by rw[<-Sm];simp
 have my:(aA (old++news)).length=(sLen+news.length)*s.size:=by rw[bj bQ,aao,hl]
 have hsz:cur.size=cap*s.size:=by
  have:cur.size=cur.toList.length:=by simp
  rw[this,jZ,aao,<-h1.len,my]
  have:(Builtin.zeroCells z.cells (cap-(sLen+news.length))).toList.length=(cap-(sLen+news.length))*s.size:=by simp[Builtin.zeroCells,hzs]
  rw[this,<-adK]
  congr 1
  omega
 obtain⟨g1,g2⟩:=(hs.heap (w':=w.drew) rfl).push (w':=w.drew.alloc (.cells cur e)) ⟨s,old++news⟩ cur e rfl rfl rfl rfl bQ (by rw[my,hsz];exact abF _ hcap) (by
  rw[jZ,h1.len,aa0]
  exact h1.mono λa b h=>h.mono (λ_ _ h=>h) (λ_ _=>rfl) (λ_ h=>h))
 refine⟨_,g1,?_,λw'=>?_⟩
 ·exact⟨g2.pl,g2.tt,g2.wB,g2.size,g2.keep,g2.fresh,g2.os,g2.tape,g2.output,g2.len,g2.same⟩
 ·have:=LR.sl (ρ:=uX ρ rows.length ⟨w.drew.heap.size,s,cur.size,false⟩) (w:=w') (T:=T) s rows.length [] 0 (sLen+news.length) false ⟨w.drew.heap.size,s,cur.size,false⟩ cap (by simp[uX]) hcap (by simp)
   (.inl ⟨rfl,rfl,rfl,by simp[hsz]⟩)
  simpa[Loc.off]using this
theorem Z8{α:Type}(l m r:List α)(N:Nat)(h:N=l.length+m.length):(l++m++r).take N=l++m:=by
 subst h
 rw[<-aao,aa0]
theorem Ll (hs : eQ n ρ T env rows a w) {s : Sh} {e : TypeId} {z : Value} {bytes sLen sCap : Nat} {base : Option Addr} {da : D} {old news : List D} {Gm oX : List Value} {k : D -> Rows -> Prop} {R : Result Value}
  (h:wW rows s bytes da news k)(he:elems rows da=some old)(Lm:dQ da=some sLen)(hv:LR ρ w T da (.slice base sLen sCap))(hH:Lf rows ρ w T s old (.slice base sLen sCap) sLen base sCap Gm)
  (jr:∀d∈news,aL s d)(hn:bd (LR ρ w T) (aA news) oX)(hzs:z.cells.size=s.size)(hR:Ss P w e s z base sLen sCap news.length Gm oX R):
  ∃d aa ρ' T' v w',k d aa/\eQ n ρ' T' env aa a w'/\Step ρ T rows w ρ' T' aa w'/\VR ρ' w' T' d v/\R= .ok v w':=by
 obtain⟨old',he',h⟩:=au h
 rw[he]at he'
 cases he'
 obtain⟨N,hN,hsh,hlen,hb,hmo,hk⟩:=au h
 rw[Lm]at hN
 cases hN
 by_cases hg:sCap<sLen+news.length
 · -- it grows
  have UX:=hR.grow hg
  cases hown:(isNil da||owned da)with
  |true=>
   simp[hown]at hk
   obtain⟨g1,g2,g3⟩:=hs.killD da
   obtain⟨ρ',q1,q2,q3⟩:=Pg g1 (e:=e) (sCap:=sCap) (k:=k) hH.els jr hlen hH.hcs hn hzs da
   rw[g3]at q3
   exact⟨_,_,ρ',T,_,_,hk,q1,g2.trans q2,VR.bH (q3 _),UX⟩
  | false =>
   simp[hown]at hk
   obtain⟨hex,UY,Zk⟩:=hk
   by_cases hm:news.length=0
   ·exfalso
    have:=hH.hcap
    omega
   ·have M3:=Zk (by intro e;apply hm;rw[e];rfl)
    obtain⟨ρ',q1,q2,q3⟩:=Pg hs (e:=e) (sCap:=sCap) (k:=k) hH.els jr hlen hH.hcs hn hzs da
    exact⟨_,_,ρ',T,_,_,M3,q1,q2,VR.bH (q3 _),UX⟩
 ·have hroom : sLen + news.length <= sCap := by omega
  have UX:=hR.room hroom
  have hncs:oX.length=news.length*s.size:=by rw[<-hn.len,bj jr]
  cases hown:(isNil da||owned da)with
  | false =>
   simp[hown]at hk
   obtain⟨hex,UY,Zk⟩:=hk
   have hm:news.length=0:=by
    cases hv with
    |raw v hv=>simp[exact]at hex
    |Bw=>omega
    |sl _ _ _ _ _ _ _ _ _ _ c2 _=>simp[exact]at hex;have:=c2 hex;omega
    |qj _ _ _ _ c1 _=>simp[exact]at hex;have:=c1 hex;omega
    |cI _ _ _ _ _ _ _ _ _ _ _ _ c5=>simp[exact]at hex;have:=c5 hex;omega
   have hnn:news=[]:=aaF hm
   have hnc:oX=[]:=aaF (by rw[hncs,hm];simp)
   subst hnn
   subst hnc
   refine⟨da,rows,ρ,T,.slice base sLen sCap,w,UY rfl,hs,Step.refl _ _ _ _,VR.bH hv,?_⟩
   rw[UX]
   cases base<;>simp[storeCells]
  | true =>
   simp[hown]at hk
   by_cases hz:sCap=0
   · --nothing at all
    have hm:news.length=0:=by omega
    have Gk:sLen=0:=by omega
    have hnn:news=[]:=aaF hm
    have hnc:oX=[]:=aaF (by rw[hncs,hm];simp)
    subst hnn hnc Gk hz
    obtain⟨g1,g2,g3⟩:=hs.killD da
    obtain⟨q1,q2⟩:=g1.ghost ⟨s,old++[]⟩
    refine⟨_,_,ρ,T,.slice base 0 0,w,hk,q1,g2.trans q2,VR.bH (.Bw _ _ _ _ _ _),?_⟩
    rw[UX]
    cases base<;>simp[storeCells]
   · -- a row of ours, in place
    cases hv with
    |raw v hv=>
     simp[owned]at hown
     unfold isNil at hown
     split at hown
     ·rename_i hh;cases hh;omega
     ·cases hown
    |Bw=>omega
    |qj=>simp[isNil,owned]at hown
    |cI=>simp[isNil,owned]at hown
    | sl _ r p off _ ex L _ hL c1 c2 c3 =>
     have hp:p=[]/\off=0:=by
      cases p<;>cases off<;>simp_all[isNil,owned]
     obtain⟨rfl,rfl⟩:=hp
     rcases c3 with⟨_,hsL,hmp,hcap⟩|⟨m,hm,_⟩
     ·simp[fa]at hsh
      subst hsh
      simp only[elems]at he
      cases hl:live rows r with
      |none=>simp[hl]at he
      | some row =>
       simp[hl]at he
       have hr:=hs.bE.row r row L hl hL
       obtain⟨cur,t,m1,m2,m3,m4⟩:=hr.cells hmp
       have hsrow:s=row.sh:=by rw[hsL,hr.sh]
       subst hsrow
       simp only[Loc.off,Nat.zero_mul,abE,nv]at UX hcap
       have hone:∀v∈oX,v.oneCell'=true:=by
        intro v hv
        obtain⟨j,hj,rfl⟩:=aa3.1 hv
        exact(hn.at_ j _ _ (aap (by rw[hn.len];exact hj)) (aap hj)).one
       have hfit:sLen*row.sh.size+0+oX.length<=cur.size:=by
        rw[hncs,acQ,<-adK]
        exact abd (abF _ hroom) (by omega)
       have hst:=gQ P L.b (sLen*row.sh.size) t oX 0 cur w m1 hfit hone
       have bQ:∀d∈old++news,aL row.sh d:=by
        intro d hd
        rcases aaQ.1 hd with h|h
        ·exact hH.els d h
        ·exact jr d h
       have my:(aA (old++news)).length=(sLen+news.length)*row.sh.size:=by rw[bj bQ,aao,hlen]
       have Xa:Gm.length=sLen*row.sh.size:=hH.HA
       have hoc:cur.toList.take (sLen*row.sh.size)=Gm:=by
        apply aco
        intro j
        rw[abt]
        by_cases hj:j<sLen*row.sh.size
        ·rw[aaI hj]
         have oe:Gm[j]?=some Gm[j]:=aap (by omega)
         obtain⟨b,o',pS,Ln⟩:=hH.at_ j _ oe
         cases pS
         rw[oe,<-Ln,cell_of_row w L.b _ cur t m1.choose m1.choose_spec.1]
         simp[Loc.off]
        ·rw[aaA hj,abh (by omega)]
       have hnewc:bd (LR ρ w T) (aA (old++news)) ((cur.toList.take (sLen*row.sh.size+0)++oX++cur.toList.drop (sLen*row.sh.size+0+oX.length)).take (aA (old++news)).length):=by
        rw[Z8 _ _ _ _ (by rw[my,acQ,hoc,Xa,hncs,adK]),acQ,hoc,eh]
        exact hH.hcs.append hn
       obtain⟨u1,u2⟩:=hs.move hl hL (old++news) cur (cur.toList.take (sLen*row.sh.size+0)++oX++cur.toList.drop (sLen*row.sh.size+0+oX.length)).toArray t hmp m1
        (by simp only[ado,aao,aau,aar,ab5];omega) bQ
        (by rw[my];exact abd (abF _ hroom) hcap) hnewc
       refine⟨_,_,_,T,.slice (some ⟨L.b,0,none⟩) (sLen+news.length) sCap,_,hk,u1,u2,?_,?_⟩
       ·have:=LR.sl (ρ:=uX ρ rows.length L) (w:=w.setRow L.b (cur.toList.take (sLen*row.sh.size+0)++oX++cur.toList.drop (sLen*row.sh.size+0+oX.length)).toArray) (T:=T) row.sh rows.length [] 0 (sLen+news.length) false L sCap (by simp[uX]) hroom (by simp)
         (.inl ⟨rfl,hsL,hmp,by simpa using hcap⟩)
        simpa[Loc.off]using VR.bH this
       ·rw[UX,hst]
        simp
     ·simp[Loc.at]at hm
end Go.Am
namespace Go.Am
variable {C:bf} {P:Program} {n:Nat} {ρ:Pl} {T:Nat->Prop} {env:Env} {rows:Rows} {a:Act} {w:World}
theorem vi{d:D}{l:List D}(h:elems rows d=some l):d.eZ=true:=by
 cases d<;>simp_all[elems,D.eZ]
 split at h<;>simp_all[Value.oneCell']
theorem Fu(b:ByteArray):(∀d∈ofBytes b,aL (.leaf tU) d)/\bd (LR ρ w T) (aA (ofBytes b)) (b.data.toList.map λx=>Value.int .u8 x.toNat):=by
 unfold ofBytes
 generalize b.data.toList=l
 induction l with
 |nil=>exact⟨by simp,.nil⟩
 | cons x l ih =>
  refine⟨λd hd=>?_,?_⟩
  ·simp only[abq,aaW]at hd
   rcases hd with h|h
   ·rw[h];exact .leaf _ _ rfl
   ·exact ih.1 d h
  ·simp only[abq,aA,D.flat,List.singleton_append]
   exact .cons (.raw _ rfl) ih.2
structure Src (ρ:Pl) (w:World) (T:Nat->Prop) (P:Program) (s:Sh) (news:List D) (v:Value) (oX:List Value):Prop where
 els:∀d∈news,aL s d
 cs:bd (LR ρ w T) (aA news) oX
 len:∀w',(Builtin.lenOf v).run P w'= .ok news.length w'
 first:∀w',w'.heap=w.heap->∀m,m<=news.length->(Builtin.firstCells s.size m v).run P w'= .ok (oX.take (m*s.size)).toArray w'
theorem Lo(hs:eQ n ρ T env rows a w){s:Sh}{d:D}{v:Value}{news:List D}(hv:VR ρ w T d v)(h:sH rows s d=some news)(hlen:∀k,dQ d=some k->news.length=k):∃oX,Src ρ w T P s news v oX:=by
 unfold sH at h
 split at h
 ·rename_i b
  obtain⟨h1,h2⟩:=HE h
  have kf:s= .leaf tU:=by simpa using h1
  subst kf;subst h2
  have:=VR.ofRaw hv
  subst this
  obtain⟨g1,g2⟩:=Fu (ρ:=ρ) (w:=w) (T:=T) b
  refine⟨_,g1,g2,λw'=>by simp[Builtin.lenOf,ofBytes],λw' hw m hm=>?_⟩
  simp only[Builtin.firstCells,Sem.run_pure,Sh.size,Nat.mul_one]
  congr 1
  apply acb
  simp[ByteArray.data_extract,List.map_take,List.extract]
 ·cases hsh:fa s d with
  |false=>simp[hsh]at h
  | true =>
   simp[hsh]at h
   cases hk:dQ d with
   |none=>
    cases d<;>simp[elems,dQ]at h hk
    split at h<;>simp_all
   |some k=>
    obtain⟨ad,cap,cs,hH⟩:=hs.bE.holds (hv.BE (vi h)) h hk (hlen k hk) hsh
    have hl:=hlen k hk
    refine⟨cs,hH.els,hH.hcs,λw'=>by rw[hH.hv];simp[Builtin.lenOf,hl],λw' hw m hm=>hH.first hw m (by omega)⟩
theorem Src.HA{s:Sh}{news:List D}{v:Value}{oX:List Value}(h:Src ρ w T P s news v oX):oX.length=news.length*s.size:=by rw[<-h.cs.len,bj h.els]
theorem bd.write{α β:Type}{R:α->β->Prop}{A M B M':List α}{cur cs:List β}{N:Nat}(h:bd R (A++(M++B)) (cur.take N))(hN:N=(A++(M++B)).length)(hM:bd R M' cs)(hl:M'.length=M.length):
  bd R (A++(M'++B)) ((cur.take A.length++cs++cur.drop (A.length+cs.length)).take (A++(M'++B)).length):=by
 have HG:=h.seg
 have hcs:cs.length=M.length:=by rw[<-hM.len,hl]
 have z1:=h.take A.length
 rw[aa0,acV]at z1
 have z2:=h.drop (A.length+M.length)
 rw[<-abv,abe,abe,aeD]at z2
 have e0:(A++(M'++B)).length=N:=by rw[hN];simp[hl]
 rw[e0]
 have:((cur.take A.length++cs++cur.drop (A.length+cs.length)).take N)=cur.take (min A.length N)++(cs++((cur.drop (A.length+M.length)).take (N-(A.length+M.length)))):=by
  have hNl:N=A.length+(M.length+B.length):=by rw[hN];simp
  rw[aaC,adZ,adZ]
  simp only[aau]
  have e1:min A.length cur.length=A.length:=by omega
  rw[e1,acV]
  have e2:min N A.length=min A.length N:=by omega
  rw[e2]
  congr 1
  rw[hcs]
  congr 1
  ·rw[aaq]
   omega
  ·congr 1
   omega
 rw[this]
 exact z1.append (hM.append z2)
theorem BI{s:Sh}{l xs:List D}{off:Nat}(h:off+xs.length<=l.length):
  aA l=aA (l.take off)++(aA ((l.drop off).take xs.length)++aA (l.drop (off+xs.length)))/\aA (bh l off xs)=aA (l.take off)++(aA xs++aA (l.drop (off+xs.length))):=by
 refine⟨?_,by simp[bh,eh]⟩
 rw[<-eh,<-eh]
 congr 1
 have:(l.drop off).take xs.length++l.drop (off+xs.length)=l.drop off:=by rw[<-abv,aa5]
 rw[this,aa5]
theorem AJ{s:Sh}{l xs:List D}{off:Nat}(h:∀d∈l,aL s d)(hx:∀d∈xs,aL s d):∀d∈bh l off xs,aL s d:=by
 intro d hd
 simp only[bh,aaQ]at hd
 rcases hd with(h1|h1)|h1
 ·exact h d (aa1 h1)
 ·exact hx d h1
 ·exact h d (aca h1)
theorem AK{l xs:List D}{off:Nat}(h:off+xs.length<=l.length):(bh l off xs).length=l.length:=by
 simp[bh];omega
theorem Ph{r:Nat}{row:Row}(h:live rows r=some row):rows[r]?=some (some row):=by
 unfold live at h
 split at h
 ·rename_i hh;rw[hh,abg h]
 ·cases h
theorem BJ{α:Type}{l:List α}{i:Nat}{x:α}(h:l[i]?=some x):l.set i x=l:=by
 apply aco
 intro j
 rw[adn]
 split
 ·rename_i e;subst e
  rw[aaI (dA h),h]
 ·rfl
theorem vS{α β γ:Type}(r:Result α)(f:α->World->Result β)(g:β->World->Result γ):(r.andThen f).andThen g=r.andThen λa w=>(f a w).andThen g:=by
 cases r<;>rfl
section ops
variable (hs:eQ n ρ T env rows a w) (hG:tZ C ρ w T) {o:Oper} {k:D->Rows->Prop}
include hs hG
omit hs hG in
theorem qp{d:D}{aa:Rows}{ρ':Pl}{T':Nat->Prop}{v:Value}{w':World}(hk:k d aa)(g1:eQ n ρ' T' env aa a w')(g2:Step ρ T rows w ρ' T' aa w')(hv:VR ρ' w' T' d v)(hq:gG o.op=true->QH ρ rows w w'/\∀b,T' b->T b\/w.heap.size<=b)(hr:(execOp a.eval o).run P w= .ok (.value v) w'):
  bO P n o ρ T env rows a w k:=⟨d,aa,ρ',T',v,w',hk,g1,g2,hv,.inl hr,hq⟩
theorem op_mks{t e:TypeId}{l c:Operand}{l' c':X}{s:Sh}{z:D}(ho:o.op= .makeSlice t l c)(hu:P.underlying t=some (.slice e))(hsh:sh P e=some s)(hz:zero P e=some z)(h1:cX l=some l')(h2:cX c=some c')
  (h:dW C env rows (.mks s (oF P e) z l' c') k):bO P n o ρ T env rows a w k:=by
 obtain⟨d,he,hk⟩:=au h
 split at hk
 ·rename_i kl L
  obtain⟨d2,w9,M3⟩:=au hk
  clear hk
  split at M3
  ·rename_i kc Cp
   have hx:=fb h1 he hs hG
   have hy:=fb h2 w9 hs hG
   obtain⟨b1,b2,b3,b4,hk⟩:=M3
   obtain⟨g1,v,g2,g3,g4⟩:=lJ hsh hz
   obtain⟨i,hi,hsz⟩:=yE hsh
   have hby:oF P e=i.bytes:=by simp[oF,hi]
   rw[hby]at b3
   rw[nA]at b3 b4
   have w1:IntKind.i64.wrap L=L:=yG (by omega) (by omega)
   have w2:IntKind.i64.wrap Cp=Cp:=yG (by omega) (by omega)
   obtain⟨l0,rfl⟩:=aaD b1
   obtain⟨c0,rfl⟩:=aaD (Int.le_trans b1 b2)
   have hlc:l0<=c0:=by omega
   have bQ:=u7 (w:=w) (ρ:=ρ) (T:=T) g1 g3 (g4 ρ w T) c0
   have hrep:∀d∈List.replicate l0 z,aL s d:=λd hd=>(abG hd)▸g1
   have my:(aA (List.replicate l0 z)).length=l0*s.size:=by rw[bj hrep,aaS]
   have hfc:(aA (List.replicate c0 z)).length=c0*s.size:=by rw[bj (s:=s) (λd hd=>(abG hd)▸g1),aaS]
   have hpre:bd (LR ρ w T) (aA (List.replicate l0 z)) (((Array.range (c0*s.size)).map (v.cells[· %v.cells.size]!)).toList.take (aA (List.replicate l0 z)).length):=by
    have h5:=bQ.take (aA (List.replicate l0 z)).length
    rw[Gl z hlc,eh,aa0]at h5
    exact h5
   obtain⟨q1,q2⟩:=hs.GU ⟨s,List.replicate l0 z⟩ ((Array.range (c0*s.size)).map (v.cells[· %v.cells.size]!)) e _ rfl hrep (by rw[my];simp;exact abF _ hlc) hpre
   refine qp (v:= .slice (some ⟨w.heap.size,0,none⟩) l0 c0) hk q1 q2 ?_ (λ_=>⟨λb hb=> .inl (ua hb),λ_ h=> .inl h⟩) ?_
   ·have:=LR.sl (ρ:=uX ρ rows.length ⟨w.heap.size,s,((Array.range (c0*s.size)).map (v.cells[· %v.cells.size]!)).size,false⟩) (w:={w with heap:=w.heap.push (.cells ((Array.range (c0*s.size)).map (v.cells[· %v.cells.size]!)) e)}) (T:=T) s rows.length [] 0 l0 (decide ((l0:Int)=c0)) ⟨w.heap.size,s,((Array.range (c0*s.size)).map (v.cells[· %v.cells.size]!)).size,false⟩ c0 (by simp[uX]) hlc (by simp;omega)
     (.inl ⟨rfl,rfl,rfl,by simp⟩)
    simpa[Loc.off]using VR.bH this
   ·have n1:¬((c0:Int)<0):=by omega
    have n2:¬((281474976710656:Int)<(i.bytes:Int)*(c0:Int)):=by rw[Int.mul_comm];omega
    have n3:¬(c0<l0):=by omega
    have n4:¬((l0:Int)<0):=by omega
    simp only[execOp,ho,Instr.makeSlice,hx,hy,Sem.run_bind,run_underlying hu,Result.andThen_ok,asInt,asIntOf,Sem.run_pure,typeInfo,run_program,hi,w1,w2]
    by_cases h0:c0*s.size=0
    ·have e0:∀f g:Nat->Value,(Array.range 0).map f=(Array.range 0).map g:=λf g=>by simp
     simp[n1,n2,n3,n4,sizeOf,typeInfo,hi,hsz,h0,newRow]
     rw[e0]
    ·simp[n1,n2,n3,n4,sizeOf,typeInfo,hi,hsz,h0,newRow,g2]
  ·exact M3.elim
 ·exact hk.elim
omit hs hG in
theorem HI{c:Call}{x y:Operand}(hc:c.args.toList=[x,y]){t u:TypeId}(ht:c.argTypes.toList=[t,u]):
  c.argTypes[0]?=some t/\c.argTypes[1]?=some u/\(c.args.map a.eval)[0]?=some (a.eval x)/\(c.args.map a.eval)[1]?=some (a.eval y):=by
 have h1:c.argTypes=#[t,u]:=by apply acb;simpa using ht
 have h2:c.args=#[x,y]:=by apply acb;simpa using hc
 rw[h1,h2]
 simp
theorem Lp{c:Call}{x y:Operand}{x' y':X}{t u e:TypeId}{s:Sh}{z:D}(ho:o.op= .call c)(hc:c.callee= .builtin .append)(hargs:c.args.toList=[x,y])(AL:c.argTypes.toList=[t,u])(hu:P.underlying t=some (.slice e))
  (xg:(∃e',P.underlying u=some (.slice e'))\/P.underlying u=some .string)(hsh:sh P e=some s)(hz:zero P e=some z)(h1:cX x=some x')(h2:cX y=some y')
  (h:dW C env rows (.append s (oF P e) x' y') k):bO P n o ρ T env rows a w k:=by
 obtain⟨da,he,k1⟩:=au h
 obtain⟨db,w9,k2⟩:=au k1
 obtain⟨news,hn,hk⟩:=au k2
 clear k1 k2
 obtain⟨hlb,hk⟩:=hk
 have Su:=bJ h1 he hs hG
 have hvb:=bJ h2 w9 hs hG
 obtain⟨oX,hsrc⟩:=Lo (P:=P) hs hvb hn hlb
 obtain⟨old,hold,k1⟩:=au hk
 obtain⟨N,hN,k2⟩:=au k1
 obtain⟨Kx,hlen,hb,hmo,_⟩:=k2
 have DW:=Su.BE (vi hold)
 obtain⟨ad,cap,Gm,hH⟩:=hs.bE.holds DW hold hN hlen Kx
 obtain⟨g1,v,g2,g3,g4⟩:=lJ hsh hz
 obtain⟨i,hi,hsz⟩:=yE hsh
 have hby:oF P e=i.bytes:=by simp[oF,hi]
 obtain⟨a0,a1,a2,a3⟩:=HI (a:=a) hargs AL
 rw[hH.hv]at a2 DW
 have hH':=hH
 rw[hH.hv]at hH'
 have hR:Ss P w e s v ad N cap news.length Gm oX ((Builtin.append_ c.argTypes o.type (c.args.map a.eval)).run P w):=by
  refine⟨λhroom=>?_,λhg=>?_⟩
  ·have hf:=hsrc.first w rfl news.length (aaz _)
   rw[<-hsrc.HA,aaV]at hf
   exact Ea a0 a1 a2 a3 hu xg hsh (hsrc.len w) hf hroom
  ·have hf:=hsrc.first w.drew rfl news.length (aaz _)
   rw[<-hsrc.HA,aaV]at hf
   have hfo:=hH'.first (P:=P) (w':=w.drew) rfl N (aaz _)
   rw[<-hH'.HA,aaV]at hfo
   exact Eb a0 a1 a2 a3 hu xg hsh hi g2 (hsrc.len w) hf hfo hg (by rw[<-hby];exact hb) hmo
 obtain⟨d,aa,ρ',T',v',w',m1,m2,m3,m4,m5⟩:=Ll hs hk hold hN DW hH' hsrc.els hsrc.cs g3 hR
 refine qp m1 m2 m3 m4 (λhq=>by rw[ho]at hq;simp[gG,hc]at hq) ?_
 rw[ik ho hc]
 simp[builtin,m5]
theorem Sv{c:Call}{x y:Operand}{x' y':X}{t u e:TypeId}{s:Sh}{z:D}{kd:IntKind}(ho:o.op= .call c)(hc:c.callee= .builtin .append)(hargs:c.args.toList=[x,y])(AL:c.argTypes.toList=[t,u])(hu:P.underlying t=some (.slice e))
  (xg:P.underlying u=some (.int kd))(hsh:sh P e=some s)(hz:zero P e=some z)(hsz0:s.size≠0)(h1:cX x=some x')(h2:cX y=some y')
  (h:dW C env rows (.u5 s (oF P e) z x' y') k):bO P n o ρ T env rows a w k:=by
 obtain⟨da,he,k1⟩:=au h
 obtain⟨db,w9,k2⟩:=au k1
 clear k1
 split at k2
 ·rename_i kd' M
  obtain⟨hM,hk⟩:=k2
  have Su:=bJ h1 he hs hG
  have hy:=fb h2 w9 hs hG
  obtain⟨m,rfl⟩:=aaD hM
  simp only[Int.ofNat_eq_natCast,aaB]at hk hy
  obtain⟨old,hold,k1⟩:=au hk
  obtain⟨N,hN,k2⟩:=au k1
  obtain⟨Kx,hlen,hb,hmo,_⟩:=k2
  have DW:=Su.BE (vi hold)
  obtain⟨ad,cap,Gm,hH⟩:=hs.bE.holds DW hold hN hlen Kx
  obtain⟨g1,v,g2,g3,g4⟩:=lJ hsh hz
  obtain⟨i,hi,hsz⟩:=yE hsh
  have hby:oF P e=i.bytes:=by simp[oF,hi]
  obtain⟨a0,a1,a2,a3⟩:=HI (a:=a) hargs AL
  rw[hH.hv]at a2 DW
  rw[hy]at a3
  have hH':=hH
  rw[hH.hv]at hH'
  simp only[aaS]at hb hmo
  rw[hby]at hb
  have hR:Ss P w e s v ad N cap (List.replicate m z).length Gm (Builtin.zeroCells v.cells m).toList ((Builtin.append_ c.argTypes o.type (c.args.map a.eval)).run P w):=by
   refine⟨λhroom=>?_,λhg=>?_⟩
   ·simp only[aaS]at hroom⊢
    exact Ec a0 a1 a2 a3 hu xg hsh hi g2 hroom hb hmo g3 hsz0
   ·simp only[aaS]at hg⊢
    have hfo:=hH'.first (P:=P) (w':=w.drew) rfl N (aaz _)
    rw[<-hH'.HA,aaV]at hfo
    have:=Ed (ty:=o.type) a0 a1 a2 a3 hu xg hsh hi g2 hfo hg hb hmo g3 hsz0 (by have:=hH'.hcap;omega)
    simpa using this
  have Z9:=u7 (w:=w) (ρ:=ρ) (T:=T) g1 g3 (g4 ρ w T) m
  have hze:(Builtin.zeroCells v.cells m).toList=((Array.range (m*s.size)).map (v.cells[· %v.cells.size]!)).toList:=by simp[Builtin.zeroCells,g3]
  obtain⟨d,aa,ρ',T',v',w',m1,m2,m3,m4,m5⟩:=Ll hs hk hold hN DW hH' (λd hd=>(abG hd)▸g1) (by rw[hze];exact Z9) g3 hR
  refine qp m1 m2 m3 m4 (λhq=>by rw[ho]at hq;simp[gG,hc]at hq) ?_
  rw[ik ho hc]
  simp[builtin,m5]
 ·exact k2.elim
omit hs hG in
theorem Xb{c:Call}{x y:Operand}(hc:c.args.toList=[x,y]){t u:TypeId}(ht:c.argTypes.toList=[t,u]):
  c.argTypes[0]?=some t/\(c.args.map a.eval)[0]?=some (a.eval x)/\(c.args.map a.eval)[1]?=some (a.eval y):=by
 obtain⟨h1,_,h2,h3⟩:=HI (a:=a) hc ht
 exact⟨h1,h2,h3⟩
omit hG in
theorem HJ {s : Sh} {da : D} {src : List D} {oX : List Value} {k0 : D -> Rows -> Prop} {x : Operand} {g : Nat -> D} {f : Nat -> Value}
  (Su:VR ρ w T da (a.eval x))(gP:∀d∈src,aL s d)(hcs:bd (LR ρ w T) (aA src) oX)
  (hrun:∀(ad:Option Addr) (len cap:Nat),dQ da=some len->a.eval x= .slice ad len cap->(execOp a.eval o).run P w=
   ((match ad with
    |some q=>(storeCells q (oX.take (min src.length len*s.size))).run P w
    |none=> .ok () w).andThen λ_ w'=> .ok (.value (f (min src.length len))) w'))
  (hq:gG o.op=false)(hfg:∀m ρ w T,VR ρ w T (g m) (f m))(UY:∀(m:Nat) rows,k0 (.raw (.int .i64 m)) rows->k (g m) rows)(hk:o5 rows s da src k0):bO P n o ρ T env rows a w k:=by
 unfold o5 at hk
 split at hk
 ·refine .here hs (UY 0 _ hk) (hfg 0 _ _ _) ?_
  rw[hrun _ _ _ rfl Su.ofRaw]
  simp
 ·rename_i t' r off len ex
  obtain⟨rfl,k1⟩:=hk
  obtain⟨row,hl,hle,hk⟩:=au k1
  clear k1
  have DW:LR ρ w T _ _:=Su
  generalize hx:a.eval x=v at DW
  cases DW with
  |Bw _ _ _ _ _ ad=>
   have e1:bh row.els off (src.take (min src.length 0))=row.els:=by simp[bh]
   rw[e1]at hk
   have e2:rows.set r (some ⟨row.sh,row.els⟩)=rows:=BJ (Ph hl)
   rw[e2]at hk
   refine .here hs (UY _ _ hk) (hfg _ _ _ _) ?_
   rw[hrun _ _ _ rfl hx]
   cases ad<;>simp[storeCells]
  | sl _ _ _ _ _ _ L cap hL c1 c2 c3 =>
   have hr:=hs.bE.row r row L hl hL
   have hmp:=LR.Hu c3
   obtain⟨cur,t2,m1,m2,m3,m4⟩:=hr.cells hmp
   have hsr:t'=row.sh:=by
    rcases c3 with⟨_,c3,_⟩|⟨m,c3,_⟩
    ·rw[c3,hr.sh]
    ·simp[Loc.at]at c3
   subst hsr
   have hNl:(src.take (min src.length len)).length=min src.length len:=by rw[aau];omega
   have Sk:∀d∈src.take (min src.length len),aL row.sh d:=λd hd=>gP d (aa1 hd)
   have hfit:off+(src.take (min src.length len)).length<=row.els.length:=by omega
   obtain⟨f1,f2⟩:=BI (s:=row.sh) hfit
   have hM:bd (LR ρ w T) (aA (src.take (min src.length len))) (oX.take (min src.length len*row.sh.size)):=by
    have h5:=hcs.take (min src.length len*row.sh.size)
    have h6:aA src=aA (src.take (min src.length len))++aA (src.drop (min src.length len)):=by rw[<-eh,aa5]
    have h7:(aA (src.take (min src.length len))).length=min src.length len*row.sh.size:=by rw[bj Sk,hNl]
    rw[h6,<-h7,aa0,h7]at h5
    exact h5
   have hA:(aA (row.els.take off)).length=off*row.sh.size:=by
    rw[bj (λd hd=>hr.els d (aa1 hd)),aau]
    congr 1
    omega
   have aaa:(aA (src.take (min src.length len))).length=(aA ((row.els.drop off).take (src.take (min src.length len)).length)).length:=by
    rw[bj Sk,bj (λd hd=>hr.els d (aca (aa1 hd)))]
    congr 1
    simp only[aau,aar]
    omega
   have m5:=m4
   rw[f1]at m5
   have HG:=m5.seg
   have hw:=m5.write rfl hM aaa
   rw[<-f2,hA]at hw
   have jZ:=hM.len
   have hone:∀v∈oX.take (min src.length len*row.sh.size),v.oneCell'=true:=by
    intro v hv
    obtain⟨j,hj,rfl⟩:=aa3.1 hv
    exact(hM.at_ j _ _ (aap (by omega)) (aap hj)).one
   have Pj:off*row.sh.size+0+(oX.take (min src.length len*row.sh.size)).length<=cur.size:=by
    have:=HG.2
    rw[hA,<-aaa,jZ]at this
    simpa using this
   have hst:=gQ P L.b (off*row.sh.size) t2 _ 0 cur w m1 Pj hone
   have HK:(aA (bh row.els off (src.take (min src.length len)))).length=(aA row.els).length:=by
    rw[bj (AJ (s:=row.sh) hr.els Sk),AK hfit,bj hr.els]
   obtain⟨u1,u2⟩:=hs.write hl hL _ cur (cur.toList.take (off*row.sh.size+0)++oX.take (min src.length len*row.sh.size)++cur.toList.drop (off*row.sh.size+0+(oX.take (min src.length len*row.sh.size)).length)).toArray t2 hmp m1
    (by simp only[ado,aao,aar,ab5];simp only[aau,ab5]at Pj⊢;omega)
    (AJ hr.els Sk) (by rw[HK];exact m3) hw
   refine qp (UY _ _ hk) u1 u2 (hfg _ _ _ _) (λh=>by rw[hq]at h;cases h) ?_
   rw[hrun _ _ _ rfl hx]
   simp only[Loc.off,abE,hst,Result.andThen_ok]
 ·rename_i t' r i p off len ex
  obtain⟨rfl,k1⟩:=hk
  obtain⟨row,hl,k2⟩:=au k1
  obtain⟨d2,hg,k3⟩:=au k2
  clear k1 k2
  split at k3
  ·rename_i q ul
   obtain⟨hle,k4⟩:=k3
   obtain⟨els,tE,hk⟩:=au k4
   clear k4
   have DW:LR ρ w T _ _:=Su
   generalize hx:a.eval x=v at DW
   cases DW with
   | Bw _ _ _ _ _ ad =>
    have e1:bh ul off (src.take (min src.length 0))=ul:=by simp[bh]
    rw[e1]at tE
    have e3:∀(p:List Nat) (d x:D),d.get p=some x->d.set p x=some d:=by
     intro p
     induction p with
     |nil=>intro d x h;simp[D.get]at h;subst h;simp[D.set]
     | cons j p ih =>
      intro d x h
      cases d with
      | agg s l =>
       simp only[D.get]at h
       simp only[D.set]
       cases hj:l[j]? with
       |none=>simp[hj]at h
       |some y=>
        simp only[hj]at h⊢
        rw[ih y x h]
        simp only
        rw[BJ hj]
      | _=>simp[D.get]at h
    have e4:els=row.els:=by
     simp only[dC]at hg
     simp only[mA]at tE
     cases hj:row.els[i]? with
     |none=>simp[hj]at hg
     |some y=>
      simp only[hj]at hg tE
      rw[e3 p y _ hg]at tE
      simp at tE
      rw[BJ hj]at tE
      exact tE.symm
    rw[e4]at hk
    have e2:rows.set r (some ⟨row.sh,row.els⟩)=rows:=BJ (Ph hl)
    rw[e2]at hk
    refine .here hs (UY _ _ hk) (hfg _ _ _ _) ?_
    rw[hrun _ _ _ rfl hx]
    cases ad<;>simp[storeCells]
   | sl _ _ _ _ _ _ L cap hL c1 c2 c3 =>
    have hr:=hs.bE.row r row L hl hL
    have hmp:=LR.Hu c3
    obtain⟨cur,t2,m1,m2,m3,m4⟩:=hr.cells hmp
    rcases c3 with⟨c3,_⟩|⟨m,c3,c4⟩
    ·simp at c3
    ·rw[Loc.yC hmp,hr.sh]at c3
     obtain⟨g5,g6,pre,post,g7,g8⟩:=w7 hr.els c3 hg
     obtain⟨rfl,_⟩:=pI g5
     obtain⟨l',nV,hlen,fJ⟩:=g5.jN rfl
     cases nV
     simp[Sh.count]at hlen
     have bQ:∀d∈ul,aL t' d:=by
      intro d hd
      obtain⟨q,hq,rfl⟩:=aa3.1 hd
      exact fJ q t' _ (by simp[Sh.sub];omega) (aap hq)
     have hNl:(src.take (min src.length len)).length=min src.length len:=by rw[aau];omega
     have Sk:∀d∈src.take (min src.length len),aL t' d:=λd hd=>gP d (aa1 hd)
     have hfit:off+(src.take (min src.length len)).length<=ul.length:=by omega
     obtain⟨f1,f2⟩:=BI (s:=t') hfit
     have jr:aL (.ar m t') (.agg (.ar m t') (bh ul off (src.take (min src.length len)))):=by
      refine .agg _ _ rfl (by rw[AK hfit];simpa[Sh.count]using hlen) λj e' d' hj j9=>?_
      simp only[Sh.sub]at hj
      split at hj
      ·cases hj;exact AJ bQ Sk d' (bN j9)
      ·cases hj
     obtain⟨z1,z2,z3,Pb,old,Pc,z4,z5,z6,z7⟩:=Fm hr.els c3 jr tE
     have hM:bd (LR ρ w T) (aA (src.take (min src.length len))) (oX.take (min src.length len*t'.size)):=by
      have h5:=hcs.take (min src.length len*t'.size)
      have h6:aA src=aA (src.take (min src.length len))++aA (src.drop (min src.length len)):=by rw[<-eh,aa5]
      have h7:(aA (src.take (min src.length len))).length=min src.length len*t'.size:=by rw[bj Sk,hNl]
      rw[h6,<-h7,aa0,h7]at h5
      exact h5
     have hA:(aA (ul.take off)).length=off*t'.size:=by
      rw[bj (λd hd=>bQ d (aa1 hd)),aau]
      congr 1
      omega
     have aaa:(aA (src.take (min src.length len))).length=(aA ((ul.drop off).take (src.take (min src.length len)).length)).length:=by
      rw[bj Sk,bj (λd hd=>bQ d (aca (aa1 hd)))]
      congr 1
      simp only[aau,aar]
      omega
     --the two ways to part the row are one
     have hpp:pre=Pb:=by
      have e1:(aA row.els).take pre.length=pre:=by rw[g7,aa0]
      have e2:(aA row.els).take Pb.length=Pb:=by rw[z4,aa0]
      have e3:pre.length=Pb.length:=by rw[g8,z6]
      rw[<-e1,<-e2,e3]
     subst hpp
     have hoo:old=(D.agg (.ar m t') ul).flat/\post=Pc:=by
      have e1:=g7.symm.trans z4
      have e2:=aes e1
      have e3:old.length=(D.agg (.ar m t') ul).flat.length:=by rw[z7,jr.len,g5.len]
      have e4:(D.agg (.ar m t') ul).flat++post=old++Pc:=e2
      have:=ad5 e4 e3.symm
      exact⟨this.1.symm,this.2⟩
     obtain⟨rfl,rfl⟩:=hoo
     have m5:=m4
     rw[g7]at m5
     simp only[D.flat]at m5 z5
     rw[f1]at m5
     have e1:pre++((aA (ul.take off)++(aA ((ul.drop off).take (src.take (min src.length len)).length)++aA (ul.drop (off+(src.take (min src.length len)).length))))++post)=
       (pre++aA (ul.take off))++(aA ((ul.drop off).take (src.take (min src.length len)).length)++(aA (ul.drop (off+(src.take (min src.length len)).length))++post)):=by simp
     rw[e1]at m5
     have HG:=m5.seg
     have hw:=m5.write rfl hM aaa
     have e2:(pre++aA (ul.take off))++(aA (src.take (min src.length len))++(aA (ul.drop (off+(src.take (min src.length len)).length))++post))=aA els:=by
      rw[z5,f2];simp
     rw[e2]at hw
     have hAA:(pre++aA (ul.take off)).length=L.off (i::p)+off*t'.size:=by
      rw[aao,hA,g8]
      simp[Loc.off,hr.sh]
     rw[hAA]at hw
     have jZ:=hM.len
     have hone:∀v∈oX.take (min src.length len*t'.size),v.oneCell'=true:=by
      intro v hv
      obtain⟨j,hj,rfl⟩:=aa3.1 hv
      exact(hM.at_ j _ _ (aap (by omega)) (aap hj)).one
     have Pj:L.off (i::p)+off*t'.size+0+(oX.take (min src.length len*t'.size)).length<=cur.size:=by
      have:=HG.2
      rw[hAA,<-aaa,jZ]at this
      simpa using this
     have hst:=gQ P L.b (L.off (i::p)+off*t'.size) t2 _ 0 cur w m1 Pj hone
     have HK:(aA els).length=(aA row.els).length:=by
      rw[bj z1,z2,bj hr.els]
     obtain⟨u1,u2⟩:=hs.write hl hL els cur (cur.toList.take (L.off (i::p)+off*t'.size+0)++oX.take (min src.length len*t'.size)++cur.toList.drop (L.off (i::p)+off*t'.size+0+(oX.take (min src.length len*t'.size)).length)).toArray t2 hmp m1
      (by simp only[ado,aao,aar,ab5];simp only[aau,ab5]at Pj⊢;omega)
      z1 (by rw[HK];exact m3) hw
     refine qp (UY _ _ hk) u1 u2 (hfg _ _ _ _) (λh=>by rw[hq]at h;cases h) ?_
     rw[hrun _ _ _ rfl hx]
     simp only[hst,Result.andThen_ok]
  ·exact k3.elim
 ·exact hk.elim
theorem UZ{c:Call}{x y:Operand}{x' y':X}{t u e:TypeId}{s:Sh}(ho:o.op= .call c)(hc:c.callee= .builtin .copy)(hargs:c.args.toList=[x,y])(AL:c.argTypes.toList=[t,u])(hu:P.underlying t=some (.slice e))
  (hsh:sh P e=some s)(h1:cX x=some x')(h2:cX y=some y')
  (h:dW C env rows (.copy s x' y') k):bO P n o ρ T env rows a w k:=by
 obtain⟨da,he,k1⟩:=au h
 obtain⟨db,w9,k2⟩:=au k1
 obtain⟨src,hn,hlb,hk⟩:=au k2
 clear k1 k2
 have Su:=bJ h1 he hs hG
 have hvb:=bJ h2 w9 hs hG
 obtain⟨oX,hsrc⟩:=Lo (P:=P) hs hvb hn hlb
 obtain⟨a0,a2,a3⟩:=Xb (a:=a) hargs AL
 refine HJ (g:=λm=> .raw (.int .i64 m)) (f:=λm=> .int .i64 m) hs Su hsrc.els hsrc.cs ?_ (by rw[ho];simp[gG,hc]) (λ_ _ _ _=>VR.raw rfl) (λ_ _ h=>h) hk
 ·intro ad len cap _ hx
  have hf:=hsrc.first w rfl (min src.length len) (Nat.min_le_left _ _)
  rw[hx]at a2
  rw[ik ho hc]
  have aab:Nat.min src.length len=min src.length len:=rfl
  cases ad<;>simp[builtin,Builtin.copy_,a0,a2,a3,run_underlying hu,hsrc.len,run_sizeOf hsh,aab,hf,goInt,vS]
theorem op_clr{c:Call}{x:Operand}{x':X}{t e:TypeId}{s:Sh}{z:D}(ho:o.op= .call c)(hc:c.callee= .builtin .clear)(hargs:c.args.toList=[x])(AL:c.argTypes.toList=[t])(hu:P.underlying t=some (.slice e))
  (hsh:sh P e=some s)(hz:zero P e=some z)(h1:cX x=some x')(h:dW C env rows (.clr s z x') k):bO P n o ρ T env rows a w k:=by
 obtain⟨da,he,k1⟩:=au h
 obtain⟨m,hm,hk⟩:=au k1
 have Su:=bJ h1 he hs hG
 obtain⟨g1,v,g2,g3,g4⟩:=lJ hsh hz
 have Z9:bd (LR ρ w T) (aA (List.replicate m z)) (Builtin.zeroCells v.cells m).toList:=by
  have:=u7 (w:=w) (ρ:=ρ) (T:=T) g1 g3 (g4 ρ w T) m
  simpa[Builtin.zeroCells,g3]using this
 refine HJ (g:=λ_=> .cA []) (f:=λ_=> .tuple #[]) hs Su (λd hd=>(abG hd)▸g1) Z9 ?_ (by rw[ho];simp[gG,hc]) (λ_ _ _ _=>⟨#[],rfl,.nil⟩) (λ_ _ h=>h) hk
 intro ad len cap hl hx
 have e0:m=len:=abg (hm.symm.trans hl)
 subst e0
 have hlen:(Builtin.zeroCells v.cells m).toList.length=m*s.size:=by simp[Builtin.zeroCells,g3]
 have a0:c.argTypes[0]?=some t:=by rw[<-adm,AL];rfl
 have a2:(c.args.map a.eval)[0]?=some (.slice ad m cap):=by rw[Array.getElem?_map,<-adm,hargs,<-hx];rfl
 have e2:(Builtin.zeroCells v.cells m).toList.take (min (List.replicate m z).length m*s.size)=(Builtin.zeroCells v.cells m).toList:=by
  rw[aaS,Nat.min_self,<-hlen,aaV]
 have e3:m=0->(Builtin.zeroCells v.cells m).toList=[]:=λh=>by subst h;simp[Builtin.zeroCells]
 rw[ik ho hc,e2]
 rcases ad with _|q
 ·simp[builtin,Builtin.clear_,a0,a2,run_underlying hu]
 ·rcases m with _|m
  ·simp[builtin,Builtin.clear_,a0,a2,run_underlying hu,e3,storeCells]
  ·simp[builtin,Builtin.clear_,a0,a2,run_underlying hu,g2,vS]
end ops
end Go.Am
namespace Go.Am
variable {C:bf} {P:Program} {n:Nat} {ρ:Pl} {T:Nat->Prop} {env:Env} {rows:Rows} {a:Act} {w:World}
theorem uc(hs:eQ n ρ T env rows a w)(hG:tZ C ρ w T):∀{l:List Operand} {l':List X} {ds:List D},ZG l=some l'->OQ C env l'=some ds->bd (VR ρ w T) ds (l.map a.eval)
 |[],l',ds,h1,h2=>by
  simp[ZG]at h1;subst h1
  simp[OQ]at h2;subst h2
  exact .nil
 | x :: l, l', ds, h1, h2 => by
  simp only[ZG]at h1
  split at h1
  ·rename_i y hy
   split at h1
   ·rename_i r hr
    cases h1
    simp only[OQ]at h2
    split at h2
    ·rename_i d hd
     split at h2
     ·rename_i ds' hds
      cases h2
      exact .cons (bJ hy hd hs hG) (uc hs hG hr hds)
     ·cases h2
    ·cases h2
   ·cases h1
  ·cases h1
theorem BK {mx : Bool} {kd : IntKind} : ∀ {l : List D} {x m : Int} {vs : List Value}, oE mx kd x l = some m -> bd (VR ρ w T) l vs ->
  (vs.foldlM (if mx then Builtin.max2 else Builtin.min2) (.int kd x)).run P w= .ok (.int kd m) w
 |[],x,m,vs,h,hv=>by
  have:vs=[]:=aaF hv.len.symm
  subst this
  simp[oE]at h
  subst h
  simp
 | d :: l, x, m, vs, h, hv => by
  cases vs with
  |nil=>have:=hv.len;simp at this
  | cons v vs =>
   cases d with
   | raw q =>
    cases q with
    | int k' y =>
     simp only[oE]at h
     cases hb:(kd==k')with
     |false=>rw[hb]at h;simp at h
     | true =>
      rw[hb]at h
      simp only[aaU]at h
      have hk:kd=k':=by simpa using hb
      subst hk
      have hv0:=VR.ofRaw hv.head
      subst hv0
      have ih:=BK (vs:=vs) h hv.tail
      cases mx with
      | true =>
       simp only[abX,aaU]at ih h⊢
       have e:(if x<y then y else x)=max x y:=by
        rw[Int.max_def];split<;>split<;>omega
       simp[List.foldlM_cons,Builtin.max2,e,ih]
      | false =>
       simp only[adg,abW,aaM]at ih h⊢
       have e:(if y<x then y else x)=min x y:=by
        rw[Int.min_def];split<;>split<;>omega
       simp[List.foldlM_cons,Builtin.min2,e,ih]
    | _=>simp[oE]at h
   | _=>simp[oE]at h
theorem M7{d:D}{u:UInt8}(h:toByte d=some u):∃i,d= .raw (.int .u8 i)/\u=UInt8.ofNat i.toNat:=by
 unfold toByte at h
 split at h
 ·rename_i i;exact⟨i,rfl,by simpa using h.symm⟩
 ·cases h
theorem Lq:∀{l:List D} {bs:List UInt8} {cs:List Value},dU toByte l=some bs->bd (LR ρ w T) (aA l) cs->∃ns:List Int,cs=ns.map (Value.int .u8)/\bs=ns.map (λi=>UInt8.ofNat i.toNat)/\l.length=ns.length
 |[],bs,cs,h,hc=>by
  simp[dU]at h;subst h
  have:cs=[]:=aaF (by simpa[aA]using hc.len.symm)
  subst this
  exact⟨[],rfl,rfl,rfl⟩
 | d :: l, bs, cs, h, hc => by
  simp only[dU]at h
  split at h
  ·rename_i u hu
   split at h
   ·rename_i us hus
    cases h
    obtain⟨i,rfl,rfl⟩:=M7 hu
    simp only[aA,D.flat,List.singleton_append]at hc
    cases cs with
    |nil=>have:=hc.len;simp at this
    |cons c cs=>
     have hv:=VR.ofRaw (VR.bH hc.head)
     obtain⟨ns,rfl,rfl,h3⟩:=Lq hus hc.tail
     subst hv
     exact⟨i::ns,rfl,rfl,by simp[h3]⟩
   ·cases h
  ·cases h
theorem foldl_push(ns:List Int):∀(acc:ByteArray),ns.foldl (λr i=>r.push (UInt8.ofNat i.toNat)) acc=⟨acc.data++(ns.map λi=>UInt8.ofNat i.toNat).toArray⟩:=by
 induction ns with
 |nil=>intro acc;simp
 |cons i ns ih=>
  intro acc
  simp only[adj,ih]
  congr 1
  apply acb
  simp[ByteArray.push]
theorem nB{k:Sc}{x:D}(h:aL (.leaf k) x):∃v,x= .raw v/\oD v k=true:=by
 cases h with
 |leaf _ v hv=>exact⟨v,rfl,hv⟩
 |agg _ _ h _ _=>simp[Sh.isAgg]at h
theorem vj{x y:D}{b:Bool}{vx vy:Value}{t:TypeId}{s:Sh}(h:y6 x y=some b)(hx:LR ρ w T x vx)(hy:LR ρ w T y vy)(hsx:aL s x)
  (ht:(∃k,P.underlying t=some (.int k)/\s= .leaf (.int k))\/(P.underlying t=some .bool/\s= .leaf .bool)\/(P.underlying t=some .string/\s= .leaf .str))(d:Nat):
  (Op.equalIn (d+1) t vx vy).run P w= .ok b w:=by
 rcases ht with⟨k,ht,rfl⟩|⟨ht,rfl⟩|⟨ht,rfl⟩
 ·obtain⟨v,rfl,hv⟩:=nB hsx
  have e1:=VR.ofRaw (VR.bH hx)
  cases v with
  | int k1 i =>
   cases y with
   | raw q =>
    have e2:=VR.ofRaw (VR.bH hy)
    cases q with
    | int k2 j =>
     simp only[y6,jF]at h
     split at h
     ·rename_i hk
      subst hk
      cases h
      rw[e1,e2,run_equalIn_int w d t _ _ _ _ ht]
      rfl
     ·cases h
    | _=>simp[y6,jF]at h
   | _=>simp[y6,jF]at h
  | _=>simp[oD]at hv
 ·obtain⟨v,rfl,hv⟩:=nB hsx
  have e1:=VR.ofRaw (VR.bH hx)
  cases v with
  | bool i =>
   cases y with
   | raw q =>
    have e2:=VR.ofRaw (VR.bH hy)
    cases q with
    |bool j=>
     simp only[y6,jF]at h
     cases h
     rw[e1,e2,run_equalIn_bool' w d t _ _ ht]
    | _=>simp[y6,jF]at h
   | _=>simp[y6,jF]at h
  | _=>simp[oD]at hv
 ·obtain⟨v,rfl,hv⟩:=nB hsx
  have e1:=VR.ofRaw (VR.bH hx)
  cases v with
  | string i =>
   cases y with
   | raw q =>
    have e2:=VR.ofRaw (VR.bH hy)
    cases q with
    |string j=>
     simp only[y6,jF]at h
     cases h
     rw[e1,e2,run_equalIn_string w d t _ _ ht]
    | _=>simp[y6,jF]at h
   | _=>simp[y6,jF]at h
  | _=>simp[oD]at hv
theorem HM{s e:Sh}{l:List D}{cs:Array Value}{i:Nat}{d:D}{t:TypeId}(hsh:aL s (.agg s l))(hc:bd (LR ρ w T) (aA l) cs.toList)(he:s.sub i=some e)(hd:l[i]?=some d)(ht:sh P t=some e)(hl:mC P t e=true):
  ∃v,(part t cs (s.lH i)).run P w= .ok v w/\VR ρ w T d v/\aL e d:=by
 obtain⟨_,ha⟩:=pI hsh
 obtain⟨d',j9,n9,oG⟩:=hsh.part ha he
 rw[hd]at j9
 cases j9
 rw[fW hd]at hc
 have g3:=(hc.drop (aA (List.take i l)).length).take d.flat.length
 rw[abe,aa0,oG]at g3
 have hlen:=g3.len
 exact⟨_,HB (w:=w) (o':=s.lH i) (ms:=(cs.toList.drop (s.lH i)).take d.flat.length) ht hl (by rw[<-hlen,n9.len]) (qQ n9 g3) (by rw[<-hlen]),VR.gX n9 g3,n9⟩
theorem Pk{l l':List D}{b:Bool}{i:Nat}(h:yz (l.drop i) (l'.drop i)=some b)(hi:i<l.length):∃x y t u,l[i]?=some x/\l'[i]?=some y/\y6 x y=some t/\yz (l.drop (i+1)) (l'.drop (i+1))=some u/\b=(t&&u):=by
 rw[abD hi]at h
 cases hd:l'.drop i with
 |nil=>rw[hd]at h;simp[yz]at h
 | cons y r =>
  rw[hd]at h
  simp only[yz]at h
  split at h
  ·rename_i t ht
   split at h
   ·rename_i u hu
    have hy:l'[i]?=some y:=by
     have:=abB (λq=>q[0]?) hd
     simpa using this
    have hr:l'.drop (i+1)=r:=by
     have:=abB List.tail hd
     simpa using this
    exact⟨l[i],y,t,u,aap hi,hy,ht,by rw[hr];exact hu,by simpa using h.symm⟩
   ·cases h
  ·cases h
theorem yH:∀(n:Nat) {t:TypeId} {s:Sh} {x y:D} {vx vy:Value} {b:Bool} (d:Nat),D5 P n t s=true->aL s x->aL s y->VR ρ w T x vx->VR ρ w T y vy->y6 x y=some b->
  (Op.equalIn (d+n) t vx vy).run P w= .ok b w
 |0,t,s,x,y,vx,vy,b,d,h,_,_,_,_,_=>by simp[D5]at h
 | n + 1, t, s, x, y, vx, vy, b, d, h, hx, hy, U2, hvy, he => by
  simp only[D5]at h
  split at h
  ·rename_i fs hu
   simp only[aan,acs,acL]at h
   obtain⟨⟨⟨h1,h2⟩,h3⟩,h4⟩:=h
   obtain⟨l,rfl,hl,_⟩:=hx.jN h2
   obtain⟨l',rfl,nV,_⟩:=hy.jN h2
   obtain⟨cs,rfl,_,hcs⟩:=U2
   obtain⟨cs',rfl,_,hcs'⟩:=hvy
   have hfo:P.fieldsOf t=fs:=by simp[Program.fieldsOf,hu]
   rw[show d+(n+1)=(d+n)+1 from rfl,run_equalIn_struct w (d+n) t cs cs' (by rw[hfo];exact hu) h1,hfo]
   simp only[y6]at he
   have key:∀(gs:List Field) (i:Nat) (b:Bool),i+gs.length=s.count->Sf P (D5 P n) s i gs=true->yz (l.drop i) (l'.drop i)=some b->(Op.eqFields (d+n) cs cs' gs).run P w= .ok b w:=by
    intro gs
    induction gs with
    |nil=>
     intro i b hi _ hb
     simp at hi
     rw[acR (by omega),acR (by omega)]at hb
     simp[yz]at hb
     subst hb
     simp[Op.eqFields]
    | cons f gs ih =>
     intro i b hi hf hb
     simp only[Sf,aan]at hf
     obtain⟨⟨⟨f1,f2⟩,f3⟩,f4⟩:=hf
     simp only[aaP]at hi
     obtain⟨x0,y0,t0,u0,g1,g2,g3,g4,g5⟩:=Pk hb (by omega)
     split at f3
     ·rename_i e fJ
      simp only[aan,acs]at f3
      obtain⟨⟨f5,f6⟩,f7⟩:=f3
      obtain⟨va,r1,r2,r3⟩:=HM hx hcs fJ g1 f5 f6
      obtain⟨vb,r4,r5,r6⟩:=HM hy hcs' fJ g2 f5 f6
      have r7:=yH n d f7 r3 r6 r2 r5 g3
      have f1':f.name≠ "_" :=by simpa using f1
      have f2':f.offset=s.lH i:=by simpa using f2
      simp only[Op.eqFields]
      rw[aaI f1']
      simp only[f2',Sem.run_bind,r1,r4,r7,Result.andThen_ok]
      cases t0 with
      |false=>simp[g5]
      |true=>simp[ih (i+1) u0 (by omega) f4 g4,g5]
     ·cases f3
   exact key fs.toList 0 b (by simpa using h3) h4 he
  ·rename_i m e hu
   split at h
   ·rename_i m' se
    simp only[aan,acs]at h
    obtain⟨⟨⟨rfl,h2⟩,h3⟩,h4⟩:=h
    obtain⟨l,rfl,hl,_⟩:=hx.jN rfl
    obtain⟨l',rfl,nV,_⟩:=hy.jN rfl
    obtain⟨cs,rfl,_,hcs⟩:=U2
    obtain⟨cs',rfl,_,hcs'⟩:=hvy
    obtain⟨inf,hi,hsz⟩:=yE h2
    have hco:P.cellsOf e=se.size:=by simp[Program.cellsOf,hi,hsz]
    rw[show d+(n+1)=(d+n)+1 from rfl,run_equalIn_array w (d+n) cs cs' hu hi,hco]
    simp only[y6]at he
    simp[Sh.count]at hl nV
    have key:∀(k i:Nat) (b:Bool),i+k=m->yz (l.drop i) (l'.drop i)=some b->(Op.eqItems (d+n) e se.size cs cs' (List.range' i k)).run P w= .ok b w:=by
     intro k
     induction k with
     |zero=>
      intro i b hi hb
      rw[acR (by omega),acR (by omega)]at hb
      simp[yz]at hb
      subst hb
      simp[Op.eqItems]
     |succ k ih=>
      intro i b hi hb
      obtain⟨x0,y0,t0,u0,g1,g2,g3,g4,g5⟩:=Pk hb (by omega)
      have fJ:(Sh.ar m se).sub i=some se:=by simp[Sh.sub];omega
      obtain⟨va,r1,r2,r3⟩:=HM hx hcs fJ g1 h2 h3
      obtain⟨vb,r4,r5,r6⟩:=HM hy hcs' fJ g2 h2 h3
      have r7:=yH n d h4 r3 r6 r2 r5 g3
      have e1:(Sh.ar m se).lH i=i*se.size:=rfl
      rw[e1]at r1 r4
      rw[aet]
      simp only[Op.eqItems,Sem.run_bind,r1,r4,r7,Result.andThen_ok]
      cases t0 with
      |false=>simp[g5]
      |true=>simp[ih (i+1) u0 (by omega) g4,g5]
    rw[ad4]
    exact key m 0 b (by omega) he
   ·cases h
  ·rename_i k hu
   have hk:s= .leaf (.int k):=by simpa using h
   exact vj he (U2.BE (hx.qM (by rw[hk];rfl))) (hvy.BE (hy.qM (by rw[hk];rfl))) hx (.inl ⟨k,hu,hk⟩) (d+n)
  ·rename_i hu
   have hk:s= .leaf .bool:=by simpa using h
   exact vj he (U2.BE (hx.qM (by rw[hk];rfl))) (hvy.BE (hy.qM (by rw[hk];rfl))) hx (.inr (.inl ⟨hu,hk⟩)) (d+n)
  ·rename_i hu
   have hk:s= .leaf .str:=by simpa using h
   exact vj he (U2.BE (hx.qM (by rw[hk];rfl))) (hvy.BE (hy.qM (by rw[hk];rfl))) hx (.inr (.inr ⟨hu,hk⟩)) (d+n)
  ·cases h
theorem BL:∀(m t:Nat) (acc:Array Value),∃l:List (BitVec 8),(Extern.BytealgMakeNoZero.digits m t acc).toList=acc.toList++l.map (λb=>Value.int .u8 (b.toNat:Int))/\l.length=m
 |0,_,acc=>⟨[],by simp[Extern.BytealgMakeNoZero.digits],rfl⟩
 |m+1,t,acc=>by
  obtain⟨l,h1,h2⟩:=BL m (t/256) (acc.push (.int .u8 (Int.ofNat (t %256))))
  refine⟨BitVec.ofNat 8 t::l,?_,by simp[h2]⟩
  rw[Extern.BytealgMakeNoZero.digits,h1]
  simp
theorem run_mnz{t e:TypeId}(ht:P.underlying t=some (.slice e))(ps:Array TypeId)(m:Nat)(hm:m<=most)(w:World):
  ∃(cs:Array Value) (l:List (BitVec 8)),(Extern.BytealgMakeNoZero.makeNoZero ps #[t] #[.int .i64 m]).run P w= .ok (.slice (some ⟨w.heap.size,0,none⟩) m cs.size) (w.drew.drew.alloc (.cells cs e))/\m<=cs.size/\cs.toList=l.map λb=>Value.int .u8 (b.toNat:Int):=by
 have e0:∃(q:Question) (s1 s2:String),q.forced=false/\Extern.BytealgMakeNoZero.makeNoZero ps #[t] #[.int .i64 m]=(do
   let .slice el<-underlying t|stuck s1
   if(m:Int)<0||(m:Int)>2^48 then runtimePanic (.error s2)
   let c<-choose (.appendCap (m:Int).toNat 0 el)
   askRoom c
   let bytes<-choose q
   let ad<-newRow el (Extern.BytealgMakeNoZero.digits c bytes #[])
   pure (.slice (some ad) (m:Int).toNat c)):=by
  refine⟨_,_,_,?_,rfl⟩
  rfl
 obtain⟨q,s1,s2,hq,e0⟩:=e0
 obtain⟨l,h1,h2⟩:=BL (grownCap w m 0 e) (q.cut (w.tape (w.drawn+1) q)) #[]
 have hsz:(Extern.BytealgMakeNoZero.digits (grownCap w m 0 e) (q.cut (w.tape (w.drawn+1) q)) #[]).size=grownCap w m 0 e:=by
  rw[<-ab5,h1];simpa using h2
 refine⟨_,l,?_,?_,by simpa using h1⟩
 ·have g1:¬(m:Int)<0:=by omega
  have g2:¬(281474976710656:Int)<(m:Int):=by rw[nA]at hm;omega
  rw[hsz,e0]
  have f1:∀a b c,(Question.appendCap a b c).forced=false:=λ_ _ _=>rfl
  simp[run_underlying ht,g1,g2,f1,hq,newRow,grownCap]
 ·rw[hsz]
  simpa using grownCap_ge w m 0 e
theorem aac{fn:Func}(h:yA fn.name=true):Extern.find fn=some (Extern.BytealgMakeNoZero.makeNoZero fn.params fn.resultTypes):=by
 obtain⟨⟩:=fn
 simp[yA,Extern.BytealgMakeNoZero.typedRows]at h
 subst h
 kernel_rfl
theorem BM{fn:Func}(h:yA fn.name=true)(h2:fn.origin= ""):Extern.findNext fn=none/\(fn.name== "runtime.NumGoroutine")=false:=by
 obtain⟨⟩:=fn
 simp[yA,Extern.BytealgMakeNoZero.typedRows]at h
 simp only at h2
 subst h
 subst h2
 exact⟨by kernel_rfl,by simp⟩
theorem run_idx{fn:Func}{f:FuncId}(hf:P.funcs[f]?=some fn)(hb:fn.body.isSome=false)(h:fn.name=BD)(h2:fn.origin= "")(b:ByteArray)(c:Int)(w:World):
  (callFunc f #[.string b,.int .u8 c]).run P w= .ok (.value (.int .i64 (WW c b))) w:=by
 have HF:fn.body.isNone=true:=by cases hq:fn.body<;>simp_all
 have e1:Extern.find fn=some Extern.BytealgIndexByte.indexByte:=by
  obtain⟨⟩:=fn;simp only at h h2;subst h;subst h2;kernel_rfl
 have e2:Extern.findNext fn=none/\(fn.name== "runtime.NumGoroutine")=false:=by
  obtain⟨⟩:=fn;simp only at h h2;subst h;subst h2;exact⟨by kernel_rfl,by simp[BD,Extern.BytealgIndexByte.rows]⟩
 have e3:Extern.BytealgIndexByte.indexByte #[.string b,.int .u8 c]=(match(List.range b.size).find? λi=>b[i]! ==c.toNat.toUInt8 with
  |some i=>pure (goInt i)
  |none=>pure (goInt (-1))):=rfl
 rw[run_callFunc_extern hf e2.2 HF e2.1 e1,e3]
 unfold WW
 generalize (List.range b.size).find? _=o
 cases o<;>simp[goInt]
section ops
variable (hs:eQ n ρ T env rows a w) (hG:tZ C ρ w T) {o:Oper} {k:D->Rows->Prop}
include hs hG
theorem M8{neg:Bool}{op:BinOp}{t u:TypeId}{s:Sh}{x y:Operand}{x' y':X}(ho:o.op= .binOp op t x y u)(hop:op=bif neg then .neq else .eql)(hsh:sh P t=some s)(hok:D5 P 40 t s=true)(hg:P.eqGuardType P.depth t=false)
  (h1:cX x=some x')(h2:cX y=some y')(h:dW C env rows (.eqa s neg x' y') k):bO P n o ρ T env rows a w k:=by
 obtain⟨d,he,k1⟩:=au h
 have U2:=bJ h1 he hs hG
 split at k1
 ·rename_i s1 l
  obtain⟨d2,w9,k2⟩:=au k1
  clear k1
  have hvy:=bJ h2 w9 hs hG
  split at k2
  ·rename_i s2 l'
   obtain⟨rfl,rfl,k3⟩:=k2
   obtain⟨b,hb,hk⟩:=au k3
   clear k3
   obtain⟨cs,hx,g1,g2⟩:=id U2
   obtain⟨cs',hy,g3,g4⟩:=id hvy
   refine .here hs hk (VR.raw rfl) ?_
   have hq:=yH (P:=P) (w:=w) 40 9960 hok g1 g3 U2 hvy (show y6 (.agg _ l) (.agg _ l')=some b from hb)
   rw[hx,hy]at hq
   have hgd:=λq=>run_eqGuard_agg (P:=P) w q t x y cs cs' hg
   cases neg with
   |false=>
    simp at hop
    subst hop
    simp only[execOp,ho,hx,hy,Sem.run_bind,hgd,Result.andThen_ok,run_eql_struct]
    rw[show(10000:Nat)=9960+40 from rfl,hq]
    simp
   |true=>
    simp at hop
    subst hop
    simp only[execOp,ho,hx,hy,Sem.run_bind,hgd,Result.andThen_ok,run_neq_struct]
    rw[show(10000:Nat)=9960+40 from rfl,hq]
    simp
  ·exact k2.elim
 ·exact k1.elim
theorem Xc{t:TypeId}{x:Operand}{lo hi:Option Operand}{x':X}{lo' hi':Option X}(ho:o.op= .slice t x lo hi none)(hu:P.underlying t=some .string)
  (h1:cX x=some x')(h2:O2 lo=some lo')(h3:O2 hi=some hi')(h:dW C env rows (.D0 x' lo' hi') k):bO P n o ρ T env rows a w k:=by
 obtain⟨d,he,k1⟩:=au h
 split at k1
 ·rename_i b
  obtain⟨l,hl,k2⟩:=au k1
  obtain⟨hh,Zi,k3⟩:=au k2
  obtain⟨b1,b2,b3,b4,hk⟩:=k3
  clear k1 k2
  have hx:=fb h1 he hs hG
  refine .here hs hk (VR.raw rfl) ?_
  have:=pK (P:=P) (isSlice:=false) (len:=b.size) (cap:=b.size) (mx:=none) (m:=none) (L:=(l.getD 0).toNat) (H:=(hh.getD b.size).toNat) (M:=b.size)
   (mO h2 hl hs hG) (mO h3 Zi hs hG) (.inl ⟨rfl,rfl⟩) (by simp) (by omega) (by omega) rfl (by omega) (by omega) (by omega) w
  simp[execOp,ho,hx,Instr.sliceAt,Instr.slice,run_underlying hu,this]
 ·exact k1.elim
theorem Lr{c:Call}{mx:Bool}{l':List X}(ho:o.op= .call c)(hc:c.callee= .builtin (bif mx then .max else .min))(h1:ZG c.args.toList=some l')(h:dW C env rows (.wU mx l') k):bO P n o ρ T env rows a w k:=by
 obtain⟨ds,he,k1⟩:=au h
 obtain⟨⟨kd,m⟩,hm,hk⟩:=au k1
 clear k1
 have bQ:=uc hs hG h1 he
 unfold By at hm
 split at hm
 ·rename_i k0 i0 l
  split at hm
  ·rename_i m' hf
   cases hm
   refine .here hs hk (VR.raw rfl) ?_
   rw[ik ho hc]
   cases hv:c.args.toList.map a.eval with
   |nil=>rw[hv]at bQ;have:=bQ.len;simp at this
   |cons v vs=>
    rw[hv]at bQ
    have e1:=VR.ofRaw bQ.head
    subst e1
    have hr:=BK (P:=P) hf bQ.tail
    cases mx with
    |true=>simp only[abX]at hr;simp[builtin,Builtin.max_,hv,hr]
    |false=>simp only[adg,abW]at hr;simp[builtin,Builtin.min_,hv,hr]
  ·cases hm
 ·cases hm
theorem op_b2s{s t e:TypeId}{x:Operand}{x':X}(ho:o.op= .convert s t x)(hsrc:P.underlying s=some (.slice e))(he':P.underlying e=some (.int .u8))(ht:P.underlying t=some .string)(h1:cX x=some x')
  (h:dW C env rows (.WV x') k):bO P n o ρ T env rows a w k:=by
 obtain⟨d,he,k1⟩:=au h
 obtain⟨Kx,k2⟩:=k1
 obtain⟨l,hl,k3⟩:=au k2
 obtain⟨N,hN,hlen,k4⟩:=au k3
 obtain⟨bs,RO,hk⟩:=au k4
 clear k2 k3 k4
 have hv:=(bJ h1 he hs hG).BE (vi hl)
 obtain⟨ad,cap,cs,hH⟩:=hs.bE.holds hv hl hN hlen Kx
 obtain⟨ns,rfl,rfl,Sr⟩:=Lq RO hH.hcs
 refine .here hs hk (VR.raw rfl) ?_
 have hx:=hH.hv
 cases Zh:ad with
 |none=>
  have h0:=hH.nil Zh
  have hc0:=hH.hcap
  have:ns=[]:=aaF (by omega)
  subst this
  simp only[execOp,ho,hx,Zh,Sem.run_bind,run_convert_bytes_string w s t e _ _ _ hsrc he' ht]
  simp[Conv.bytesToString]
  rfl
 |some q=>
  have hf:=hH.first (P:=P) (w':=w) rfl N (aaz _)
  rw[<-hH.HA,aaV,hx,Zh]at hf
  simp only[Builtin.firstCells,Sh.size,Nat.mul_one]at hf
  simp only[execOp,ho,hx,Zh,Sem.run_bind,run_convert_bytes_string w s t e _ _ _ hsrc he' ht,run_bytesToString w q N cap ns hf,Result.andThen_ok]
  rw[foldl_push]
  simp
theorem op_s2b{s t e:TypeId}{x:Operand}{x':X}(ho:o.op= .convert s t x)(hsrc:P.underlying s=some .string)(ht:P.underlying t=some (.slice e))(he':P.underlying e=some (.int .u8))(h1:cX x=some x')
  (h:dW C env rows (.s2b x') k):bO P n o ρ T env rows a w k:=by
 obtain⟨d,he,k1⟩:=au h
 split at k1
 ·rename_i b
  have hx:=fb h1 he hs hG
  have hb:(Lib.bytesWorld w e b).heap=w.heap.push (.cells (Lib.bytesCells w e b) e ((Lib.bytesCells w e b).size,(Lib.bytesCells w e b).size+1)):=by
   apply Array.ext_getElem?
   intro i
   rw[ac8]
   split
   ·rename_i h;rw[h];exact Lib.bytesWorld_at_new w e b
   ·rename_i h
    rcases adO i w.heap.size with h2|h2|h2
    ·exact Lib.bytesWorld_at_old w e b i h2
    ·exact absurd h2 h
    ·rw[acA (by rw[Lib.bytesWorld_size];omega),acA (by omega)]
  obtain⟨g1,g2⟩:=hs.grow (w':=Lib.bytesWorld w e b) _ hb rfl rfl rfl
  obtain⟨q1,q2⟩:=Fu (ρ:=ρ) (w:=Lib.bytesWorld w e b) (T:=λq=>T q\/q=w.heap.size) b
  have hl:(ofBytes b).length=b.size:=by simp[ofBytes]
  refine qp (v:= .slice (some ⟨w.heap.size,0,none⟩) b.size (grownCap w b.size 0 e)) k1 g1 g2 ?_ (λ_=>⟨λb' HF=> .inl (Lib.bytesWorld_at_old w e b b' HF),λq hq=>hq.imp_right (λe=>by omega)⟩) ?_
  ·have:=LR.Pa (ρ:=ρ) (w:=Lib.bytesWorld w e b) (T:=λq=>T q\/q=w.heap.size) (b:=w.heap.size) (o:=0) (cap:=grownCap w b.size 0 e) (ex:=false) q1 (.inr rfl) q2 (λj x hx=>?_) (by rw[hl];exact grownCap_ge w b.size 0 e) (by simp)
   ·rw[hl]at this;exact VR.bH this
   ·have hj:=dA hx
    simp at hj
    rw[abE,Lib.bytesWorld_cell w e b j hj]
    simp only[abu]at hx
    rw[<-hx]
    simp[List.getD,hj]
  ·simp only[execOp,ho,hx,Sem.run_bind,Lib.run_convert_string_bytes w s t e b hsrc ht he',Result.andThen_ok]
   rfl
 ·exact k1.elim
theorem Pm{neg:Bool}{op:BinOp}{t u e:TypeId}{x y:Operand}{x' y':X}(ho:o.op= .binOp op t x y u)(hop:op=bif neg then .neq else .eql)(ht:P.underlying t=some (.pointer e))(h1:cX x=some x')(h2:cX y=some y')
  (h:dW C env rows (.wV neg x' y') k):bO P n o ρ T env rows a w k:=by
 obtain⟨dx,he,hk⟩:=au h
 obtain⟨dy,w9,hk⟩:=au hk
 have U2:=bJ h1 he hs hG
 split at hk
 ·have hy:=fb h2 w9 hs hG
  have e0:Op.maxDepth=9999+1:=rfl
  have hsome:∀ad,(Op.equal t (.pointer (some ad)) (.pointer none)).run P w= .ok false w:=by
   intro ad
   rw[Op.equal,e0,Op.equalIn]
   simp only[Sem.run_bind,run_underlying ht,Result.andThen_ok,Sem.run_pure]
  have hnone:(Op.equal t (.pointer none) (.pointer none)).run P w= .ok true w:=by
   rw[Op.equal,e0,Op.equalIn]
   simp only[Sem.run_bind,run_underlying ht,Result.andThen_ok,Sem.run_pure]
   rfl
  have fin:∀ad,a.eval x= .pointer (some ad)->k (.raw (.bool neg)) rows->bO P n o ρ T env rows a w k:=by
   intro ad hx hk
   refine .here hs hk (VR.raw rfl) ?_
   cases neg<;>simp at hop<;>subst hop<;>simp only[execOp,ho,hx,hy,binOp]<;>simp[eqGuard,hsome]
  split at hk
  ·have hx:=fb h1 he hs hG
   refine .here hs hk (VR.raw rfl) ?_
   cases neg<;>simp at hop<;>subst hop<;>simp only[execOp,ho,hx,hy,binOp]<;>simp[eqGuard,hnone]
  ·have mN:LR ρ w T _ _:=U2
   generalize hx:a.eval x=v at mN
   cases mN with
   |ptr=>exact fin _ hx hk
  ·have mN:LR ρ w T _ _:=U2
   generalize hx:a.eval x=v at mN
   cases mN with
   |cd=>exact fin _ hx hk
  ·exact hk.elim
 ·exact hk.elim
theorem U5{neg:Bool}{op:BinOp}{t u e:TypeId}{x y:Operand}{x' y':X}(ho:o.op= .binOp op t x y u)(hop:op=bif neg then .neq else .eql)(ht:P.underlying t=some (.slice e))(h1:cX x=some x')(h2:cX y=some y')
  (h:dW C env rows (.O0 neg x' y') k):bO P n o ρ T env rows a w k:=by
 obtain⟨dx,he,hk⟩:=au h
 obtain⟨dy,w9,hk⟩:=au hk
 have U2:=bJ h1 he hs hG
 split at hk
 ·have hy:=fb h2 w9 hs hG
  have e0:Op.maxDepth=9999+1:=rfl
  have hsome:∀ad len cap,(Op.equal t (.slice (some ad) len cap) (.slice none 0 0)).run P w= .ok false w:=by
   intro ad len cap
   rw[Op.equal,e0,Op.equalIn]
   simp only[Sem.run_bind,run_underlying ht,Result.andThen_ok,Sem.run_pure]
  have hnone:∀len cap,(Op.equal t (.slice none len cap) (.slice none 0 0)).run P w= .ok true w:=by
   intro len cap
   rw[Op.equal,e0,Op.equalIn]
   simp only[Sem.run_bind,run_underlying ht,Result.andThen_ok,Sem.run_pure]
   rfl
  have fin1:∀ad len cap,a.eval x= .slice (some ad) len cap->k (.raw (.bool neg)) rows->bO P n o ρ T env rows a w k:=by
   intro ad len cap hx hk
   refine .here hs hk (VR.raw rfl) ?_
   cases neg<;>simp at hop<;>subst hop<;>simp only[execOp,ho,hx,hy,binOp]<;>simp[eqGuard,hsome]
  have fin0:∀len cap,a.eval x= .slice none len cap->k (.raw (.bool (!neg))) rows->bO P n o ρ T env rows a w k:=by
   intro len cap hx hk
   refine .here hs hk (VR.raw rfl) ?_
   cases neg<;>simp at hop<;>subst hop<;>simp only[execOp,ho,hx,hy,binOp]<;>simp[eqGuard,hnone]
  split at hk
  ·exact fin0 0 0 (fb h1 he hs hG) hk
  ·have mN:LR ρ w T _ _:=U2
   generalize hx:a.eval x=v at mN
   cases mN with
   |qj _ _ ad cap=>
    cases ad with
    |none=>exact fin0 _ _ hx (hk.1 rfl)
    |some ad=>exact fin1 _ _ _ hx hk.2
   |cI=>exact fin1 _ _ _ hx hk.2
  ·have mN:LR ρ w T _ _:=U2
   generalize hx:a.eval x=v at mN
   cases mN with
   |Bw _ _ _ _ _ ad=>
    cases ad with
    |none=>exact fin0 _ _ hx (hk.1 rfl)
    |some ad=>exact fin1 _ _ _ hx hk.2
   |sl=>exact fin1 _ _ _ hx hk.2
  ·exact hk.elim
 ·exact hk.elim
theorem op_mnz{c:Call}{f:FuncId}{fn:Func}{x:Operand}{x':X}{t e:TypeId}(ho:o.op= .call c)(hc:c.callee= .value (.func f))(hf:P.funcs[f]?=some fn)(hb:fn.body.isSome=false)
  (hn:yA fn.name=true)(hn2:fn.origin= "")(ha:c.args.toList=[x])(hr:fn.resultTypes.toList=[t])(ht:P.underlying t=some (.slice e))(hsh:sh P e=some (.leaf tU))(h1:cX x=some x')
  (h:dW C env rows (.mnz x') k):bO P n o ρ T env rows a w k:=by
 obtain⟨d,he,hk⟩:=au h
 split at hk
 ·rename_i kd m
  have hx:=fb h1 he hs hG
  obtain⟨rfl,b1,b2,hk⟩:=hk
  obtain⟨m0,rfl⟩:=aaD b1
  have Fo:m0<=most:=by have:=b2;omega
  obtain⟨cs,l,r1,r2,r3⟩:=run_mnz (P:=P) ht fn.params m0 Fo w
  have hl:m0<=l.length:=by
   have:cs.toList.length=l.length:=by rw[r3];simp
   simp at this;omega
  have hargs:c.args=#[x]:=by apply acb;simpa using ha
  have hres:fn.resultTypes=#[t]:=by apply acb;simpa using hr
  have Lm:=hk (l.take m0) (by simp;omega)
  have gP:∀d∈(l.take m0).map (λb=>D.raw (.int .u8 (b.toNat:Int))),aL L8 d:=λd hd=>by
   obtain⟨b,_,rfl⟩:=acS.1 hd
   exact .leaf _ _ rfl
  have my:∀l:List (BitVec 8),aA (l.map λb=>D.raw (.int .u8 (b.toNat:Int)))=l.map λb=>D.raw (.int .u8 (b.toNat:Int)):=by
   intro l
   induction l with
   |nil=>rfl
   |cons b l ih=>simp[aA,D.flat,ih]
  have bQ:∀l:List (BitVec 8),bd (LR ρ w T) (l.map λb=>D.raw (.int .u8 (b.toNat:Int))) (l.map λb=>Value.int .u8 (b.toNat:Int)):=by
   intro l
   induction l with
   |nil=>exact .nil
   |cons b l ih=>exact .cons (.raw _ rfl) ih
  obtain⟨q1,q2⟩:=(hs.heap (w':=w.drew.drew) rfl).push (w':=w.drew.drew.alloc (.cells cs e)) ⟨L8,(l.take m0).map λb=>D.raw (.int .u8 (b.toNat:Int))⟩ cs e rfl rfl rfl rfl gP (by rw[my];simp;omega) (by
   rw[my,r3]
   have e1:((l.take m0).map λb=>D.raw (.int .u8 (b.toNat:Int))).length=m0:=by simp;omega
   rw[e1,<-List.map_take]
   exact(bQ (l.take m0)).mono λa b h=>h.mono (λ_ _ h=>h) (λ_ _=>rfl) (λ_ h=>h))
  refine qp (v:= .slice (some ⟨w.heap.size,0,none⟩) m0 cs.size) Lm q1 ⟨q2.pl,q2.tt,q2.wB,q2.size,q2.keep,q2.fresh,q2.os,q2.tape,q2.output,q2.len,q2.same⟩ ?_ (λ_=>⟨λb hb=> .inl (ua (w:=w.drew.drew) hb),λ_ h=> .inl h⟩) ?_
  ·have:=LR.sl (ρ:=uX ρ rows.length ⟨w.heap.size,L8,cs.size,false⟩) (w:=w.drew.drew.alloc (.cells cs e)) (T:=T) L8 rows.length [] 0 m0 false ⟨w.heap.size,L8,cs.size,false⟩ cs.size (by simp[uX]) r2 (by simp) (.inl ⟨rfl,rfl,rfl,by simp[Sh.size]⟩)
   simpa[Loc.off]using VR.bH this
  ·have HF:fn.body.isNone=true:=by cases hq:fn.body<;>simp_all
   have hx':c.args.map a.eval=#[Value.int .i64 m0]:=by rw[hargs];simp[hx]
   have he:=aac hn
   rw[hres]at he
   have:=run_callFunc_extern hf (BM hn hn2).2 HF (BM hn hn2).1 he #[.int .i64 m0] w
   rw[r1]at this
   simp[execOp,ho,resolve,hc,Act.eval,Deferred.ofValue,invoke]
   rw[hx',this]
   rfl
 ·exact hk.elim
theorem op_idxb{c:Call}{f:FuncId}{fn:Func}{x y:Operand}{x' y':X}(ho:o.op= .call c)(hc:c.callee= .value (.func f))(hf:P.funcs[f]?=some fn)(hb:fn.body.isSome=false)
  (hn:fn.name=BD)(hn2:fn.origin= "")(ha:c.args.toList=[x,y])(h1:cX x=some x')(h2:cX y=some y')(h:dW C env rows (.Sd x' y') k):bO P n o ρ T env rows a w k:=by
 obtain⟨d,he,hk⟩:=au h
 split at hk
 ·rename_i b
  obtain⟨d2,w9,hk⟩:=au hk
  split at hk
  ·rename_i ch
   have hx:=fb h1 he hs hG
   have hy:=fb h2 w9 hs hG
   have hargs:c.args=#[x,y]:=by apply acb;simpa using ha
   refine .here hs hk (VR.raw rfl) (v:= .int .i64 (WW ch b)) ?_
   have:=run_idx hf hb hn hn2 b ch w
   have hx':c.args.map a.eval=#[.string b,.int .u8 ch]:=by rw[hargs];simp[hx,hy]
   simp[execOp,ho,resolve,hc,Act.eval,Deferred.ofValue,invoke]
   rw[hx',this]
  ·exact hk.elim
 ·exact hk.elim
theorem op_mkf{f:Nat}{first cap:Array Operand}{x:Operand}{x':X}(ho:o.op= .makeFunc (.func f) first cap)(hf:first.isEmpty=true)(hc:cap.toList=[x])(h1:cX x=some x')(h:dW C env rows (.mkf f x') k):bO P n o ρ T env rows a w k:=by
 obtain⟨d,he,hk⟩:=au h
 have hv:=bJ h1 he hs hG
 split at hk
 ·rename_i s r p
  have mN:LR ρ w T (.ptr s r p) _:=hv
  generalize hx:a.eval x=v at mN
  have e1:first=#[]:=by simpa using hf
  have e2:cap=#[x]:=by apply acb;simpa using hc
  cases mN with
  |ptr _ _ _ L hL hp=>
   refine .here hs hk (VR.bH (.Fi f s r p L hL hp)) ?_
   simp[execOp,ho,e1,e2,hx,Instr.makeFunc]
 ·exact hk.elim
theorem op_s2a{t e:TypeId}{m:Nat}{x:Operand}{x':X}{s:Sh}(ho:o.op= .sliceToArrayPointer t x)(ht:P.underlying t=some (.array m e))(h1:cX x=some x')
  (h:dW C env rows (.s2a m s x') k):bO P n o ρ T env rows a w k:=by
 obtain⟨d,he,hk⟩:=au h
 have hv:=bJ h1 he hs hG
 have hrun:∀ad len cap,m<=len->(Instr.arrayAt t (.slice ad len cap)).run P w= .ok (.pointer ad) w:=by
  intro ad len cap hlen
  simp[Instr.arrayAt,run_underlying ht,Nat.not_lt.2 hlen]
 split at hk
 ·rename_i t' r p off len ex
  obtain⟨rfl,hn,h0,hk⟩:=hk
  have mN:LR ρ w T (.sl t' r p off len ex) _:=hv
  generalize hx:a.eval x=v at mN
  cases mN with
  |Bw=>omega
  | sl _ _ _ _ _ _ L cap hL g1 g2 g3 =>
   refine .here hs hk (VR.bH (.nX m t' r p off L hL ?_)) (v:= .pointer (some ⟨L.b,L.off p+off*t'.size,none⟩)) ?_
   ·rcases g3 with⟨q1,q2,q3⟩|⟨q,q1,q2⟩
    ·exact .inl ⟨q1,q2,q3.1,abd (abF _ (by omega)) q3.2⟩
    ·exact .inr ⟨q,q1,by omega⟩
   ·simp[execOp,ho,hx,hrun _ _ _ hn]
 ·rename_i t' l ex
  obtain⟨rfl,hn,h0,hk⟩:=hk
  have mN:LR ρ w T (.cI t' l ex) _:=hv
  generalize hx:a.eval x=v at mN
  cases mN with
  |qj=>simp at hn;omega
  | cI _ _ _ b o' cap f c1 hb c2 c3 c4 c5 =>
   obtain⟨q1,q2⟩:=BG (d:=default) c2 c3
   have fJ:aA (l.take m)=(aA l).take (aA (l.take m)).length:=by
    have:aA l=aA (l.take m)++aA (l.drop m):=by rw[<-eh,aa5]
    rw[this,aa0]
   have gP:∀d∈l.take m,aL t' d:=λd hd=>c1 d (aa1 hd)
   have hsh:aL (.ar m t') (.agg (.ar m t') (l.take m)):= .agg _ _ rfl (by simp[Sh.count];omega) (λi e d hi hd=>by
    simp only[Sh.sub]at hi
    split at hi
    ·cases hi;exact gP d (bN hd)
    ·cases hi)
   have q3:=q1.take (aA (l.take m)).length
   rw[<-fJ]at q3
   refine .here hs hk (VR.bH (LR.AH hsh hb (by simpa[D.flat]using q3) (q2.take _))) ?_
   simp[execOp,ho,hx,hrun _ _ _ hn]
 ·exact hk.elim
end ops
end Go.Am

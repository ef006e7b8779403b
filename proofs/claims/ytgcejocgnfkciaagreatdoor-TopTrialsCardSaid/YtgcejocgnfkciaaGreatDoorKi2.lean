import Derived.Test.YtgcejocgnfkciaaGreatDoorKi1
import Derived.Laws.StructEq
import Derived.ChangeKeysEq
import Derived.Laws.BytesString
import Derived.Lib.ConvBytes
import Derived.Laws.Externs
set_option linter.unusedSimpArgs false
set_option linter.unusedVariables false
namespace Go.Am
variable {C:aX} {P:Program} {n:Nat} {ρ:Pl} {T:Nat->Prop} {env:Env} {rows:Rows} {a:Act} {w:World}
theorem X0{d:D}{v:Value}{k:Nat}(h:LR ρ w T d v)(hk:dP d=some k):∃ad cap,v= .slice ad k cap:=by
 cases h with
 | raw v hv =>
  cases v with
  |slice b len cap=>
   cases b<;>cases len<;>cases cap<;>simp[dP]at hk
   subst hk
   exact⟨_,_,rfl⟩
  | _=>simp[dP]at hk
 |ptr=>simp[dP]at hk
 |b5=>simp[dP]at hk
 |nk=>simp[dP]at hk
 |Ed=>simp[dP]at hk
 |mp=>simp[dP]at hk
 |om=>simp[dP]at hk
 |sl=>simp[dP]at hk;subst hk;exact⟨_,_,rfl⟩
 |AE=>simp[dP]at hk;subst hk;exact⟨_,_,rfl⟩
 |pq=>simp[dP]at hk;subst hk;exact⟨_,_,rfl⟩
 |cD=>simp[dP]at hk;subst hk;exact⟨_,_,rfl⟩
theorem JD{d:D}{k:Nat}(hk:dP d=some k):d.eN=true:=by
 cases d<;>simp_all[dP,D.eN]
 split at hk<;>simp_all[Value.oneCell']
theorem l5{x:Option Operand}{y:Option X}{z:Option Int}(hc:Nc x=some y)(he:IV C env y=some z)(hs:eA n ρ T env rows a w)(hG:sN C ρ w T):
  (x.map a.eval=none/\z=none)\/∃kd i,x.map a.eval=some (.int kd i)/\z=some i:=by
 cases x with
 |none=>
  simp[Nc]at hc
  subst hc
  simp[IV]at he
  exact .inl ⟨rfl,he.symm⟩
 | some x =>
  simp only[Nc]at hc
  cases hx:cX x with
  |none=>simp[hx]at hc
  | some x' =>
   simp[hx]at hc
   subst hc
   simp only[IV]at he
   split at he
   ·rename_i kd i hh
    simp at he
    subst he
    exact .inr ⟨kd,i,by simp[eP hx hh hs hG],rfl⟩
   ·cases he
theorem run_sliceBound{kd:IntKind}{i:Int}{y:Nat}{code:BoundsCode}(h0:0<=i)(h1:i<=(y:Int))(w:World):(Instr.sliceBound (.int kd i) y code).run P w= .ok i.toNat w:=by
 simp[Instr.sliceBound,asIntOf,h0,h1]
theorem oS{isSlice:Bool}{len cap:Nat}{lo hi mx:Option Value}{l h m:Option Int}{L H M:Nat}
  (hl:(lo=none/\l=none)\/∃kd i,lo=some (.int kd i)/\l=some i)(hh:(hi=none/\h=none)\/∃kd i,hi=some (.int kd i)/\h=some i)
  (hm:(mx=none/\m=none)\/∃kd i,mx=some (.int kd i)/\m=some i)(hmh:mx.isSome=true->hi.isSome=true)
  (eL:l.getD 0=(L:Int))(eH:h.getD len=(H:Int))(eM:m.getD cap=(M:Int))(h1:L<=H)(h2:H<=M)(h3:M<=cap)(w:World):
  (Instr.sliceBounds isSlice len cap lo hi mx).run P w= .ok (L,H,M) w:=by
 have key:∀{kd:IntKind} {i:Int} {y z:Nat} {code:BoundsCode},i=(z:Int)->z<=y->(Instr.sliceBound (.int kd i) y code).run P w= .ok z w:=by
  intro kd i y z code e hz
  subst e
  rw[run_sliceBound (by omega) (by omega)]
  simp
 rcases hm with⟨rfl,rfl⟩|⟨km,im,rfl,rfl⟩
 ·simp at eM
  rcases hh with⟨rfl,rfl⟩|⟨kh,ih,rfl,rfl⟩
  ·simp at eH
   rcases hl with⟨rfl,rfl⟩|⟨kl,il,rfl,rfl⟩
   ·simp at eL
    simp[Instr.sliceBounds,<-eL,eH,eM]
    omega
   ·simp at eL
    simp[Instr.sliceBounds,key (kd:=kl) (y:=len) eL (by omega)]
    omega
  ·simp at eH
   have kH:=λ(c:BoundsCode)=>key (kd:=kh) (y:=cap) (code:=c) eH (by omega)
   rcases hl with⟨rfl,rfl⟩|⟨kl,il,rfl,rfl⟩
   ·simp at eL
    cases isSlice<;>simp[Instr.sliceBounds,kH]<;>omega
   ·simp at eL
    have kL:=λ(c:BoundsCode)=>key (kd:=kl) (y:=H) (code:=c) eL (by omega)
    cases isSlice<;>simp[Instr.sliceBounds,kH,kL]<;>omega
 ·simp at eM
  have kM:=λ(c:BoundsCode)=>key (kd:=km) (y:=cap) (code:=c) eM (by omega)
  rcases hh with⟨rfl,rfl⟩|⟨kh,ih,rfl,rfl⟩
  ·simp at hmh
  ·simp at eH
   have kH:=λ(c:BoundsCode)=>key (kd:=kh) (y:=M) (code:=c) eH (by omega)
   rcases hl with⟨rfl,rfl⟩|⟨kl,il,rfl,rfl⟩
   ·simp at eL
    cases isSlice<;>simp[Instr.sliceBounds,kH,kM]<;>omega
   ·simp at eL
    have kL:=λ(c:BoundsCode)=>key (kd:=kl) (y:=H) (code:=c) eL (by omega)
    cases isSlice<;>simp[Instr.sliceBounds,kH,kL,kM]<;>omega
section ops
variable (hs:eA n ρ T env rows a w) (hG:sN C ρ w T) {o:Oper} {k:D->Rows->Prop}
include hs hG
theorem op_len{c:Call}{x:Operand}{x':X}{t e:TypeId}{ts:List TypeId}(ho:o.op= .call c)(hc:c.callee= .builtin .len)(ha:c.args.toList=[x])(hts:c.argTypes.toList=t::ts)
  (hu:P.underlying t=some (.slice e))(h1:cX x=some x')(h:dA C env rows (.len x') k):bI P n o ρ T env rows a w k:=by
 obtain⟨d,he,hk⟩:=ak h
 obtain⟨j,hj,hk⟩:=ak hk
 have hv:=(bD h1 he hs hG).AS (JD hj)
 obtain⟨ad,cap,hx⟩:=X0 hv hj
 have hargs:c.args=#[x]:=by apply aca;simpa using ha
 have X1:c.argTypes[0]?=some t:=by
  have:c.argTypes.toList[0]?=some t:=by rw[hts];rfl
  simpa using this
 refine .here hs hk (VR.raw rfl) ?_
 rw[ia ho hc]
 simp[builtin,Builtin.len_,hargs,X1,run_underlying hu,hx,goInt]
theorem UT{c:Call}{x:Operand}{x':X}{t:TypeId}{ts:List TypeId}(ho:o.op= .call c)(hc:c.callee= .builtin .len)(ha:c.args.toList=[x])(hts:c.argTypes.toList=t::ts)
  (hu:P.underlying t=some .string)(h1:cX x=some x')(h:dA C env rows (.zF x') k):bI P n o ρ T env rows a w k:=by
 obtain⟨d,he,hk⟩:=ak h
 split at hk
 ·have hx:=eP h1 he hs hG
  have hargs:c.args=#[x]:=by apply aca;simpa using ha
  have X1:c.argTypes[0]?=some t:=by
   have:c.argTypes.toList[0]?=some t:=by rw[hts];rfl
   simpa using this
  refine .here hs hk (VR.raw rfl) ?_
  rw[ia ho hc]
  simp[builtin,Builtin.len_,hargs,X1,run_underlying hu,hx,goInt]
 ·exact hk.elim
theorem UU{t e:TypeId}{x:Operand}{lo hi mx:Option Operand}{x':X}{lo' hi' mx':Option X}{s:Sh}{m:Nat}(ho:o.op= .slice t x lo hi mx)(hu:P.underlying t=some (.array m e))(hsh:sh P e=some s)
  (h1:cX x=some x')(h2:Nc lo=some lo')(h3:Nc hi=some hi')(h4:Nc mx=some mx')(hmh:mx.isSome=true->hi.isSome=true)
  (h:dA C env rows (.zE m s x' lo' hi' mx') k):bI P n o ρ T env rows a w k:=by
 obtain⟨d,he,k1⟩:=ak h
 obtain⟨l,hl,k2⟩:=ak k1
 obtain⟨hh,Xi,k3⟩:=ak k2
 obtain⟨c,hc,hk⟩:=ak k3
 clear k1 k2 k3
 have hv:=bD h1 he hs hG
 obtain⟨b1,b2,b3,b4,hk⟩:=hk
 have hrun:∀(b o':Nat),(Instr.sliceAt t (.pointer (some ⟨b,o',none⟩)) (lo.map a.eval) (hi.map a.eval) (mx.map a.eval)).run P w=
   .ok (.slice (some (if(c.getD m).toNat=(l.getD 0).toNat then⟨b,o',none⟩else⟨b,o'+(l.getD 0).toNat*s.size,none⟩)) ((hh.getD m).toNat-(l.getD 0).toNat) ((c.getD m).toNat-(l.getD 0).toNat)) w:=by
  intro b o'
  have:=oS (P:=P) (isSlice:=false) (len:=m) (cap:=m) (L:=(l.getD 0).toNat) (H:=(hh.getD m).toNat) (M:=(c.getD m).toNat)
   (l5 h2 hl hs hG) (l5 h3 Xi hs hG) (l5 h4 hc hs hG) (by simpa using hmh) (by omega) (by omega) (by omega) (by omega) (by omega) (by omega) w
  simp[Instr.sliceAt,run_underlying hu,Instr.sureAddr,this,run_sizeOf hsh,mG]
 have wu:∀v,a.eval x=v->(execOp a.eval o).run P w=((Instr.sliceAt t v (lo.map a.eval) (hi.map a.eval) (mx.map a.eval)).run P w).andThen λv w'=> .ok (.value v) w':=by
  intro v hx
  simp[execOp,ho,hx]
 generalize hL:(l.getD 0).toNat=L' at hk hrun
 generalize hH:(hh.getD (m:Int)).toNat=H' at hk hrun
 generalize hM:(c.getD (m:Int)).toNat=M' at hk hrun
 split at hk
 ·rename_i t' r p
  obtain⟨rfl,hk⟩:=hk
  have hl:LR ρ w T _ _:=hv
  generalize hx:a.eval x=v at hl
  cases hl with
  | ptr _ _ _ L KX hp =>
   by_cases hz:M'=L'
   ·have Ei:H'-L'=0:=by omega
    have KZ:M'-L'=0:=by omega
    refine .here hs hk (v:= .slice (some ⟨L.b,L.off p,none⟩) 0 0) ?_ ?_
    ·rw[Ei];exact VR.bB (.AE _ _ _ _ _ _)
    ·rw[wu _ hx,hrun];simp[hz,Ei,KZ]
   ·refine .here hs hk (v:= .slice (some ⟨L.b,L.off p+L'*s.size,none⟩) (H'-L') (M'-L')) ?_ ?_
    ·refine VR.bB (.sl _ _ _ _ _ _ L _ KX (by omega) (λhq=>?_) (.inr ⟨m,hp,by omega⟩))
     have:H'=M':=by simpa using hq
     omega
    ·rw[wu _ hx,hrun];simp[hz]
 ·rename_i t' els
  obtain⟨rfl,hk⟩:=hk
  obtain⟨b,o',cs,s',hx,g1,hT,g2,g3⟩:=LR.AV (show LR ρ w T _ _ from hv)
  obtain⟨rfl,ha⟩:=oQ g1
  obtain⟨l',mC,hlen,fG⟩:=g1.jl rfl
  cases mC
  have bN:∀d∈els,aL s d:=by
   intro d hd
   obtain⟨q,hq,rfl⟩:=aa8.1 hd
   exact fG q s _ (by simp[Sh.sub];simp[Sh.count]at hlen;omega) (aaw hq)
  simp[Sh.count]at hlen
  have gJ:∀d∈(els.drop L').take (H'-L'),aL s d:=λd hd=>bN d (ab9 (aa5 hd))
  have Gp:((els.drop L').take (H'-L')).length=H'-L':=by simp;omega
  by_cases hz:M'=L'
  ·have Ei:H'-L'=0:=by omega
   have KZ:M'-L'=0:=by omega
   refine .here hs hk (v:= .slice (some ⟨b,o',none⟩) 0 0) ?_ ?_
   ·rw[Ei];simp;exact VR.bB (.pq _ _ _ _ (λ_=>rfl) (λ_=>rfl))
   ·rw[wu _ hx,hrun];simp[hz,Ei,KZ]
  ·obtain⟨pre,post,q1,q2⟩:=ug (off:=L') (len:=H'-L') bN (by omega)
   simp only[D.flat]at g2
   rw[q1]at g2
   have q3:=(g2.drop pre.length).take (au ((els.drop L').take (H'-L'))).length
   rw[abi,aa3]at q3
   refine .here hs hk (v:= .slice (some ⟨b,o'+L'*s.size,none⟩) ((els.drop L').take (H'-L')).length (M'-L')) ?_ ?_
   ·refine VR.bB (LR.Nl gJ hT q3 (by rw[<-q2];exact(g3.drop _).take _) (by omega) (λhq=>?_))
    have:H'=M':=by simpa using hq
    omega
   ·rw[wu _ hx,hrun];simp only[hz,ab1,Result.andThen_ok,Gp]
 ·exact hk.elim
theorem X2{t e:TypeId}{x:Operand}{lo hi mx:Option Operand}{x':X}{lo' hi' mx':Option X}{s:Sh}(ho:o.op= .slice t x lo hi mx)(hu:P.underlying t=some (.slice e))(hsh:sh P e=some s)
  (h1:cX x=some x')(h2:Nc lo=some lo')(h3:Nc hi=some hi')(h4:Nc mx=some mx')(hmh:mx.isSome=true->hi.isSome=true)
  (h:dA C env rows (.slice s x' lo' hi' mx') k):bI P n o ρ T env rows a w k:=by
 obtain⟨d,he,k1⟩:=ak h
 obtain⟨l,hl,k2⟩:=ak k1
 obtain⟨hh,Xi,k3⟩:=ak k2
 obtain⟨c,hc,k4⟩:=ak k3
 obtain⟨N,hN,hk⟩:=ak k4
 clear k1 k2 k3 k4
 have hv:=bD h1 he hs hG
 obtain⟨b1,b2,b3,b4,hk⟩:=hk
 have E9:=hv.AS (JD hN)
 have hrun:∀(ad:Option Addr) (cap:Nat),N<=cap->(Instr.sliceAt t (.slice ad N cap) (lo.map a.eval) (hi.map a.eval) (mx.map a.eval)).run P w=
   .ok (.slice (if(c.getD cap).toNat=(l.getD 0).toNat then ad else ad.map (·.add ((l.getD 0).toNat*s.size))) ((hh.getD N).toNat-(l.getD 0).toNat) ((c.getD cap).toNat-(l.getD 0).toNat)) w:=by
  intro ad cap hcap
  have:=oS (P:=P) (isSlice:=true) (len:=N) (cap:=cap) (L:=(l.getD 0).toNat) (H:=(hh.getD N).toNat) (M:=(c.getD cap).toNat)
   (l5 h2 hl hs hG) (l5 h3 Xi hs hG) (l5 h4 hc hs hG) (by simpa using hmh) (by omega) (by omega) (by cases c<;>simp at b3 b4⊢;omega)
   (by omega) (by cases c<;>simp at b3 b4⊢<;>omega) (by cases c<;>simp at b3 b4⊢;omega) w
  simp[Instr.sliceAt,Instr.slice,run_underlying hu,this,run_sizeOf hsh]
 have wu:∀v,a.eval x=v->(execOp a.eval o).run P w=((Instr.sliceAt t v (lo.map a.eval) (hi.map a.eval) (mx.map a.eval)).run P w).andThen λv w'=> .ok (.value v) w':=by
  intro v hx
  simp[execOp,ho,hx]
 have bM:∀cap:Nat,N<=cap->(hh.getD N).toNat<=(c.getD cap).toNat/\(c.getD cap).toNat<=cap:=by
  intro cap hcap
  cases c<;>simp at b3 b4⊢<;>omega
 generalize hL:(l.getD 0).toNat=L' at hk hrun
 have hLH:L'<=(hh.getD N).toNat:=by omega
 have hHN:(hh.getD N).toNat<=N:=by cases c<;>simp at b3 b4<;>omega
 have hcm:∀cap:Nat,∀z,c=some z->(c.getD (hh.getD N)).toNat=(c.getD cap).toNat:=by intro cap z hz;simp[hz]
 generalize hH:(hh.getD (N:Int)).toNat=H' at hk hrun bM hLH hHN
 split at hk
 ·have hx:=eP h1 he hs hG
  simp[dP]at hN
  subst hN
  refine .here hs hk (VR.raw rfl) ?_
  have XP:L'=0:=by omega
  have hH0:H'=0:=by omega
  rw[wu _ hx,hrun none 0 (by omega)]
  have hb:=bM 0 (by omega)
  have h0:(c.getD ((0:Nat):Int)).toNat=0:=by omega
  simp only[h0,XP,hH0]
  rfl
 ·rename_i t' r p off len ex
  obtain⟨rfl,hk⟩:=hk
  simp[dP]at hN
  subst hN
  generalize hx:a.eval x=v at E9
  cases E9 with
  | AE _ _ _ _ _ ad =>
   have XP:L'=0:=by omega
   have hH0:H'=0:=by omega
   have hb:=bM 0 (by omega)
   have h0:(c.getD ((0:Nat):Int)).toNat=0:=by omega
   refine .here hs hk (v:= .slice ad 0 0) ?_ ?_
   ·rw[XP,hH0];exact VR.bB (.AE _ _ _ _ _ _)
   ·rw[wu _ hx,hrun ad 0 (by omega)]
    simp only[h0,XP,hH0]
    rfl
  | sl _ _ _ _ _ _ L cap KX c1 c2 c3 =>
   have hb:=bM cap c1
   generalize hM:(c.getD (cap:Int)).toNat=M' at hb hrun
   have hM:=hrun (some ⟨L.b,L.off p+off*t'.size,none⟩) cap c1
   generalize hMM:(c.getD (cap:Int)).toNat=M' at hM hb
   by_cases hz:M'=L'
   ·have Ei:H'-L'=0:=by omega
    have KZ:M'-L'=0:=by omega
    refine .here hs hk (v:= .slice (some ⟨L.b,L.off p+off*t'.size,none⟩) 0 0) ?_ ?_
    ·rw[Ei];exact VR.bB (.AE _ _ _ _ _ _)
    ·rw[wu _ hx,hM];simp only[hz,ab6,Result.andThen_ok,Ei,acr]
   ·refine .here hs hk (v:= .slice (some ⟨L.b,L.off p+(off+L')*t'.size,none⟩) (H'-L') (M'-L')) ?_ ?_
    ·refine VR.bB (.sl _ _ _ _ _ _ L _ KX (by omega) (λhq=>?_) ?_)
     ·cases c with
      |none=>
       simp[po]at hq hMM
       have:=c2 hq.1
       omega
      |some z=>
       simp[po]at hq hMM
       omega
     ·rcases c3 with⟨d1,d2,dm,d3⟩|⟨m,d1,d2⟩
      ·refine .inl ⟨d1,d2,dm,abg (abH _ (by omega)) d3⟩
      ·exact .inr ⟨m,d1,by omega⟩
    ·rw[wu _ hx,hM]
     simp only[hz,ab1,Result.andThen_ok,acf,mG,adI,acN]
 ·rename_i t' els ex
  obtain⟨rfl,hk⟩:=hk
  simp[dP]at hN
  subst hN
  have key:∀(ad:Option Addr) (cap:Nat) (v:Value),a.eval x=v->v= .slice ad els.length cap->els.length<=cap->(∀d∈els,aL t' d)->(ex=true->cap=els.length)->(ad=none->cap=0)->
    (els.length≠0->∃b o' cs,ad=some ⟨b,o',none⟩/\T b/\aW (LR ρ w T) (au els) cs/\At w b o' cs)->bI P n o ρ T env rows a w k:=by
   intro ad cap v hx lZ hcap bN hex Qa hcs
   subst lZ
   have hb:=bM cap hcap
   have hM:=hrun ad cap hcap
   generalize hMM:(c.getD (cap:Int)).toNat=M' at hM hb
   have hexM:po c H' (c.getD (hh.getD ↑els.length)).toNat els.length ex=true->M'=H':=by
    intro hq
    cases c with
    |none=>
     simp[po]at hq hMM
     have:=hex hq.1
     omega
    |some z=>
     simp[po]at hq hMM
     omega
   have Gp:((els.drop L').take (H'-L')).length=H'-L':=by simp;omega
   by_cases hz:H'=L'
   ·have Qd:(els.drop L').take (H'-L')=[]:=aaN (by omega)
    refine .here hs hk (v:= .slice (if M'=L' then ad else ad.map (·.add (L'*t'.size))) 0 (M'-L')) ?_ ?_
    ·rw[Qd]
     refine VR.bB (.pq _ _ _ _ (λhq=>by have:=hexM hq;omega) (λhq=>?_))
     split at hq
     ·omega
     ·have:ad=none:=by simpa using hq
      have:=Qa this
      omega
    ·rw[wu _ hx,hM,hz]
     simp only[acr,Result.andThen_ok]
   ·have K2:¬M'=L':=by omega
    obtain⟨b,o',cs,rfl,hT,q2,q3⟩:=hcs (by omega)
    obtain⟨pre,post,q4,q5⟩:=ug (off:=L') (len:=H'-L') bN (by omega)
    rw[q4]at q2
    have q6:=(q2.drop pre.length).take (au ((els.drop L').take (H'-L'))).length
    rw[abi,aa3]at q6
    refine .here hs hk (v:= .slice (some ⟨b,o'+L'*t'.size,none⟩) ((els.drop L').take (H'-L')).length (M'-L')) ?_ ?_
    ·refine VR.bB (LR.Nl (λd hd=>bN d (ab9 (aa5 hd))) hT q6 (by rw[<-q5];exact(q3.drop _).take _) (by omega) (λhq=>by have:=hexM hq;omega))
    ·rw[wu _ hx,hM]
     simp only[K2,ab1,Result.andThen_ok,Gp,acf,mG]
  generalize hx:a.eval x=v at E9
  cases E9 with
  |pq _ _ ad cap c1 c2=>exact key ad cap _ hx rfl (by simp) (by simp) (by simpa using c1) c2 (by simp)
  |cD _ _ _ b o' cap f c1 hb c2 c3 c4 c5=>
   exact key _ cap _ hx rfl c4 c1 c5 (by simp) (λ_=>⟨b,o',_,rfl,hb,(AU (d:=default) c2 c3).1,(AU (d:=default) c2 c3).2⟩)
 ·exact hk.elim
end ops
end Go.Am
namespace Go.Am
variable {C:aX} {P:Program} {n:Nat} {ρ:Pl} {T:Nat->Prop} {env:Env} {rows:Rows} {a:Act} {w:World}
theorem X3{a b:Value}(h:XF a b=true):b=a/\a.oneCell'=true:=by
  unfold XF at h
  split at h<;>first
    |(simp at h;obtain⟨rfl,rfl⟩:=h;exact⟨rfl,rfl⟩)
    |(simp at h;subst h;exact⟨rfl,rfl⟩)
    | (rename_i x y
       have e:x.data.toList=y.data.toList:=by simpa using h
       have e2:x.data=y.data:=aca e
       have e3:x=y:=ByteArray.ext e2
       subst e3
       exact⟨rfl,rfl⟩)
    |exact⟨rfl,rfl⟩
    |cases h
theorem Ej{l:List D}{vs:List Value}(h:zH l vs=true)(ρ:Pl)(w:World)(T:Nat->Prop):aW (LR ρ w T) l vs:=by
 induction l generalizing vs with
 |nil=>cases vs with
  |nil=>exact .nil
  |cons v vs=>simp[zH]at h
 | cons d l ih => cases vs with
  |nil=>simp[zH]at h
  | cons v vs =>
   cases d with
   |raw x=>
    simp[zH]at h
    obtain⟨rfl,h2⟩:=X3 h.1
    exact .cons (.raw _ h2) (ih h.2)
   | _=>simp[zH]at h
theorem SY{f:TypeId->Option D}{g:TypeId->Option Sh}(hfg:∀t d e,f t=some d->g t=some e->aL e d):∀(fs:List Field) {l:List D} {s:Sh},zL f fs=some l->shL g fs=some s->
  s.isAgg=true/\l.length=s.count/\∀i e d,s.sub i=some e->l[i]?=some d->aL e d
 |[],l,s,h1,h2=>by
  simp[zL]at h1
  simp[shL]at h2
  subst h1;subst h2
  simp[Sh.isAgg,Sh.count,Sh.sub]
 | x :: fs, l, s, h1, h2 => by
  simp only[zL]at h1
  simp only[shL]at h2
  split at h1
  ·rename_i d hd
   split at h1
   ·rename_i l' mC
    cases h1
    split at h2
    ·rename_i e he
     split at h2
     ·rename_i s' gh
      cases h2
      obtain⟨g1,g2,g3⟩:=SY hfg fs mC gh
      refine⟨g1,by simp[Sh.count,g2],λi e' d' hi jP=>?_⟩
      cases i with
      |zero=>
       simp[Sh.sub]at hi jP
       subst hi;subst jP
       exact hfg _ _ _ hd he
      |succ i=>exact g3 i e' d' (by simpa[Sh.sub]using hi) (by simpa using jP)
     ·cases h2
    ·cases h2
   ·cases h1
  ·cases h1
theorem K3(P:Program):∀(n:Nat) (t:TypeId) (d:D) (s:Sh),zT P n t=some d->shT P n t=some s->aL s d
 |0,t,d,s,h1,h2=>by simp[zT]at h1
 | n + 1, t, d, s, h1, h2 => by
  have Xj:=h2
  simp only[zT]at h1
  simp only[shT]at h2
  cases hu:P.underlying t with
  |none=>simp[hu]at h1
  | some u =>
   cases u with
   | struct fs =>
    simp only[hu]at h1 h2
    rw[Xj]at h1
    simp only at h1
    split at h1
    ·rename_i l hl
     cases h1
     obtain⟨g1,g2,g3⟩:=SY (λt d e hd he=>K3 P n t d e hd he) fs.toList hl h2
     exact .agg s l g1 g2 g3
    ·cases h1
   | array m e =>
    simp only[hu]at h1 h2
    rw[Xj]at h1
    simp only at h1
    split at h1
    ·rename_i d' jP
     cases h1
     split at h2
     ·rename_i s' gh
      cases h2
      refine .agg _ _ rfl (by simp[Sh.count]) λi e' d'' hi hd''=>?_
      simp only[Sh.sub]at hi
      split at hi
      ·cases hi
       rw[abI (abR hd'')]
       exact K3 P n e d' s' jP gh
      ·cases hi
     ·cases h2
    ·cases h1
   |bool=>simp[hu]at h1 h2;subst h1;subst h2;exact .leaf _ _ rfl
   |int k=>simp[hu]at h1 h2;subst h1;subst h2;exact .leaf _ _ (by simp[nQ])
   |string=>simp[hu]at h1 h2;subst h1;subst h2;exact .leaf _ _ rfl
   |pointer _=>simp[hu]at h1 h2;subst h1;subst h2;exact .ref _ rfl
   |slice _=>simp[hu]at h1 h2;subst h1;subst h2;exact .ref _ rfl
   |map _ _=>simp[hu]at h1 h2;subst h1;subst h2;exact .ref _ rfl
   |func _ _ _=>simp[hu]at h1 h2;subst h1;subst h2;exact .ref _ rfl
   |interface _=>simp[hu]at h1 h2;subst h1;subst h2;exact .ref _ rfl
   | _=>simp[hu]at h1
theorem sh_shT{t:TypeId}{s:Sh}(h:sh P t=some s):shT P 40 t=some s:=by
 unfold sh at h
 split at h
 ·rename_i s' gh
  split at h
  ·rename_i i hi
   cases hb:(i.size==s'.size)with
   |false=>rw[hb]at h;simp at h
   |true=>rw[hb]at h;simp at h;subst h;exact gh
  ·cases h
 ·cases h
theorem sO{w:World}{o:Obj}{b:Nat}(h:b<w.heap.size):({w with heap:=w.heap.push o}:World).heap[b]?=w.heap[b]?:=by
 rw[adg,aaE (by omega)]
theorem Gq{α:Type}{c:Bool}{x y:α}(h:(bif c then some x else none)=some y):c=true/\x=y:=by
 cases c with
 |false=>simp at h
 |true=>exact⟨rfl,by simpa using h⟩
theorem kf{t:TypeId}{s:Sh}{z:D}(hs:sh P t=some s)(hz:zero P t=some z):
  aL s z/\∃v,(∀w,(zeroValue t).run P w= .ok v w)/\v.cells.size=s.size/\∀ρ w T,aW (LR ρ w T) z.flat v.cells.toList:=by
 unfold zero at hz
 split at hz
 ·rename_i d hd
  split at hz
  ·rename_i i hi
   split at hz
   ·rename_i v hv
    obtain⟨Gr,hdz⟩:=Gq hz
    have hb:=(acS.1 Gr).1
    ·subst hdz
     have hsh:=K3 P 40 t d s hd (sh_shT hs)
     refine⟨hsh,v,λw=>by simp[zeroValue,typeInfo,hi,hv],?_,λρ w T=>Ej hb ρ w T⟩
     have:=(Ej hb (λ_=>none) default (λ_=>False)).len
     rw[hsh.len]at this
     simpa using this.symm
   ·cases hz
  ·cases hz
 ·cases hz
theorem eA.FM(hs:eA n ρ T env rows a w)(row:Row)(cur:Array Value)(t:TypeId)(w':World)(hw':w'={w with heap:=w.heap.push (.cells cur t)})
  (gJ:∀d∈row.els,aL row.sh d)(hlen:(au row.els).length<=cur.size)(hc:aW (LR ρ w T) (au row.els) (cur.toList.take (au row.els).length)):
  eA n (tX ρ rows.length ⟨w.heap.size,row.sh,cur.size,false⟩) T env (rows++[some row]) a w'/\Step ρ T rows w (tX ρ rows.length ⟨w.heap.size,row.sh,cur.size,false⟩) T (rows++[some row]) w':=by
 subst hw'
 exact hs.push row cur t rfl rfl rfl rfl gJ hlen hc
theorem aW.K4{α β:Type}{R:α->β->Prop}{l:List α}{m:List β}(h:aW R l m):aW R l (m.take l.length):=by
 rw[h.len,aa6]
 exact h
theorem Ek(off:Nat):∀(vs:List Value) (k:Nat) (cells:Array Value),off+k+vs.length<=cells.size->
  ((vs.zipIdx k).foldl (λ(cs:Array Value) (x:Value×Nat)=>cs.setIfInBounds (off+x.2) x.1) cells).toList=cells.toList.take (off+k)++(vs++cells.toList.drop (off+k+vs.length))
 |[],k,cells,_=>by simp
 | v :: vs, k, cells, h => by
  simp only[List.zipIdx_cons,ad0]
  rw[Ek off vs (k+1) _ (by simp at h⊢;omega)]
  simp only[aa0]at h
  have h1:(cells.setIfInBounds (off+k) v).toList=cells.toList.set (off+k) v:=by simp
  rw[h1]
  apply ack
  intro i
  simp only[adY,aaF,abb,ab4,abA,ac5,abh,aa0,List.getElem?_cons]
  have hsz:off+k<cells.size:=by omega
  rcases adL i (off+k)with h2|h2|h2
  ·simp[show i<min (off+(k+1)) cells.size by omega,show i<min (off+k) cells.size by omega,show i<off+(k+1) by omega,show i<off+k by omega,show¬(off+k=i) by omega]
  ·subst h2
   simp[show off+k<min (off+(k+1)) cells.size by omega,show¬(off+k<min (off+k) cells.size) by omega,show min (off+k) cells.size=off+k by omega,hsz,show off+k<off+(k+1) by omega]
  ·have e1:min (off+(k+1)) cells.size=off+(k+1):=by omega
   have e2:min (off+k) cells.size=off+k:=by omega
   simp only[e1,e2,show¬(i<off+(k+1)) by omega,show¬(i<off+k) by omega,ab1]
   have e3:i-(off+k)≠0:=by omega
   by_cases h3:i-(off+(k+1))<vs.length
   ·simp only[h3,ab6,show i-(off+k)<vs.length+1 by omega,e3,ab1]
    congr 1
   ·simp only[h3,ab1,show¬(i-(off+k)<vs.length+1) by omega]
    rw[aaE (by omega)]
    congr 1
    omega
theorem X4{l:List (Nat×Operand)}{ps:List (Nat×X)}(h:oO l=some ps):(l=[]/\ps=[])\/∃i x r y q,l=(i,x)::r/\ps=(i,y)::q/\cX x=some y/\oO r=some q:=by
 cases l with
 |nil=>simp[oO]at h;exact .inl ⟨rfl,h⟩
 | cons p r =>
  obtain⟨i,x⟩:=p
  simp only[oO]at h
  split at h
  ·rename_i y hy
   split at h
   ·rename_i q hq
    cases h
    exact .inr ⟨i,x,r,y,q,rfl,rfl,hy,hq⟩
   ·cases h
  ·cases h
theorem zK(hs:eA n ρ T env rows a w)(hG:sN C ρ w T){s:Sh}{place:Nat->Option (Nat×Nat)}(oR:∀i e,s.sub i=some e->place i=some (s.j8 i,e.size))(ha:s.isAgg=true):
  ∀(parts:List (Nat×Operand)) (ps:List (Nat×X)) (l l':List D) (cells:Array Value),oO parts=some ps->o6 C env s.sub ps l=some l'->aL s (.agg s l)->aW (LR ρ w T) (au l) cells.toList->
  ∃cells',Instr.fill place cells (parts.map λx=>(x.1,a.eval x.2))=some cells'/\aL s (.agg s l')/\aW (LR ρ w T) (au l') cells'.toList:=by
 intro parts
 induction parts with
 |nil=>
  intro ps l l' cells hc hf hsh bN
  simp[oO]at hc
  subst hc
  simp[o6]at hf
  subst hf
  exact⟨cells,rfl,hsh,bN⟩
 | cons p parts ih =>
  intro ps l l' cells hc hf hsh bN
  rcases X4 hc with⟨h,_⟩|⟨i,x,r,y,q,h1,h2,h3,h4⟩
  ·cases h
  ·cases h1
   subst h2
   simp only[o6]at hf
   split at hf
   ·rename_i d hd
    split at hf
    ·rename_i e he
     cases hfit:d.fits e with
     |false=>rw[hfit]at hf;simp at hf
     | true =>
      rw[hfit]at hf
      simp at hf
      obtain⟨g1,g2,_⟩:=(bD h3 hd hs hG).cells hfit
      obtain⟨d0,X5,AW,nV⟩:=hsh.part ha he
      have hall':=bN
      rw[fT X5]at bN
      have Gs:=aW.seg (N:=cells.toList.length) (by rw[aa6];exact bN)
      have JE:d0.flat.length=e.size:=AW.len
      have hvs:(a.eval x).cells.size=e.size:=by rw[<-g1.len];simpa using g2.len.symm
      have hfold:=Ek (s.j8 i) (a.eval x).cells.toList 0 cells (by rw[nV]at Gs;simp[hvs];simp[JE]at Gs;omega)
      have so:=hsh.SX ha he g1
      have iE:aW (LR ρ w T) (au (l.set i d)) ((a.eval x).cells.zipIdx.foldl (λcs (c,j)=>cs.setIfInBounds (s.j8 i+j) c) cells).toList:=by
       rw[<-Array.foldl_toList,Array.toList_zipIdx,hfold,CX (cU X5)]
       have q1:=bN.take (au (l.take i)).length
       rw[aa3]at q1
       have q2:=bN.drop ((au (l.take i)).length+d0.flat.length)
       rw[<-aby,abi,abi]at q2
       have e1:s.j8 i+0=(au (l.take i)).length:=by rw[nV];rfl
       have e2:s.j8 i+0+(a.eval x).cells.toList.length=(au (l.take i)).length+d0.flat.length:=by rw[nV,JE];simp[hvs]
       rw[e2,e1]
       exact q1.append (g2.append q2)
      obtain⟨cells',k1,k2,k3⟩:=ih q (l.set i d) l' _ h4 hf so iE
      refine⟨cells',?_,k2,k3⟩
      simp only[abw,Instr.fill,oR i e he]
      rw[aaE]
      ·exact k1
      ·have:=Gs.2
       rw[nV,JE]at this
       simp[hvs]
       simp at this
       omega
    ·cases hf
   ·cases hf
theorem wv{s:Sh}{z:D}(hz:aL s z):∀(m i:Nat),(au (List.replicate m z))[i]?=if i<m*s.size then z.flat[i %s.size]? else none
 |0,i=>by simp[au]
 | m + 1, i => by
  simp only[ad3,au]
  rw[adY,hz.len]
  by_cases h:i<s.size
  ·rw[aaM h,aaM (by rw[acM];omega),abB h]
  ·rw[aaE h,wv hz m (i-s.size)]
   have h0:0<s.size\/s.size=0:=by omega
   rcases h0 with h0|h0
   ·have e:i %s.size=(i-s.size) %s.size:=by
     rw[<-Nat.mod_eq_sub_mod (by omega)]
    rw[e]
    by_cases h1:i-s.size<m*s.size
    ·rw[aaM h1,aaM (by rw[acM];omega)]
    ·rw[aaE h1,aaE (by rw[acM];omega)]
   ·simp[h0]
theorem uh{s:Sh}{z:D}{v:Value}(hz:aL s z)(hv:v.cells.size=s.size)(hc:aW (LR ρ w T) z.flat v.cells.toList)(m:Nat):
  aW (LR ρ w T) (au (List.replicate m z)) ((Array.range (m*s.size)).map (v.cells[· %v.cells.size]!)).toList:=by
 refine⟨?_,λi x y hx hy=>?_⟩
 ·rw[bb (s:=s) (λd hd=>(abI hd)▸hz)]
  simp
 ·rw[wv hz]at hx
  split at hx
  ·rename_i hi
   simp only[Array.toList_map,Array.toList_range,abl,acW hi,acf,abS]at hy
   obtain⟨u,hu,hr⟩:=hc.some hx
   have hlt:i %v.cells.size<v.cells.size:=by
    rw[hv]
    apply ade
    rcases Nat.eq_zero_or_pos s.size with h0|h0
    ·rw[h0]at hi;simp at hi
    ·exact h0
   have e:v.cells[i %v.cells.size]! =u:=by
    have h1:v.cells[i %s.size]?=some u:=by simpa using hu
    rw[hv]
    rw[hv]at hlt
    have h2:i %s.size<v.cells.size:=by omega
    rw[getElem!_pos v.cells (i %s.size) h2]
    rw[abx h2]at h1
    exact abe h1
   rw[<-hy,e]
   exact hr
  ·cases hx
section ops
variable (hs:eA n ρ T env rows a w) (hG:sN C ρ w T) {o:Oper} {k:D->Rows->Prop}
include hs hG
omit hG in
theorem X6{t:TypeId}{s:Sh}{z:D}(ho:o.op= .alloc t)(hsh:sh P t=some s)(hz:zero P t=some z)(h:dA C env rows (.alloc s z) k):bI P n o ρ T env rows a w k:=by
 obtain⟨h1,v,h2,h3,h4⟩:=kf hsh hz
 have hc:aW (LR ρ w T) (au [z]) v.cells.toList:=by simpa[au]using h4 ρ w T
 obtain⟨g1,g2⟩:=hs.FM ⟨s,[z]⟩ v.cells t _ rfl (by simpa using h1) (by simp[au,h1.len,h3]) hc.K4
 refine⟨_,_,_,_,.pointer (some ⟨w.heap.size,0,none⟩),_,h,g1,g2,?_,.inl ?_,λ_=>⟨λb hb=> .inl (sO hb),λ_ h=> .inl h⟩⟩
 ·have:=LR.ptr (ρ:=tX ρ rows.length ⟨w.heap.size,s,v.cells.size,false⟩) (w:={w with heap:=w.heap.push (.cells v.cells t)}) (T:=T) s rows.length [0] ⟨w.heap.size,s,v.cells.size,false⟩ (by simp[tX]) rfl
  simpa[Loc.off,Sh.off]using VR.bB this
 ·simp[execOp,ho,Instr.alloc,h2,newVar,newRow]
theorem op_box{t:TypeId}{x:Operand}{x':X}{s:Sh}(ho:o.op= .box t x)(h1:cX x=some x')(h:dA C env rows (.box s x') k):bI P n o ρ T env rows a w k:=by
 obtain⟨d,he,hf,hk⟩:=ak h
 obtain⟨g1,g2,_⟩:=(bD h1 he hs hG).cells hf
 have hc:aW (LR ρ w T) (au [d]) (a.eval x).cells.toList:=by simpa[au]using g2
 obtain⟨q1,q2⟩:=hs.FM ⟨s,[d]⟩ (a.eval x).cells t _ rfl (by simpa using g1) (by have:=hc.len;simp at this⊢;omega) hc.K4
 refine⟨_,_,_,_,.pointer (some ⟨w.heap.size,0,none⟩),_,hk,q1,q2,?_,.inl ?_,λ_=>⟨λb hb=> .inl (sO hb),λ_ h=> .inl h⟩⟩
 ·have:=LR.ptr (ρ:=tX ρ rows.length ⟨w.heap.size,s,(a.eval x).cells.size,false⟩) (w:={w with heap:=w.heap.push (.cells (a.eval x).cells t)}) (T:=T) s rows.length [0] ⟨w.heap.size,s,(a.eval x).cells.size,false⟩ (by simp[tX]) rfl
  simpa[Loc.off,Sh.off]using VR.bB this
 ·simp[execOp,ho,Instr.box,newVar,newRow]
theorem JF{t:TypeId}{x y:Operand}{x' y':X}{s:Sh}(ho:o.op= .store t x y)(hsh:sh P t=some s)(h1:cX x=some x')(h2:cX y=some y')(h:dA C env rows (.store s x' y') k):
  ∃d aa v w',k d aa/\eA n ρ T env aa a w'/\Step ρ T rows w ρ T aa w'/\VR ρ w' T d v/\Runs P o a w v w'/\∃r p L,ev C env x'=some (.ptr s r p)/\ρ r=some L/\(∀b,b≠L.b->w'.heap[b]?=w.heap[b]?)/\∃x,aa=rows.set r (some x):=by
 obtain⟨d,he,hk⟩:=ak h
 have hv:=bD h1 he hs hG
 split at hk
 ·rename_i s' r p
  obtain⟨d,uW,k1⟩:=ak hk
  obtain⟨hf,Np,k2⟩:=k1
  subst Np
  obtain⟨row,rn,k3⟩:=ak k2
  obtain⟨els,so,k4⟩:=ak k3
  clear hk k2 k3
  obtain⟨g1,g2,_⟩:=(bD h2 uW hs hG).cells hf
  have hl:LR ρ w T _ _:=hv
  generalize hx:a.eval x=v at hl
  cases hl with
  | ptr _ _ _ L hL hp =>
   have hr:=hs.bw.row r row L rn hL
   obtain⟨cur,t',q1,q2,q3,q4⟩:=hr.cells (Loc.Gf hp)
   cases p with
   |nil=>simp[Loc.at]at hp
   | cons i p =>
    have hmp:=Loc.Gf hp
    rw[Loc.xY hmp,hr.sh]at hp
    obtain⟨m1,m2,m3,pre,old,post,m4,m5,m6,m7⟩:=Eh hr.els hp g1 so
    rw[m4]at q4
    have Gs:=q4.seg
    have nV:L.off (i::p)=pre.length:=by simp[Loc.off,hr.sh,m6]
    have hvl:(a.eval y).cells.toList.length=d.flat.length:=g2.len.symm
    have hfit:L.off (i::p)+0+(a.eval y).cells.toList.length<=cur.size:=by rw[nV,hvl,<-m7];simpa using Gs.2
    have hone:∀v∈(a.eval y).cells.toList,v.oneCell'=true:=by
     intro v hv
     obtain⟨j,hj,rfl⟩:=aa8.1 hv
     exact(g2.at_ j _ _ (aaw (by omega)) (aaw hj)).one
    have hst:=gK P L.b (L.off (i::p)) t' (a.eval y).cells.toList 0 cur w q1 hfit hone
    have my:(au els).length=(pre++(old++post)).length:=by rw[m5];simp[m7]
    have iE:aW (LR ρ w T) (au els) ((cur.toList.take (L.off (i::p)+0)++(a.eval y).cells.toList++cur.toList.drop (L.off (i::p)+0+(a.eval y).cells.toList.length)).take (au els).length):=by
     rw[nV,hvl,<-m7]
     have z1:=q4.take pre.length
     rw[aa3,acR]at z1
     have z2:=q4.drop (pre.length+old.length)
     rw[<-aby,abi,abi,aeA]at z2
     have hle:pre.length+old.length<=cur.toList.length:=Gs.2
     have:((cur.toList.take (pre.length+0)++(a.eval y).cells.toList++cur.toList.drop (pre.length+0+old.length)).take (au els).length)=
       cur.toList.take (min pre.length (pre++(old++post)).length)++((a.eval y).cells.toList++((cur.toList.drop (pre.length+old.length)).take ((pre++(old++post)).length-(pre.length+old.length)))):=by
      rw[aaP,my,adS,adS]
      simp only[adm,aaF]
      have e1:min pre.length cur.toList.length=pre.length:=by omega
      rw[e1]
      simp only[aax]
      rw[acR]
      have e2:min (pre.length+(old.length+post.length)) pre.length=min pre.length (pre.length+(old.length+post.length)):=by omega
      rw[e2]
      congr 1
      have e3:(a.eval y).cells.toList.length=old.length:=by omega
      rw[e3]
      congr 1
      ·rw[aay]
       omega
      ·congr 1
       omega
     rw[this,m5]
     exact z1.append (g2.append z2)
    obtain⟨u1,u2⟩:=hs.write rn hL els cur _ t' hmp q1 (by have hf2:=hfit;simp only[ab4]at hf2;simp only[adw,aax,aaF,aaB,ab4];omega) m1
     (by rw[my];rw[m4]at q3;exact q3) iE
    refine⟨_,_,undef,_,k4,u1,u2,?_,.inr ⟨?_,rfl⟩,r,i::p,L,he,hL,λb hb=>setRow_other w L.b b _ hb,_,rfl⟩
    ·exact⟨#[],rfl,.nil⟩
    ·obtain⟨inf,hi,hsz⟩:=x5 hsh
     have hcs:(a.eval y).cells.size=s'.size:=by rw[<-g1.len];simpa using g2.len.symm
     simp[execOp,ho,hx,Instr.storeAt,Instr.sureAddr,storeVar,sizeOf,typeInfo,hi,hsz,hcs,hst]
 ·exact hk.elim
theorem X7{t:TypeId}{x y:Operand}{x' y':X}{s:Sh}(ho:o.op= .store t x y)(hsh:sh P t=some s)(h1:cX x=some x')(h2:cX y=some y')(h:dA C env rows (.store s x' y') k):bI P n o ρ T env rows a w k:=by
 obtain⟨d,aa,v,w',g1,g2,g3,g4,g5,-⟩:=JF hs hG ho hsh h1 h2 h
 exact⟨d,aa,ρ,T,v,w',g1,g2,g3,g4,g5,λhq=>by rw[ho]at hq;cases hq⟩
end ops
end Go.Am
namespace Go.Am
variable {C:aX} {P:Program} {n:Nat} {ρ:Pl} {T:Nat->Prop} {env:Env} {rows:Rows} {a:Act} {w:World}
theorem El{s:Sh}:∀(fs:List Field) (i:Nat),Gb s i fs=true->∀j f,fs[j]?=some f->f.offset=s.j8 (i+j)
 |[],i,_,j,f,hf=>by simp at hf
 | x :: fs, i, h, j, f, hf => by
  simp[Gb]at h
  cases j with
  |zero=>simp at hf;subst hf;exact h.1
  |succ j=>
   have:=El fs (i+1) h.2 j f (by simpa using hf)
   rw[this];congr 1;omega
theorem ui{s:Sh}:∀(fs:List Field) (i:Nat),AQ P s i fs=true->∀j f,fs[j]?=some f->∃inf e,P.info? f.type=some inf/\s.sub (i+j)=some e/\inf.size=e.size
 |[],i,_,j,f,hf=>by simp at hf
 | x :: fs, i, h, j, f, hf => by
  simp only[AQ,aav]at h
  cases j with
  | zero =>
   simp at hf;subst hf
   have h1:=h.1
   split at h1
   ·rename_i inf e hi he
    exact⟨inf,e,hi,he,by simpa using h1⟩
   ·cases h1
  |succ j=>
   obtain⟨inf,e,h1,h2,h3⟩:=ui fs (i+1) h.2 j f (by simpa using hf)
   exact⟨inf,e,h1,by rw[<-h2];congr 1;omega,h3⟩
theorem run_places:∀(fs:List Field),(∀(j:Nat) (f:Field),fs[j]?=some f->∃inf,P.info? f.type=some inf)->
  ∃ps:List (Nat×Nat),(fs.mapM (λ(f:Field)=>(do pure (f.offset,<-sizeOf f.type):Sem (Nat×Nat)))).run P w= .ok ps w/\ps.length=fs.length/\
   ∀(j:Nat) (f:Field) (inf:TypeInfo),fs[j]?=some f->P.info? f.type=some inf->ps[j]?=some (f.offset,inf.size)
 |[],_=>⟨[],by simp,rfl,by simp⟩
 | x :: fs, h => by
  obtain⟨inf,hi⟩:=h 0 x rfl
  obtain⟨ps,h1,h2,h3⟩:=run_places fs (λj f hf=>h (j+1) f (by simpa using hf))
  refine⟨(x.offset,inf.size)::ps,?_,by simp[h2],λj f inf' hf hi'=>?_⟩
  ·rw[List.mapM_cons]
   simp[sizeOf,typeInfo,hi]at h1⊢
   simp[h1]
  ·cases j with
   |zero=>simp at hf;subst hf;rw[hi]at hi';cases hi';rfl
   |succ j=>simpa using h3 j f inf' (by simpa using hf) hi'
theorem toAgg{s:Sh}{z:D}(h:aL s z)(ha:z.isAgg=true):∃l,z= .agg s l/\XH z=l/\s.isAgg=true:=by
 cases z<;>simp[D.isAgg]at ha
 obtain⟨rfl,h2⟩:=oQ h
 exact⟨_,rfl,rfl,h2⟩
section ops
variable (hs:eA n ρ T env rows a w) (hG:sN C ρ w T) {o:Oper} {k:D->Rows->Prop}
include hs hG
theorem UW{t:TypeId}{parts:Array (Nat×Operand)}{ps:List (Nat×X)}{s:Sh}{z:D}{fs:Array Field}(ho:o.op= .build t parts)(hsh:sh P t=some s)(hz:zero P t=some z)(hu:P.underlying t=some (.struct fs))
  (hp:oO parts.toList=some ps)(hza:z.isAgg=true)(hoffs:Gb s 0 fs.toList=true)(X8:AQ P s 0 fs.toList=true)(hcnt:fs.toList.length=s.count)
  (h:dA C env rows (.build s (XH z) ps) k):bI P n o ρ T env rows a w k:=by
 obtain⟨l',hl,hk⟩:=ak h
 obtain⟨h1,v,h2,h3,h4⟩:=kf hsh hz
 obtain⟨l,rfl,hdz,ha⟩:=toAgg h1 hza
 rw[hdz]at hl
 obtain⟨pl,g1,g2,g3⟩:=run_places (P:=P) (w:=w) fs.toList (λj f hf=>by
  obtain⟨inf,e,q1,_,_⟩:=ui fs.toList 0 X8 j f hf
  exact⟨inf,q1⟩)
 have oR:∀i e,s.sub i=some e->(λj=>pl[j]?) i=some (s.j8 i,e.size):=by
  intro i e he
  have hi:i<fs.toList.length:=by rw[hcnt];exact sub_lt he
  have hf:fs.toList[i]?=some fs.toList[i]:=aaw hi
  obtain⟨inf,e',q1,q2,q3⟩:=ui fs.toList 0 X8 i _ hf
  have:=g3 i _ inf hf q1
  rw[abO]at q2
  rw[he]at q2
  cases q2
  have q4:=El fs.toList 0 hoffs i _ hf
  rw[abO]at q4
  simp only[this,q3,q4]
 have h4':=h4 ρ w T
 simp only[D.flat]at h4'
 obtain⟨cells',f1,f2,f3⟩:=zK hs hG (place:=λj=>pl[j]?) oR ha parts.toList ps l l' v.cells hp hl h1 h4'
 refine .here hs hk (VR.yZ ⟨cells',rfl,f2,f3⟩) ?_
 have hm:(fs.mapM (λ(f:Field)=>(do pure (f.offset,<-sizeOf f.type):Sem (Nat×Nat)))).run P w= .ok pl.toArray w:=by
  rw[ad9]
  simp at g1
  simp[g1]
 have pJ:∀i:Nat,pl.toArray[i]?=pl[i]?:=λi=>by simp
 simp only[bind_pure_comp]at hm
 simp[execOp,ho,Instr.build,h2,run_underlying hu,hm]
 have f1':Instr.fill (λx=>pl[x]?) v.cells (List.map (λx=>(x.1,a.eval x.2)) parts.toList)=some cells':=f1
 simp[f1']
theorem UX{t e:TypeId}{m:Nat}{parts:Array (Nat×Operand)}{ps:List (Nat×X)}{s se:Sh}{z:D}(ho:o.op= .build t parts)(hsh:sh P t=some s)(hz:zero P t=some z)(hu:P.underlying t=some (.array m e))
  (hp:oO parts.toList=some ps)(hza:z.isAgg=true)(hse:sh P e=some se)(gh:s= .ar m se)
  (h:dA C env rows (.build s (XH z) ps) k):bI P n o ρ T env rows a w k:=by
 obtain⟨l',hl,hk⟩:=ak h
 obtain⟨h1,v,h2,h3,h4⟩:=kf hsh hz
 obtain⟨l,rfl,hdz,ha⟩:=toAgg h1 hza
 rw[hdz]at hl
 subst gh
 have h4':=h4 ρ w T
 simp only[D.flat]at h4'
 obtain⟨cells',f1,f2,f3⟩:=zK hs hG (place:=λi=>some (i*se.size,se.size)) (λi e he=>by
  simp only[Sh.sub]at he
  split at he
  ·cases he;rfl
  ·cases he) ha parts.toList ps l l' v.cells hp hl h1 h4'
 refine .here hs hk (VR.yZ ⟨cells',rfl,f2,f3⟩) ?_
 simp[execOp,ho,Instr.build,h2,run_underlying hu,run_sizeOf hse]
 simp[f1]
theorem UY{t e:TypeId}{m:Nat}{parts:Array (Nat×Operand)}{ps:List (Nat×X)}{s:Sh}{z:D}(ho:o.op= .buildSlice t m parts)(hu:P.underlying t=some (.slice e))(hsh:sh P e=some s)(hz:zero P e=some z)
  (hp:oO parts.toList=some ps)(hsz:s.size≠0)(Gt:m*s.size<=16777216)
  (h:dA C env rows (.cP s m z ps) k):bI P n o ρ T env rows a w k:=by
 obtain⟨l',hl,hk⟩:=ak h
 obtain⟨h1,v,h2,h3,h4⟩:=kf hsh hz
 have bN:=uh (w:=w) (ρ:=ρ) (T:=T) h1 h3 (h4 ρ w T) m
 have hagg:aL (.ar m s) (.agg (.ar m s) (List.replicate m z)):=by
  refine .agg _ _ rfl (by simp[Sh.count]) λi e d hi hd=>?_
  simp only[Sh.sub]at hi
  split at hi
  ·cases hi;rw[abI (abR hd)];exact h1
  ·cases hi
 obtain⟨cells',f1,f2,f3⟩:=zK hs hG (s:= .ar m s) (place:=λi=>some (i*s.size,s.size)) (λi e he=>by
  simp only[Sh.sub]at he
  split at he
  ·cases he;rfl
  ·cases he) rfl parts.toList ps (List.replicate m z) l' _ hp hl hagg bN
 obtain⟨l2,Gu,hlen,hsub2⟩:=f2.jl rfl
 cases Gu
 have gJ:∀d∈l',aL s d:=by
  intro d hd
  obtain⟨q,hq,rfl⟩:=aa8.1 hd
  exact hsub2 q s _ (by simp[Sh.sub];simp[Sh.count]at hlen;omega) (aaw hq)
 have jF:=f3.len
 rw[bb gJ]at jF
 simp[Sh.count]at hlen
 obtain⟨q1,q2⟩:=hs.FM ⟨s,l'⟩ cells' e _ rfl gJ (by rw[bb gJ];simp at jF;omega) f3.K4
 refine⟨_,_,_,_,.slice (some ⟨w.heap.size,0,none⟩) m m,_,hk,q1,q2,?_,.inl ?_,λ_=>⟨λb hb=> .inl (sO hb),λ_ h=> .inl h⟩⟩
 ·have:=LR.sl (ρ:=tX ρ rows.length ⟨w.heap.size,s,cells'.size,false⟩) (w:={w with heap:=w.heap.push (.cells cells' e)}) (T:=T) s rows.length [] 0 m true ⟨w.heap.size,s,cells'.size,false⟩ m (by simp[tX]) (aaL _) (λ_=>rfl)
   (.inl ⟨rfl,rfl,rfl,by simp at jF⊢;rw[<-jF,hlen];exact aaL _⟩)
  simpa[Loc.off]using VR.bB this
 ·have hnz:¬(16777216<m*s.size):=by omega
  have hpm:(parts.map λx=>(x.1,a.eval x.2)).toList=parts.toList.map λx=>(x.1,a.eval x.2):=by simp
  simp only[execOp,ho,Instr.buildSlice,Sem.run_bind,run_underlying hu,Result.andThen_ok,run_sizeOf hsh]
  rw[aaE hnz]
  by_cases h0:m*s.size=0
  ·rw[h0]at f1
   rw[aaM h0,h0]
   have e0:∀f:Nat->Value,(Array.range 0).map f=#[]:=λf=>by simp
   rw[e0]at f1
   simp only[Sem.run_bind,Sem.run_pure,Result.andThen_ok,hpm,e0,f1]
   simp[newRow]
  ·rw[aaE h0]
   simp only[Sem.run_bind,h2,Result.andThen_ok,Sem.run_pure,hpm,f1]
   simp[newRow]
end ops
end Go.Am
namespace Go.Am
variable {C:aX} {P:Program} {n:Nat} {ρ:Pl} {T:Nat->Prop} {env:Env} {rows:Rows} {a:Act} {w:World}
theorem x7{x:Int}(h1:-9223372036854775808<=x)(h2:x<=9223372036854775807):IntKind.i64.wrap x=x:=by
 have e1:(2:Int)^IntKind.i64.bits=18446744073709551616:=by decide
 have e2:(2:Int)^(IntKind.i64.bits-1)=9223372036854775808:=by decide
 simp only[IntKind.wrap,e1,e2,IntKind.signed,acz]
 by_cases h:0<=x
 ·rw[adx h (by omega)]
  rw[aaE (by simp;omega)]
 ·have:x %18446744073709551616=x+18446744073709551616:=by omega
  rw[this,aaM (by simp;omega)]
  omega
theorem mI:most=1099511627776:=rfl
theorem Nq{i:TypeInfo}{N:Nat}(h:N*i.bytes<=most){cap:Nat}(hc:cap<N):Builtin.nextslicecap N cap*i.bytes<=281474976710656:=
 growslice_fits hc (by rw[mI]at h;omega)
theorem Fa{α:Type}(z:α){l c:Nat}(h:l<=c):List.replicate c z=List.replicate l z++List.replicate (c-l) z:=by
 rw[ab8]
 congr 1
 omega
theorem CY{argTypes:Array TypeId}{ty t u e:TypeId}{args:Array Value}{base:Option Addr}{sLen sCap m:Nat}{x:Value}{s:Sh}{oe:List Value}
  (h0:argTypes[0]?=some t)(h1:argTypes[1]?=some u)(a0:args[0]?=some (.slice base sLen sCap))(a1:args[1]?=some x)(hu:P.underlying t=some (.slice e))(nv:(∃e',P.underlying u=some (.slice e'))\/P.underlying u=some .string)(hsh:sh P e=some s)(hlen:(Builtin.lenOf x).run P w= .ok m w)(hf:(Builtin.firstCells s.size m x).run P w= .ok oe.toArray w)(hroom:sLen+m<=sCap):
  (Builtin.append_ argTypes ty args).run P w=match base with
   |some ad=>((storeCells (ad.add (sLen*s.size)) oe).run P w).andThen λ_ w'=> .ok (.slice base (sLen+m) sCap) w'
   |none=> .ok (.slice base (sLen+m) sCap) w:=by
 rcases nv with⟨e',nv⟩|nv<;>cases base<;>simp[Builtin.append_,h0,h1,a0,a1,run_underlying hu,run_underlying nv,run_sizeOf hsh,hlen,hroom,hf]
theorem CZ{argTypes:Array TypeId}{ty t u e:TypeId}{args:Array Value}{base:Option Addr}{sLen sCap m:Nat}{x z:Value}{s:Sh}{i:TypeInfo}{oe Fb:List Value}
  (h0:argTypes[0]?=some t)(h1:argTypes[1]?=some u)(a0:args[0]?=some (.slice base sLen sCap))(a1:args[1]?=some x)(hu:P.underlying t=some (.slice e))(nv:(∃e',P.underlying u=some (.slice e'))\/P.underlying u=some .string)(hsh:sh P e=some s)(hi:P.info? e=some i)(hz:∀w,(zeroValue e).run P w= .ok z w)
  (hlen:(Builtin.lenOf x).run P w= .ok m w)(hf:(Builtin.firstCells s.size m x).run P w.drew= .ok oe.toArray w.drew)(ho:(Builtin.firstCells s.size sLen (.slice base sLen sCap)).run P w.drew= .ok Fb.toArray w.drew)
  (hg:sCap<sLen+m)(hb:(sLen+m)*i.bytes<=most)(Gt:sLen+m<=most):
  (Builtin.append_ argTypes ty args).run P w= .ok (.slice (some ⟨w.heap.size,0,none⟩) (sLen+m) (grownCap w (sLen+m) sCap e))
   (w.drew.alloc (.cells (Fb.toArray++oe.toArray++Builtin.zeroCells z.cells (grownCap w (sLen+m) sCap e-(sLen+m))) e)):=by
 have hn:¬(sLen+m<=sCap):=by omega
 have h48:¬(281474976710656<Builtin.nextslicecap (sLen+m) sCap*i.bytes):=by have:=Nq hb hg;omega
 have h63:¬((9223372036854775807:Int)<(sLen:Int)+(m:Int)):=by
  rw[mI]at Gt
  omega
 rcases nv with⟨e',nv⟩|nv<;>simp[Builtin.append_,h0,h1,a0,a1,run_underlying hu,run_underlying nv,run_sizeOf hsh,typeInfo,hi,hlen,hn,h48,h63,Question.forced,hf,ho,hz,newRow,grownCap]<;>(congr 2;apply aca;simp)
theorem C9{argTypes:Array TypeId}{ty t u e:TypeId}{kd kd':IntKind}{args:Array Value}{base:Option Addr}{sLen sCap m:Nat}{z:Value}{s:Sh}{i:TypeInfo}
  (h0:argTypes[0]?=some t)(h1:argTypes[1]?=some u)(a0:args[0]?=some (.slice base sLen sCap))(a1:args[1]?=some (.int kd' m))(hu:P.underlying t=some (.slice e))(nv:P.underlying u=some (.int kd))
  (hsh:sh P e=some s)(hi:P.info? e=some i)(hz:∀w,(zeroValue e).run P w= .ok z w)(hroom:sLen+m<=sCap)(hb:(sLen+m)*i.bytes<=most)(Gt:sLen+m<=most)(hzs:z.cells.size=s.size)(hsz:s.size≠0):
  (Builtin.append_ argTypes ty args).run P w=match base with
   |some ad=>((storeCells (ad.add (sLen*s.size)) (Builtin.zeroCells z.cells m).toList).run P w).andThen λ_ w'=> .ok (.slice base (sLen+m) sCap) w'
   |none=> .ok (.slice base (sLen+m) sCap) w:=by
 have hw:IntKind.i64.wrap (m:Int)=m:=x7 (by omega) (by rw[mI]at Gt;omega)
 have hneg:¬((m:Int)<0):=by omega
 have h48:¬((281474976710656:Int)<(m:Int)*(i.bytes:Int)):=by
  have h2:m*i.bytes<=most:=abg (abH _ (by omega)) hb
  rw[mI]at h2
  have h3:((m*i.bytes:Nat):Int)=(m:Int)*(i.bytes:Int):=by simp
  omega
 by_cases hm:m=0
 ·subst hm
  have hw0:IntKind.i64.wrap (0:Int)=0:=by decide
  cases base<;>simp[Builtin.append_,h0,h1,a0,a1,run_underlying hu,run_underlying nv,run_sizeOf hsh,asInt,asIntOf,typeInfo,hi,hw0,Builtin.zeroCells,storeCells,show sLen<=sCap by omega]
 ·have qW:m*s.size≠0:=Nat.mul_ne_zero hm hsz
  cases base<;>simp[Builtin.append_,h0,h1,a0,a1,run_underlying hu,run_underlying nv,run_sizeOf hsh,asInt,asIntOf,hw,hneg,typeInfo,hi,h48,hroom,qW,hz]
theorem Da{argTypes:Array TypeId}{ty t u e:TypeId}{kd kd':IntKind}{args:Array Value}{base:Option Addr}{sLen sCap m:Nat}{z:Value}{s:Sh}{i:TypeInfo}{Fb:List Value}
  (h0:argTypes[0]?=some t)(h1:argTypes[1]?=some u)(a0:args[0]?=some (.slice base sLen sCap))(a1:args[1]?=some (.int kd' m))(hu:P.underlying t=some (.slice e))(nv:P.underlying u=some (.int kd))
  (hsh:sh P e=some s)(hi:P.info? e=some i)(hz:∀w,(zeroValue e).run P w= .ok z w)(ho:(Builtin.firstCells s.size sLen (.slice base sLen sCap)).run P w.drew= .ok Fb.toArray w.drew)
  (hg:sCap<sLen+m)(hb:(sLen+m)*i.bytes<=most)(Gt:sLen+m<=most)(hzs:z.cells.size=s.size)(hsz:s.size≠0)(hm:m≠0):
  (Builtin.append_ argTypes ty args).run P w= .ok (.slice (some ⟨w.heap.size,0,none⟩) (sLen+m) (grownCap w (sLen+m) sCap e))
   (w.drew.alloc (.cells (Fb.toArray++Builtin.zeroCells z.cells m++Builtin.zeroCells z.cells (grownCap w (sLen+m) sCap e-(sLen+m))) e)):=by
 have hw:IntKind.i64.wrap (m:Int)=m:=x7 (by omega) (by rw[mI]at Gt;omega)
 have hneg:¬((m:Int)<0):=by omega
 have h48:¬((281474976710656:Int)<(m:Int)*(i.bytes:Int)):=by
  have h2:m*i.bytes<=most:=abg (abH _ (by omega)) hb
  rw[mI]at h2
  have h3:((m*i.bytes:Nat):Int)=(m:Int)*(i.bytes:Int):=by simp
  omega
 have hn:¬(sLen+m<=sCap):=by omega
 have h48':¬(281474976710656<Builtin.nextslicecap (sLen+m) sCap*i.bytes):=by have:=Nq hb hg;omega
 have h63:¬((9223372036854775807:Int)<(sLen:Int)+(m:Int)):=by
  rw[mI]at Gt
  omega
 have qW:m*s.size≠0:=Nat.mul_ne_zero hm hsz
 simp[Builtin.append_,h0,h1,a0,a1,run_underlying hu,run_underlying nv,run_sizeOf hsh,asInt,asIntOf,hw,hneg,typeInfo,hi,h48,hn,h48',h63,qW,hz,Question.forced,ho,newRow,grownCap]
structure Qe (P:Program) (w:World) (e:TypeId) (s:Sh) (z:Value) (base:Option Addr) (sLen sCap m:Nat) (Fb oe:List Value) (R:Result Value):Prop where
 room:sLen+m<=sCap->R=match base with
   |some ad=>((storeCells (ad.add (sLen*s.size)) oe).run P w).andThen λ_ w'=> .ok (.slice base (sLen+m) sCap) w'
   |none=> .ok (.slice base (sLen+m) sCap) w
 grow:sCap<sLen+m->R= .ok (.slice (some ⟨w.heap.size,0,none⟩) (sLen+m) (grownCap w (sLen+m) sCap e))
   (w.drew.alloc (.cells (Fb.toArray++oe.toArray++Builtin.zeroCells z.cells (grownCap w (sLen+m) sCap e-(sLen+m))) e))
theorem eA.ghost{n:Nat}(h:eA n ρ T env rows a w)(row:Row):eA n ρ T env (rows++[some row]) a w/\Step ρ T rows w ρ T (rows++[some row]) w:=by
 have hk:∀r row' L,live (rows++[some row]) r=some row'->ρ r=some L->live rows r=some row':=by
  intro r row' L hl hL
  rcases rq hl with⟨rfl,_⟩|⟨_,h2⟩
  ·rw[h.vM rows.length (aaL _)]at hL;cases hL
  ·exact h2
 refine⟨⟨⟨λr row' L h1 h2=>h.bw.row r row' L (hk _ _ _ h1 h2) h2,λr1 r2 E8 oP L1 L2 h1 h2 h3 h4=>h.bw.jQ r1 r2 E8 oP L1 L2 (hk _ _ _ h1 h3) (hk _ _ _ h2 h4) h3 h4⟩,h.env,h.size,h.vL,
  λr' tY=>h.vM r' (by simp at tY;omega),h.defers⟩,?_⟩
 exact⟨λ_ _ h=>h,λ_ h=>h,λ_ h=> .inl h,aaL _,λ_ _ _=>rfl,λr' row' L h1 h2=> .inl ⟨r',row',L,hk _ _ _ h1 h2,h2,rfl⟩,rfl,rfl,rfl,by simp,λ_ _=>rfl⟩
theorem eA.killD(h:eA n ρ T env rows a w)(d:D):eA n ρ T env (Am.kill rows d) a w/\Step ρ T rows w ρ T (Am.kill rows d) w/\(Am.kill rows d).length=rows.length:=by
 cases d with
 |sl s r p o l e=>
  obtain⟨h1,h2⟩:=h.kill r
  exact⟨h1,h2,by simp[Am.kill]⟩
 | _=>exact⟨h,Step.refl _ _ _ _,rfl⟩
theorem Nr(hs:eA n ρ T env rows a w){s:Sh}{e:TypeId}{z:Value}{sLen sCap:Nat}{old news:List D}{Fb oe:List Value}(hold:∀d∈old,aL s d)(iE:∀d∈news,aL s d)(hl:old.length=sLen)
  (ho:aW (LR ρ w T) (au old) Fb)(hn:aW (LR ρ w T) (au news) oe)(hzs:z.cells.size=s.size){k:D->Rows->Prop}(da:D):
  ∃ρ',eA n ρ' T env (rows++[some ⟨s,old++news⟩]) a (w.drew.alloc (.cells (Fb.toArray++oe.toArray++Builtin.zeroCells z.cells (grownCap w (sLen+news.length) sCap e-(sLen+news.length))) e))/\
   Step ρ T rows w ρ' T (rows++[some ⟨s,old++news⟩]) (w.drew.alloc (.cells (Fb.toArray++oe.toArray++Builtin.zeroCells z.cells (grownCap w (sLen+news.length) sCap e-(sLen+news.length))) e))/\
   ∀w',LR ρ' w' T (.sl s rows.length [] 0 (sLen+news.length) false) (.slice (some ⟨w.heap.size,0,none⟩) (sLen+news.length) (grownCap w (sLen+news.length) sCap e)):=by
 have hcap:=grownCap_ge w (sLen+news.length) sCap e
 generalize hc:grownCap w (sLen+news.length) sCap e=cap at hcap⊢
 generalize P7:(Fb.toArray++oe.toArray++Builtin.zeroCells z.cells (cap-(sLen+news.length)))=cur
 have bN:∀d∈old++news,aL s d:=by
  intro d hd
  rcases aaU.1 hd with h|h
  ·exact hold d h
  ·exact iE d h
 have h1:aW (LR ρ w T) (au (old++news)) (Fb++oe):=by rw[dJ];exact ho.append hn
 have jF:cur.toList=(Fb++oe)++(Builtin.zeroCells z.cells (cap-(sLen+news.length))).toList:=by rw[<-P7];simp
 have my:(au (old++news)).length=(sLen+news.length)*s.size:=by rw[bb bN,aax,hl]
 have hsz:cur.size=cap*s.size:=by
  have:cur.size=cur.toList.length:=by simp
  rw[this,jF,aax,<-h1.len,my]
  have:(Builtin.zeroCells z.cells (cap-(sLen+news.length))).toList.length=(cap-(sLen+news.length))*s.size:=by simp[Builtin.zeroCells,hzs]
  rw[this,<-adI]
  congr 1
  omega
 obtain⟨g1,g2⟩:=(hs.heap (w':=w.drew) rfl).push (w':=w.drew.alloc (.cells cur e)) ⟨s,old++news⟩ cur e rfl rfl rfl rfl bN (by rw[my,hsz];exact abH _ hcap) (by
  rw[jF,h1.len,aa3]
  exact h1.mono λa b h=>h.mono (λ_ _ h=>h) (λ_ _=>rfl) (λ_ h=>h))
 refine⟨_,g1,?_,λw'=>?_⟩
 ·exact⟨g2.pl,g2.tt,g2.vK,g2.size,g2.keep,g2.fresh,g2.os,g2.tape,g2.output,g2.len,g2.same⟩
 ·have:=LR.sl (ρ:=tX ρ rows.length ⟨w.drew.heap.size,s,cur.size,false⟩) (w:=w') (T:=T) s rows.length [] 0 (sLen+news.length) false ⟨w.drew.heap.size,s,cur.size,false⟩ cap (by simp[tX]) hcap (by simp)
   (.inl ⟨rfl,rfl,rfl,by simp[hsz]⟩)
  simpa[Loc.off]using this
theorem X9{α:Type}(l m r:List α)(N:Nat)(h:N=l.length+m.length):(l++m++r).take N=l++m:=by
 subst h
 rw[<-aax,aa3]
theorem JG (hs : eA n ρ T env rows a w) {s : Sh} {e : TypeId} {z : Value} {bytes sLen sCap : Nat} {base : Option Addr} {da : D} {old news : List D} {Fb oe : List Value} {k : D -> Rows -> Prop} {R : Result Value}
  (h:wj rows s bytes da news k)(he:elems rows da=some old)(Ns:dP da=some sLen)(hv:LR ρ w T da (.slice base sLen sCap))(hH:JA rows ρ w T s old (.slice base sLen sCap) sLen base sCap Fb)
  (iE:∀d∈news,aL s d)(hn:aW (LR ρ w T) (au news) oe)(hzs:z.cells.size=s.size)(hR:Qe P w e s z base sLen sCap news.length Fb oe R):
  ∃d aa ρ' T' v w',k d aa/\eA n ρ' T' env aa a w'/\Step ρ T rows w ρ' T' aa w'/\VR ρ' w' T' d v/\R= .ok v w':=by
 obtain⟨old',he',h⟩:=ak h
 rw[he]at he'
 cases he'
 obtain⟨N,hN,hsh,hlen,hb,hmo,hk⟩:=ak h
 rw[Ns]at hN
 cases hN
 by_cases hg:sCap<sLen+news.length
 · -- it grows
  have SZ:=hR.grow hg
  cases hown:(isNil da||owned da)with
  |true=>
   simp[hown]at hk
   obtain⟨g1,g2,g3⟩:=hs.killD da
   obtain⟨ρ',q1,q2,q3⟩:=Nr g1 (e:=e) (sCap:=sCap) (k:=k) hH.els iE hlen hH.hcs hn hzs da
   rw[g3]at q3
   exact⟨_,_,ρ',T,_,_,hk,q1,g2.trans q2,VR.bB (q3 _),SZ⟩
  | false =>
   simp[hown]at hk
   obtain⟨hex,Ta,hk1⟩:=hk
   by_cases hm:news.length=0
   ·exfalso
    have:=hH.hcap
    omega
   ·have Qc:=hk1 (by intro e;apply hm;rw[e];rfl)
    obtain⟨ρ',q1,q2,q3⟩:=Nr hs (e:=e) (sCap:=sCap) (k:=k) hH.els iE hlen hH.hcs hn hzs da
    exact⟨_,_,ρ',T,_,_,Qc,q1,q2,VR.bB (q3 _),SZ⟩
 ·have hroom : sLen + news.length <= sCap := by omega
  have SZ:=hR.room hroom
  have hncs:oe.length=news.length*s.size:=by rw[<-hn.len,bb iE]
  cases hown:(isNil da||owned da)with
  | false =>
   simp[hown]at hk
   obtain⟨hex,Ta,hk1⟩:=hk
   have hm:news.length=0:=by
    cases hv with
    |raw v hv=>simp[exact]at hex
    |AE=>omega
    |sl _ _ _ _ _ _ _ _ _ _ c2 _=>simp[exact]at hex;have:=c2 hex;omega
    |pq _ _ _ _ c1 _=>simp[exact]at hex;have:=c1 hex;omega
    |cD _ _ _ _ _ _ _ _ _ _ _ _ c5=>simp[exact]at hex;have:=c5 hex;omega
   have hnn:news=[]:=aaN hm
   have hnc:oe=[]:=aaN (by rw[hncs,hm];simp)
   subst hnn
   subst hnc
   refine⟨da,rows,ρ,T,.slice base sLen sCap,w,Ta rfl,hs,Step.refl _ _ _ _,VR.bB hv,?_⟩
   rw[SZ]
   cases base<;>simp[storeCells]
  | true =>
   simp[hown]at hk
   by_cases hz:sCap=0
   · --nothing at all
    have hm:news.length=0:=by omega
    have AW:sLen=0:=by omega
    have hnn:news=[]:=aaN hm
    have hnc:oe=[]:=aaN (by rw[hncs,hm];simp)
    subst hnn hnc AW hz
    obtain⟨g1,g2,g3⟩:=hs.killD da
    obtain⟨q1,q2⟩:=g1.ghost ⟨s,old++[]⟩
    refine⟨_,_,ρ,T,.slice base 0 0,w,hk,q1,g2.trans q2,VR.bB (.AE _ _ _ _ _ _),?_⟩
    rw[SZ]
    cases base<;>simp[storeCells]
   · -- a row of ours, in place
    cases hv with
    |raw v hv=>
     simp[owned]at hown
     unfold isNil at hown
     split at hown
     ·rename_i hh;cases hh;omega
     ·cases hown
    |AE=>omega
    |pq=>simp[isNil,owned]at hown
    |cD=>simp[isNil,owned]at hown
    | sl _ r p off _ ex L _ hL c1 c2 c3 =>
     have hp:p=[]/\off=0:=by
      cases p<;>cases off<;>simp_all[isNil,owned]
     obtain⟨rfl,rfl⟩:=hp
     rcases c3 with⟨_,hsL,hmp,hcap⟩|⟨m,hm,_⟩
     ·simp[fh]at hsh
      subst hsh
      simp only[elems]at he
      cases hl:live rows r with
      |none=>simp[hl]at he
      | some row =>
       simp[hl]at he
       have hr:=hs.bw.row r row L hl hL
       obtain⟨cur,t,m1,m2,m3,m4⟩:=hr.cells hmp
       have hsrow:s=row.sh:=by rw[hsL,hr.sh]
       subst hsrow
       simp only[Loc.off,Nat.zero_mul,abO,mG]at SZ hcap
       have hone:∀v∈oe,v.oneCell'=true:=by
        intro v hv
        obtain⟨j,hj,rfl⟩:=aa8.1 hv
        exact(hn.at_ j _ _ (aaw (by rw[hn.len];exact hj)) (aaw hj)).one
       have hfit:sLen*row.sh.size+0+oe.length<=cur.size:=by
        rw[hncs,adm,<-adI]
        exact abg (abH _ hroom) (by omega)
       have hst:=gK P L.b (sLen*row.sh.size) t oe 0 cur w m1 hfit hone
       have bN:∀d∈old++news,aL row.sh d:=by
        intro d hd
        rcases aaU.1 hd with h|h
        ·exact hH.els d h
        ·exact iE d h
       have my:(au (old++news)).length=(sLen+news.length)*row.sh.size:=by rw[bb bN,aax,hlen]
       have Nt:Fb.length=sLen*row.sh.size:=hH.Gm
       have hoc:cur.toList.take (sLen*row.sh.size)=Fb:=by
        apply ack
        intro j
        rw[abA]
        by_cases hj:j<sLen*row.sh.size
        ·rw[aaM hj]
         have mJ:Fb[j]?=some Fb[j]:=aaw (by omega)
         obtain⟨b,o',px,JH⟩:=hH.at_ j _ mJ
         cases px
         rw[mJ,<-JH,cell_of_row w L.b _ cur t m1.choose m1.choose_spec.1]
         simp[Loc.off]
        ·rw[aaE hj,abk (by omega)]
       have hnewc:aW (LR ρ w T) (au (old++news)) ((cur.toList.take (sLen*row.sh.size+0)++oe++cur.toList.drop (sLen*row.sh.size+0+oe.length)).take (au (old++news)).length):=by
        rw[X9 _ _ _ _ (by rw[my,adm,hoc,Nt,hncs,adI]),adm,hoc,dJ]
        exact hH.hcs.append hn
       obtain⟨u1,u2⟩:=hs.move hl hL (old++news) cur (cur.toList.take (sLen*row.sh.size+0)++oe++cur.toList.drop (sLen*row.sh.size+0+oe.length)).toArray t hmp m1
        (by simp only[adw,aax,aaF,aaB,ab4];omega) bN
        (by rw[my];exact abg (abH _ hroom) hcap) hnewc
       refine⟨_,_,_,T,.slice (some ⟨L.b,0,none⟩) (sLen+news.length) sCap,_,hk,u1,u2,?_,?_⟩
       ·have:=LR.sl (ρ:=tX ρ rows.length L) (w:=w.setRow L.b (cur.toList.take (sLen*row.sh.size+0)++oe++cur.toList.drop (sLen*row.sh.size+0+oe.length)).toArray) (T:=T) row.sh rows.length [] 0 (sLen+news.length) false L sCap (by simp[tX]) hroom (by simp)
         (.inl ⟨rfl,hsL,hmp,by simpa using hcap⟩)
        simpa[Loc.off]using VR.bB this
       ·rw[SZ,hst]
        simp
     ·simp[Loc.at]at hm
end Go.Am
namespace Go.Am
variable {C:aX} {P:Program} {n:Nat} {ρ:Pl} {T:Nat->Prop} {env:Env} {rows:Rows} {a:Act} {w:World}
theorem uj{d:D}{l:List D}(h:elems rows d=some l):d.eN=true:=by
 cases d<;>simp_all[elems,D.eN]
 split at h<;>simp_all[Value.oneCell']
theorem Em(b:ByteArray):(∀d∈ofBytes b,aL (.leaf v5) d)/\aW (LR ρ w T) (au (ofBytes b)) (b.data.toList.map λx=>Value.int .u8 x.toNat):=by
 unfold ofBytes
 generalize b.data.toList=l
 induction l with
 |nil=>exact⟨by simp,.nil⟩
 | cons x l ih =>
  refine⟨λd hd=>?_,?_⟩
  ·simp only[abw,aaW]at hd
   rcases hd with h|h
   ·rw[h];exact .leaf _ _ rfl
   ·exact ih.1 d h
  ·simp only[abw,au,D.flat,List.singleton_append]
   exact .cons (.raw _ rfl) ih.2
structure Src (ρ:Pl) (w:World) (T:Nat->Prop) (P:Program) (s:Sh) (news:List D) (v:Value) (oe:List Value):Prop where
 els:∀d∈news,aL s d
 cs:aW (LR ρ w T) (au news) oe
 len:∀w',(Builtin.lenOf v).run P w'= .ok news.length w'
 first:∀w',w'.heap=w.heap->∀m,m<=news.length->(Builtin.firstCells s.size m v).run P w'= .ok (oe.take (m*s.size)).toArray w'
theorem JI(hs:eA n ρ T env rows a w){s:Sh}{d:D}{v:Value}{news:List D}(hv:VR ρ w T d v)(h:rk rows s d=some news)(hlen:∀k,dP d=some k->news.length=k):∃oe,Src ρ w T P s news v oe:=by
 unfold rk at h
 split at h
 ·rename_i b
  obtain⟨h1,h2⟩:=Gq h
  have j7:s= .leaf v5:=by simpa using h1
  subst j7;subst h2
  have:=VR.ofRaw hv
  subst this
  obtain⟨g1,g2⟩:=Em (ρ:=ρ) (w:=w) (T:=T) b
  refine⟨_,g1,g2,λw'=>by simp[Builtin.lenOf,ofBytes],λw' hw m hm=>?_⟩
  simp only[Builtin.firstCells,Sem.run_pure,Sh.size,aeB]
  congr 1
  apply aca
  simp[ByteArray.data_extract,List.map_take,List.extract]
 ·cases hsh:fh s d with
  |false=>simp[hsh]at h
  | true =>
   simp[hsh]at h
   cases hk:dP d with
   |none=>
    cases d<;>simp[elems,dP]at h hk
    split at h<;>simp_all
   |some k=>
    obtain⟨ad,cap,cs,hH⟩:=hs.bw.holds (hv.AS (uj h)) h hk (hlen k hk) hsh
    have hl:=hlen k hk
    refine⟨cs,hH.els,hH.hcs,λw'=>by rw[hH.hv];simp[Builtin.lenOf,hl],λw' hw m hm=>hH.first hw m (by omega)⟩
theorem Src.Gm{s:Sh}{news:List D}{v:Value}{oe:List Value}(h:Src ρ w T P s news v oe):oe.length=news.length*s.size:=by rw[<-h.cs.len,bb h.els]
theorem aW.write{α β:Type}{R:α->β->Prop}{A M B M':List α}{cur cs:List β}{N:Nat}(h:aW R (A++(M++B)) (cur.take N))(hN:N=(A++(M++B)).length)(hM:aW R M' cs)(hl:M'.length=M.length):
  aW R (A++(M'++B)) ((cur.take A.length++cs++cur.drop (A.length+cs.length)).take (A++(M'++B)).length):=by
 have Gs:=h.seg
 have hcs:cs.length=M.length:=by rw[<-hM.len,hl]
 have z1:=h.take A.length
 rw[aa3,acR]at z1
 have z2:=h.drop (A.length+M.length)
 rw[<-aby,abi,abi,aeA]at z2
 have e0:(A++(M'++B)).length=N:=by rw[hN];simp[hl]
 rw[e0]
 have:((cur.take A.length++cs++cur.drop (A.length+cs.length)).take N)=cur.take (min A.length N)++(cs++((cur.drop (A.length+M.length)).take (N-(A.length+M.length)))):=by
  have hNl:N=A.length+(M.length+B.length):=by rw[hN];simp
  rw[aaP,adS,adS]
  simp only[aaF]
  have e1:min A.length cur.length=A.length:=by omega
  rw[e1,acR]
  have e2:min N A.length=min A.length N:=by omega
  rw[e2]
  congr 1
  rw[hcs]
  congr 1
  ·rw[aay]
   omega
  ·congr 1
   omega
 rw[this]
 exact z1.append (hM.append z2)
theorem AX{s:Sh}{l xs:List D}{off:Nat}(h:off+xs.length<=l.length):
  au l=au (l.take off)++(au ((l.drop off).take xs.length)++au (l.drop (off+xs.length)))/\au (a7 l off xs)=au (l.take off)++(au xs++au (l.drop (off+xs.length))):=by
 refine⟨?_,by simp[a7,dJ]⟩
 rw[<-dJ,<-dJ]
 congr 1
 have:(l.drop off).take xs.length++l.drop (off+xs.length)=l.drop off:=by rw[<-aby,abq]
 rw[this,abq]
theorem zM{s:Sh}{l xs:List D}{off:Nat}(h:∀d∈l,aL s d)(hx:∀d∈xs,aL s d):∀d∈a7 l off xs,aL s d:=by
 intro d hd
 simp only[a7,aaU]at hd
 rcases hd with(h1|h1)|h1
 ·exact h d (aa5 h1)
 ·exact hx d h1
 ·exact h d (ab9 h1)
theorem zN{l xs:List D}{off:Nat}(h:off+xs.length<=l.length):(a7 l off xs).length=l.length:=by
 simp[a7];omega
theorem Nu{r:Nat}{row:Row}(h:live rows r=some row):rows[r]?=some (some row):=by
 unfold live at h
 split at h
 ·rename_i hh;rw[hh,abe h]
 ·cases h
theorem AY{α:Type}{l:List α}{i:Nat}{x:α}(h:l[i]?=some x):l.set i x=l:=by
 apply ack
 intro j
 rw[ac5]
 split
 ·rename_i e;subst e
  rw[aaM (cU h),h]
 ·rfl
theorem uX{α β γ:Type}(r:Result α)(f:α->World->Result β)(g:β->World->Result γ):(r.andThen f).andThen g=r.andThen λa w=>(f a w).andThen g:=by
 cases r<;>rfl
section ops
variable (hs:eA n ρ T env rows a w) (hG:sN C ρ w T) {o:Oper} {k:D->Rows->Prop}
include hs hG
omit hs hG in
theorem py{d:D}{aa:Rows}{ρ':Pl}{T':Nat->Prop}{v:Value}{w':World}(hk:k d aa)(g1:eA n ρ' T' env aa a w')(g2:Step ρ T rows w ρ' T' aa w')(hv:VR ρ' w' T' d v)(hq:gz o.op=true->QH ρ rows w w'/\∀b,T' b->T b\/w.heap.size<=b)(hr:(execOp a.eval o).run P w= .ok (.value v) w'):
  bI P n o ρ T env rows a w k:=⟨d,aa,ρ',T',v,w',hk,g1,g2,hv,.inl hr,hq⟩
theorem op_mks{t e:TypeId}{l c:Operand}{l' c':X}{s:Sh}{z:D}(ho:o.op= .makeSlice t l c)(hu:P.underlying t=some (.slice e))(hsh:sh P e=some s)(hz:zero P e=some z)(h1:cX l=some l')(h2:cX c=some c')
  (h:dA C env rows (.mks s (nU P e) z l' c') k):bI P n o ρ T env rows a w k:=by
 obtain⟨d,he,hk⟩:=ak h
 split at hk
 ·rename_i kl L
  obtain⟨d2,uW,Qc⟩:=ak hk
  clear hk
  split at Qc
  ·rename_i kc Cp
   have hx:=eP h1 he hs hG
   have hy:=eP h2 uW hs hG
   obtain⟨b1,b2,b3,b4,hk⟩:=Qc
   obtain⟨g1,v,g2,g3,g4⟩:=kf hsh hz
   obtain⟨i,hi,hsz⟩:=x5 hsh
   have hby:nU P e=i.bytes:=by simp[nU,hi]
   rw[hby]at b3
   rw[mI]at b3 b4
   have w1:IntKind.i64.wrap L=L:=x7 (by omega) (by omega)
   have w2:IntKind.i64.wrap Cp=Cp:=x7 (by omega) (by omega)
   obtain⟨l0,rfl⟩:=aaO b1
   obtain⟨c0,rfl⟩:=aaO (Int.le_trans b1 b2)
   have hlc:l0<=c0:=by omega
   have bN:=uh (w:=w) (ρ:=ρ) (T:=T) g1 g3 (g4 ρ w T) c0
   have hrep:∀d∈List.replicate l0 z,aL s d:=λd hd=>(abI hd)▸g1
   have my:(au (List.replicate l0 z)).length=l0*s.size:=by rw[bb hrep,aaV]
   have hfc:(au (List.replicate c0 z)).length=c0*s.size:=by rw[bb (s:=s) (λd hd=>(abI hd)▸g1),aaV]
   have hpre:aW (LR ρ w T) (au (List.replicate l0 z)) (((Array.range (c0*s.size)).map (v.cells[· %v.cells.size]!)).toList.take (au (List.replicate l0 z)).length):=by
    have h5:=bN.take (au (List.replicate l0 z)).length
    rw[Fa z hlc,dJ,aa3]at h5
    exact h5
   obtain⟨q1,q2⟩:=hs.FM ⟨s,List.replicate l0 z⟩ ((Array.range (c0*s.size)).map (v.cells[· %v.cells.size]!)) e _ rfl hrep (by rw[my];simp;exact abH _ hlc) hpre
   refine py (v:= .slice (some ⟨w.heap.size,0,none⟩) l0 c0) hk q1 q2 ?_ (λ_=>⟨λb hb=> .inl (sO hb),λ_ h=> .inl h⟩) ?_
   ·have:=LR.sl (ρ:=tX ρ rows.length ⟨w.heap.size,s,((Array.range (c0*s.size)).map (v.cells[· %v.cells.size]!)).size,false⟩) (w:={w with heap:=w.heap.push (.cells ((Array.range (c0*s.size)).map (v.cells[· %v.cells.size]!)) e)}) (T:=T) s rows.length [] 0 l0 (decide ((l0:Int)=c0)) ⟨w.heap.size,s,((Array.range (c0*s.size)).map (v.cells[· %v.cells.size]!)).size,false⟩ c0 (by simp[tX]) hlc (by simp;omega)
     (.inl ⟨rfl,rfl,rfl,by simp⟩)
    simpa[Loc.off]using VR.bB this
   ·have n1:¬((c0:Int)<0):=by omega
    have n2:¬((281474976710656:Int)<(i.bytes:Int)*(c0:Int)):=by rw[Int.mul_comm];omega
    have n3:¬(c0<l0):=by omega
    have n4:¬((l0:Int)<0):=by omega
    simp only[execOp,ho,Instr.makeSlice,hx,hy,Sem.run_bind,run_underlying hu,Result.andThen_ok,asInt,asIntOf,Sem.run_pure,typeInfo,run_program,hi,w1,w2]
    by_cases h0:c0*s.size=0
    ·have e0:∀f g:Nat->Value,(Array.range 0).map f=(Array.range 0).map g:=λf g=>by simp
     simp[n1,n2,n3,n4,sizeOf,typeInfo,hi,hsz,h0,newRow]
     rw[e0]
    ·simp[n1,n2,n3,n4,sizeOf,typeInfo,hi,hsz,h0,newRow,g2]
  ·exact Qc.elim
 ·exact hk.elim
omit hs hG in
theorem Gv{c:Call}{x y:Operand}(hc:c.args.toList=[x,y]){t u:TypeId}(ht:c.argTypes.toList=[t,u]):
  c.argTypes[0]?=some t/\c.argTypes[1]?=some u/\(c.args.map a.eval)[0]?=some (a.eval x)/\(c.args.map a.eval)[1]?=some (a.eval y):=by
 have h1:c.argTypes=#[t,u]:=by apply aca;simpa using ht
 have h2:c.args=#[x,y]:=by apply aca;simpa using hc
 rw[h1,h2]
 simp
theorem JJ{c:Call}{x y:Operand}{x' y':X}{t u e:TypeId}{s:Sh}{z:D}(ho:o.op= .call c)(hc:c.callee= .builtin .append)(hargs:c.args.toList=[x,y])(zO:c.argTypes.toList=[t,u])(hu:P.underlying t=some (.slice e))
  (nv:(∃e',P.underlying u=some (.slice e'))\/P.underlying u=some .string)(hsh:sh P e=some s)(hz:zero P e=some z)(h1:cX x=some x')(h2:cX y=some y')
  (h:dA C env rows (.append s (nU P e) x' y') k):bI P n o ρ T env rows a w k:=by
 obtain⟨da,he,k1⟩:=ak h
 obtain⟨db,uW,k2⟩:=ak k1
 obtain⟨news,hn,hk⟩:=ak k2
 clear k1 k2
 obtain⟨hlb,hk⟩:=hk
 have Ya:=bD h1 he hs hG
 have hvb:=bD h2 uW hs hG
 obtain⟨oe,hsrc⟩:=JI (P:=P) hs hvb hn hlb
 obtain⟨old,hold,k1⟩:=ak hk
 obtain⟨N,hN,k2⟩:=ak k1
 obtain⟨Np,hlen,hb,hmo,_⟩:=k2
 have E9:=Ya.AS (uj hold)
 obtain⟨ad,cap,Fb,hH⟩:=hs.bw.holds E9 hold hN hlen Np
 obtain⟨g1,v,g2,g3,g4⟩:=kf hsh hz
 obtain⟨i,hi,hsz⟩:=x5 hsh
 have hby:nU P e=i.bytes:=by simp[nU,hi]
 obtain⟨a0,a1,a2,a3⟩:=Gv (a:=a) hargs zO
 rw[hH.hv]at a2 E9
 have hH':=hH
 rw[hH.hv]at hH'
 have hR:Qe P w e s v ad N cap news.length Fb oe ((Builtin.append_ c.argTypes o.type (c.args.map a.eval)).run P w):=by
  refine⟨λhroom=>?_,λhg=>?_⟩
  ·have hf:=hsrc.first w rfl news.length (aaL _)
   rw[<-hsrc.Gm,aa6]at hf
   exact CY a0 a1 a2 a3 hu nv hsh (hsrc.len w) hf hroom
  ·have hf:=hsrc.first w.drew rfl news.length (aaL _)
   rw[<-hsrc.Gm,aa6]at hf
   have hfo:=hH'.first (P:=P) (w':=w.drew) rfl N (aaL _)
   rw[<-hH'.Gm,aa6]at hfo
   exact CZ a0 a1 a2 a3 hu nv hsh hi g2 (hsrc.len w) hf hfo hg (by rw[<-hby];exact hb) hmo
 obtain⟨d,aa,ρ',T',v',w',m1,m2,m3,m4,m5⟩:=JG hs hk hold hN E9 hH' hsrc.els hsrc.cs g3 hR
 refine py m1 m2 m3 m4 (λhq=>by rw[ho]at hq;simp[gz,hc]at hq) ?_
 rw[ia ho hc]
 simp[builtin,m5]
theorem Qf{c:Call}{x y:Operand}{x' y':X}{t u e:TypeId}{s:Sh}{z:D}{kd:IntKind}(ho:o.op= .call c)(hc:c.callee= .builtin .append)(hargs:c.args.toList=[x,y])(zO:c.argTypes.toList=[t,u])(hu:P.underlying t=some (.slice e))
  (nv:P.underlying u=some (.int kd))(hsh:sh P e=some s)(hz:zero P e=some z)(hsz0:s.size≠0)(h1:cX x=some x')(h2:cX y=some y')
  (h:dA C env rows (.uf s (nU P e) z x' y') k):bI P n o ρ T env rows a w k:=by
 obtain⟨da,he,k1⟩:=ak h
 obtain⟨db,uW,k2⟩:=ak k1
 clear k1
 split at k2
 ·rename_i kd' M
  obtain⟨hM,hk⟩:=k2
  have Ya:=bD h1 he hs hG
  have hy:=eP h2 uW hs hG
  obtain⟨m,rfl⟩:=aaO hM
  simp only[Int.ofNat_eq_natCast,aaK]at hk hy
  obtain⟨old,hold,k1⟩:=ak hk
  obtain⟨N,hN,k2⟩:=ak k1
  obtain⟨Np,hlen,hb,hmo,_⟩:=k2
  have E9:=Ya.AS (uj hold)
  obtain⟨ad,cap,Fb,hH⟩:=hs.bw.holds E9 hold hN hlen Np
  obtain⟨g1,v,g2,g3,g4⟩:=kf hsh hz
  obtain⟨i,hi,hsz⟩:=x5 hsh
  have hby:nU P e=i.bytes:=by simp[nU,hi]
  obtain⟨a0,a1,a2,a3⟩:=Gv (a:=a) hargs zO
  rw[hH.hv]at a2 E9
  rw[hy]at a3
  have hH':=hH
  rw[hH.hv]at hH'
  simp only[aaV]at hb hmo
  rw[hby]at hb
  have hR:Qe P w e s v ad N cap (List.replicate m z).length Fb (Builtin.zeroCells v.cells m).toList ((Builtin.append_ c.argTypes o.type (c.args.map a.eval)).run P w):=by
   refine⟨λhroom=>?_,λhg=>?_⟩
   ·simp only[aaV]at hroom⊢
    exact C9 a0 a1 a2 a3 hu nv hsh hi g2 hroom hb hmo g3 hsz0
   ·simp only[aaV]at hg⊢
    have hfo:=hH'.first (P:=P) (w':=w.drew) rfl N (aaL _)
    rw[<-hH'.Gm,aa6]at hfo
    have:=Da (ty:=o.type) a0 a1 a2 a3 hu nv hsh hi g2 hfo hg hb hmo g3 hsz0 (by have:=hH'.hcap;omega)
    simpa using this
  have Yb:=uh (w:=w) (ρ:=ρ) (T:=T) g1 g3 (g4 ρ w T) m
  have hze:(Builtin.zeroCells v.cells m).toList=((Array.range (m*s.size)).map (v.cells[· %v.cells.size]!)).toList:=by simp[Builtin.zeroCells,g3]
  obtain⟨d,aa,ρ',T',v',w',m1,m2,m3,m4,m5⟩:=JG hs hk hold hN E9 hH' (λd hd=>(abI hd)▸g1) (by rw[hze];exact Yb) g3 hR
  refine py m1 m2 m3 m4 (λhq=>by rw[ho]at hq;simp[gz,hc]at hq) ?_
  rw[ia ho hc]
  simp[builtin,m5]
 ·exact k2.elim
omit hs hG in
theorem UZ{c:Call}{x y:Operand}(hc:c.args.toList=[x,y]){t u:TypeId}(ht:c.argTypes.toList=[t,u]):
  c.argTypes[0]?=some t/\(c.args.map a.eval)[0]?=some (a.eval x)/\(c.args.map a.eval)[1]?=some (a.eval y):=by
 obtain⟨h1,_,h2,h3⟩:=Gv (a:=a) hc ht
 exact⟨h1,h2,h3⟩
omit hG in
theorem Gw {s : Sh} {da : D} {src : List D} {oe : List Value} {k0 : D -> Rows -> Prop} {x : Operand} {g : Nat -> D} {f : Nat -> Value}
  (Ya:VR ρ w T da (a.eval x))(gJ:∀d∈src,aL s d)(hcs:aW (LR ρ w T) (au src) oe)
  (hrun:∀(ad:Option Addr) (len cap:Nat),dP da=some len->a.eval x= .slice ad len cap->(execOp a.eval o).run P w=
   ((match ad with
    |some q=>(storeCells q (oe.take (min src.length len*s.size))).run P w
    |none=> .ok () w).andThen λ_ w'=> .ok (.value (f (min src.length len))) w'))
  (hq:gz o.op=false)(hfg:∀m ρ w T,VR ρ w T (g m) (f m))(Ta:∀(m:Nat) rows,k0 (.raw (.int .i64 m)) rows->k (g m) rows)(hk:ou rows s da src k0):bI P n o ρ T env rows a w k:=by
 unfold ou at hk
 split at hk
 ·refine .here hs (Ta 0 _ hk) (hfg 0 _ _ _) ?_
  rw[hrun _ _ _ rfl Ya.ofRaw]
  simp
 ·rename_i t' r off len ex
  obtain⟨rfl,k1⟩:=hk
  obtain⟨row,hl,hle,hk⟩:=ak k1
  clear k1
  have E9:LR ρ w T _ _:=Ya
  generalize hx:a.eval x=v at E9
  cases E9 with
  |AE _ _ _ _ _ ad=>
   have e1:a7 row.els off (src.take (min src.length 0))=row.els:=by simp[a7]
   rw[e1]at hk
   have e2:rows.set r (some ⟨row.sh,row.els⟩)=rows:=AY (Nu hl)
   rw[e2]at hk
   refine .here hs (Ta _ _ hk) (hfg _ _ _ _) ?_
   rw[hrun _ _ _ rfl hx]
   cases ad<;>simp[storeCells]
  | sl _ _ _ _ _ _ L cap hL c1 c2 c3 =>
   have hr:=hs.bw.row r row L hl hL
   have hmp:=LR.Gg c3
   obtain⟨cur,t2,m1,m2,m3,m4⟩:=hr.cells hmp
   have hsr:t'=row.sh:=by
    rcases c3 with⟨_,c3,_⟩|⟨m,c3,_⟩
    ·rw[c3,hr.sh]
    ·simp[Loc.at]at c3
   subst hsr
   have hNl:(src.take (min src.length len)).length=min src.length len:=by rw[aaF];omega
   have P6:∀d∈src.take (min src.length len),aL row.sh d:=λd hd=>gJ d (aa5 hd)
   have hfit:off+(src.take (min src.length len)).length<=row.els.length:=by omega
   obtain⟨f1,f2⟩:=AX (s:=row.sh) hfit
   have hM:aW (LR ρ w T) (au (src.take (min src.length len))) (oe.take (min src.length len*row.sh.size)):=by
    have h5:=hcs.take (min src.length len*row.sh.size)
    have h6:au src=au (src.take (min src.length len))++au (src.drop (min src.length len)):=by rw[<-dJ,abq]
    have h7:(au (src.take (min src.length len))).length=min src.length len*row.sh.size:=by rw[bb P6,hNl]
    rw[h6,<-h7,aa3,h7]at h5
    exact h5
   have hA:(au (row.els.take off)).length=off*row.sh.size:=by
    rw[bb (λd hd=>hr.els d (aa5 hd)),aaF]
    congr 1
    omega
   have Yc:(au (src.take (min src.length len))).length=(au ((row.els.drop off).take (src.take (min src.length len)).length)).length:=by
    rw[bb P6,bb (λd hd=>hr.els d (ab9 (aa5 hd)))]
    congr 1
    simp only[aaF,aaB]
    omega
   have m5:=m4
   rw[f1]at m5
   have Gs:=m5.seg
   have hw:=m5.write rfl hM Yc
   rw[<-f2,hA]at hw
   have jF:=hM.len
   have hone:∀v∈oe.take (min src.length len*row.sh.size),v.oneCell'=true:=by
    intro v hv
    obtain⟨j,hj,rfl⟩:=aa8.1 hv
    exact(hM.at_ j _ _ (aaw (by omega)) (aaw hj)).one
   have Nv:off*row.sh.size+0+(oe.take (min src.length len*row.sh.size)).length<=cur.size:=by
    have:=Gs.2
    rw[hA,<-Yc,jF]at this
    simpa using this
   have hst:=gK P L.b (off*row.sh.size) t2 _ 0 cur w m1 Nv hone
   have Yd:(au (a7 row.els off (src.take (min src.length len)))).length=(au row.els).length:=by
    rw[bb (zM (s:=row.sh) hr.els P6),zN hfit,bb hr.els]
   obtain⟨u1,u2⟩:=hs.write hl hL _ cur (cur.toList.take (off*row.sh.size+0)++oe.take (min src.length len*row.sh.size)++cur.toList.drop (off*row.sh.size+0+(oe.take (min src.length len*row.sh.size)).length)).toArray t2 hmp m1
    (by simp only[adw,aax,aaB,ab4];simp only[aaF,ab4]at Nv⊢;omega)
    (zM hr.els P6) (by rw[Yd];exact m3) hw
   refine py (Ta _ _ hk) u1 u2 (hfg _ _ _ _) (λh=>by rw[hq]at h;cases h) ?_
   rw[hrun _ _ _ rfl hx]
   simp only[Loc.off,abO,hst,Result.andThen_ok]
 ·rename_i t' r i p off len ex
  obtain⟨rfl,k1⟩:=hk
  obtain⟨row,hl,k2⟩:=ak k1
  obtain⟨d2,hg,k3⟩:=ak k2
  clear k1 k2
  split at k3
  ·rename_i q ul
   obtain⟨hle,k4⟩:=k3
   obtain⟨els,so,hk⟩:=ak k4
   clear k4
   have E9:LR ρ w T _ _:=Ya
   generalize hx:a.eval x=v at E9
   cases E9 with
   | AE _ _ _ _ _ ad =>
    have e1:a7 ul off (src.take (min src.length 0))=ul:=by simp[a7]
    rw[e1]at so
    have e3:∀(p:List Nat) (d x:D),d.get p=some x->d.set p x=some d:=by
     intro p
     induction p with
     |nil=>intro d x h;simp[D.get]at h;subst h;simp[D.set]
     | cons j p ih =>
      intro d x h
      cases d with
      | agg s l =>
       simp only[D.get]at h
       simp only[D.set]
       cases hj:l[j]? with
       |none=>simp[hj]at h
       |some y=>
        simp only[hj]at h⊢
        rw[ih y x h]
        simp only
        rw[AY hj]
      | _=>simp[D.get]at h
    have e4:els=row.els:=by
     simp only[cF]at hg
     simp only[lO]at so
     cases hj:row.els[i]? with
     |none=>simp[hj]at hg
     |some y=>
      simp only[hj]at hg so
      rw[e3 p y _ hg]at so
      simp at so
      rw[AY hj]at so
      exact so.symm
    rw[e4]at hk
    have e2:rows.set r (some ⟨row.sh,row.els⟩)=rows:=AY (Nu hl)
    rw[e2]at hk
    refine .here hs (Ta _ _ hk) (hfg _ _ _ _) ?_
    rw[hrun _ _ _ rfl hx]
    cases ad<;>simp[storeCells]
   | sl _ _ _ _ _ _ L cap hL c1 c2 c3 =>
    have hr:=hs.bw.row r row L hl hL
    have hmp:=LR.Gg c3
    obtain⟨cur,t2,m1,m2,m3,m4⟩:=hr.cells hmp
    rcases c3 with⟨c3,_⟩|⟨m,c3,c4⟩
    ·simp at c3
    ·rw[Loc.xY hmp,hr.sh]at c3
     obtain⟨g5,g6,pre,post,g7,g8⟩:=wo hr.els c3 hg
     obtain⟨rfl,_⟩:=oQ g5
     obtain⟨l',mC,hlen,fG⟩:=g5.jl rfl
     cases mC
     simp[Sh.count]at hlen
     have bN:∀d∈ul,aL t' d:=by
      intro d hd
      obtain⟨q,hq,rfl⟩:=aa8.1 hd
      exact fG q t' _ (by simp[Sh.sub];omega) (aaw hq)
     have hNl:(src.take (min src.length len)).length=min src.length len:=by rw[aaF];omega
     have P6:∀d∈src.take (min src.length len),aL t' d:=λd hd=>gJ d (aa5 hd)
     have hfit:off+(src.take (min src.length len)).length<=ul.length:=by omega
     obtain⟨f1,f2⟩:=AX (s:=t') hfit
     have iE:aL (.ar m t') (.agg (.ar m t') (a7 ul off (src.take (min src.length len)))):=by
      refine .agg _ _ rfl (by rw[zN hfit];simpa[Sh.count]using hlen) λj e' d' hj jP=>?_
      simp only[Sh.sub]at hj
      split at hj
      ·cases hj;exact zM bN P6 d' (bH jP)
      ·cases hj
     obtain⟨z1,z2,z3,Nm,old,Nn,z4,z5,z6,z7⟩:=Eh hr.els c3 iE so
     have hM:aW (LR ρ w T) (au (src.take (min src.length len))) (oe.take (min src.length len*t'.size)):=by
      have h5:=hcs.take (min src.length len*t'.size)
      have h6:au src=au (src.take (min src.length len))++au (src.drop (min src.length len)):=by rw[<-dJ,abq]
      have h7:(au (src.take (min src.length len))).length=min src.length len*t'.size:=by rw[bb P6,hNl]
      rw[h6,<-h7,aa3,h7]at h5
      exact h5
     have hA:(au (ul.take off)).length=off*t'.size:=by
      rw[bb (λd hd=>bN d (aa5 hd)),aaF]
      congr 1
      omega
     have Yc:(au (src.take (min src.length len))).length=(au ((ul.drop off).take (src.take (min src.length len)).length)).length:=by
      rw[bb P6,bb (λd hd=>bN d (ab9 (aa5 hd)))]
      congr 1
      simp only[aaF,aaB]
      omega
     --the two ways to part the row are one
     have hpp:pre=Nm:=by
      have e1:(au row.els).take pre.length=pre:=by rw[g7,aa3]
      have e2:(au row.els).take Nm.length=Nm:=by rw[z4,aa3]
      have e3:pre.length=Nm.length:=by rw[g8,z6]
      rw[<-e1,<-e2,e3]
     subst hpp
     have hoo:old=(D.agg (.ar m t') ul).flat/\post=Nn:=by
      have e1:=g7.symm.trans z4
      have e2:=List.append_cancel_left e1
      have e3:old.length=(D.agg (.ar m t') ul).flat.length:=by rw[z7,iE.len,g5.len]
      have e4:(D.agg (.ar m t') ul).flat++post=old++Nn:=e2
      have:=List.append_inj e4 e3.symm
      exact⟨this.1.symm,this.2⟩
     obtain⟨rfl,rfl⟩:=hoo
     have m5:=m4
     rw[g7]at m5
     simp only[D.flat]at m5 z5
     rw[f1]at m5
     have e1:pre++((au (ul.take off)++(au ((ul.drop off).take (src.take (min src.length len)).length)++au (ul.drop (off+(src.take (min src.length len)).length))))++post)=
       (pre++au (ul.take off))++(au ((ul.drop off).take (src.take (min src.length len)).length)++(au (ul.drop (off+(src.take (min src.length len)).length))++post)):=by simp
     rw[e1]at m5
     have Gs:=m5.seg
     have hw:=m5.write rfl hM Yc
     have e2:(pre++au (ul.take off))++(au (src.take (min src.length len))++(au (ul.drop (off+(src.take (min src.length len)).length))++post))=au els:=by
      rw[z5,f2];simp
     rw[e2]at hw
     have hAA:(pre++au (ul.take off)).length=L.off (i::p)+off*t'.size:=by
      rw[aax,hA,g8]
      simp[Loc.off,hr.sh]
     rw[hAA]at hw
     have jF:=hM.len
     have hone:∀v∈oe.take (min src.length len*t'.size),v.oneCell'=true:=by
      intro v hv
      obtain⟨j,hj,rfl⟩:=aa8.1 hv
      exact(hM.at_ j _ _ (aaw (by omega)) (aaw hj)).one
     have Nv:L.off (i::p)+off*t'.size+0+(oe.take (min src.length len*t'.size)).length<=cur.size:=by
      have:=Gs.2
      rw[hAA,<-Yc,jF]at this
      simpa using this
     have hst:=gK P L.b (L.off (i::p)+off*t'.size) t2 _ 0 cur w m1 Nv hone
     have Yd:(au els).length=(au row.els).length:=by
      rw[bb z1,z2,bb hr.els]
     obtain⟨u1,u2⟩:=hs.write hl hL els cur (cur.toList.take (L.off (i::p)+off*t'.size+0)++oe.take (min src.length len*t'.size)++cur.toList.drop (L.off (i::p)+off*t'.size+0+(oe.take (min src.length len*t'.size)).length)).toArray t2 hmp m1
      (by simp only[adw,aax,aaB,ab4];simp only[aaF,ab4]at Nv⊢;omega)
      z1 (by rw[Yd];exact m3) hw
     refine py (Ta _ _ hk) u1 u2 (hfg _ _ _ _) (λh=>by rw[hq]at h;cases h) ?_
     rw[hrun _ _ _ rfl hx]
     simp only[hst,Result.andThen_ok]
  ·exact k3.elim
 ·exact hk.elim
theorem Tb{c:Call}{x y:Operand}{x' y':X}{t u e:TypeId}{s:Sh}(ho:o.op= .call c)(hc:c.callee= .builtin .copy)(hargs:c.args.toList=[x,y])(zO:c.argTypes.toList=[t,u])(hu:P.underlying t=some (.slice e))
  (hsh:sh P e=some s)(h1:cX x=some x')(h2:cX y=some y')
  (h:dA C env rows (.copy s x' y') k):bI P n o ρ T env rows a w k:=by
 obtain⟨da,he,k1⟩:=ak h
 obtain⟨db,uW,k2⟩:=ak k1
 obtain⟨src,hn,hlb,hk⟩:=ak k2
 clear k1 k2
 have Ya:=bD h1 he hs hG
 have hvb:=bD h2 uW hs hG
 obtain⟨oe,hsrc⟩:=JI (P:=P) hs hvb hn hlb
 obtain⟨a0,a2,a3⟩:=UZ (a:=a) hargs zO
 refine Gw (g:=λm=> .raw (.int .i64 m)) (f:=λm=> .int .i64 m) hs Ya hsrc.els hsrc.cs ?_ (by rw[ho];simp[gz,hc]) (λ_ _ _ _=>VR.raw rfl) (λ_ _ h=>h) hk
 ·intro ad len cap _ hx
  have hf:=hsrc.first w rfl (min src.length len) (Nat.min_le_left _ _)
  rw[hx]at a2
  rw[ia ho hc]
  have Ye:Nat.min src.length len=min src.length len:=rfl
  cases ad<;>simp[builtin,Builtin.copy_,a0,a2,a3,run_underlying hu,hsrc.len,run_sizeOf hsh,Ye,hf,goInt,uX]
theorem op_clr{c:Call}{x:Operand}{x':X}{t e:TypeId}{s:Sh}{z:D}(ho:o.op= .call c)(hc:c.callee= .builtin .clear)(hargs:c.args.toList=[x])(zO:c.argTypes.toList=[t])(hu:P.underlying t=some (.slice e))
  (hsh:sh P e=some s)(hz:zero P e=some z)(h1:cX x=some x')(h:dA C env rows (.clr s z x') k):bI P n o ρ T env rows a w k:=by
 obtain⟨da,he,k1⟩:=ak h
 obtain⟨m,hm,hk⟩:=ak k1
 have Ya:=bD h1 he hs hG
 obtain⟨g1,v,g2,g3,g4⟩:=kf hsh hz
 have Yb:aW (LR ρ w T) (au (List.replicate m z)) (Builtin.zeroCells v.cells m).toList:=by
  have:=uh (w:=w) (ρ:=ρ) (T:=T) g1 g3 (g4 ρ w T) m
  simpa[Builtin.zeroCells,g3]using this
 refine Gw (g:=λ_=> .cB []) (f:=λ_=> .tuple #[]) hs Ya (λd hd=>(abI hd)▸g1) Yb ?_ (by rw[ho];simp[gz,hc]) (λ_ _ _ _=>⟨#[],rfl,.nil⟩) (λ_ _ h=>h) hk
 intro ad len cap hl hx
 have e0:m=len:=abe (hm.symm.trans hl)
 subst e0
 have hlen:(Builtin.zeroCells v.cells m).toList.length=m*s.size:=by simp[Builtin.zeroCells,g3]
 have a0:c.argTypes[0]?=some t:=by rw[<-adv,zO];rfl
 have a2:(c.args.map a.eval)[0]?=some (.slice ad m cap):=by rw[Array.getElem?_map,<-adv,hargs,<-hx];rfl
 have e2:(Builtin.zeroCells v.cells m).toList.take (min (List.replicate m z).length m*s.size)=(Builtin.zeroCells v.cells m).toList:=by
  rw[aaV,Nat.min_self,<-hlen,aa6]
 have e3:m=0->(Builtin.zeroCells v.cells m).toList=[]:=λh=>by subst h;simp[Builtin.zeroCells]
 rw[ia ho hc,e2]
 rcases ad with _|q
 ·simp[builtin,Builtin.clear_,a0,a2,run_underlying hu]
 ·rcases m with _|m
  ·simp[builtin,Builtin.clear_,a0,a2,run_underlying hu,e3,storeCells]
  ·simp[builtin,Builtin.clear_,a0,a2,run_underlying hu,g2,uX]
end ops
end Go.Am
namespace Go.Am
variable {C:aX} {P:Program} {n:Nat} {ρ:Pl} {T:Nat->Prop} {env:Env} {rows:Rows} {a:Act} {w:World}
theorem sP(hs:eA n ρ T env rows a w)(hG:sN C ρ w T):∀{l:List Operand} {l':List X} {ds:List D},XG l=some l'->MY C env l'=some ds->aW (VR ρ w T) ds (l.map a.eval)
 |[],l',ds,h1,h2=>by
  simp[XG]at h1;subst h1
  simp[MY]at h2;subst h2
  exact .nil
 | x :: l, l', ds, h1, h2 => by
  simp only[XG]at h1
  split at h1
  ·rename_i y hy
   split at h1
   ·rename_i r hr
    cases h1
    simp only[MY]at h2
    split at h2
    ·rename_i d hd
     split at h2
     ·rename_i ds' hds
      cases h2
      exact .cons (bD hy hd hs hG) (sP hs hG hr hds)
     ·cases h2
    ·cases h2
   ·cases h1
  ·cases h1
theorem AZ {mx : Bool} {kd : IntKind} : ∀ {l : List D} {x m : Int} {vs : List Value}, nS mx kd x l = some m -> aW (VR ρ w T) l vs ->
  (vs.foldlM (if mx then Builtin.max2 else Builtin.min2) (.int kd x)).run P w= .ok (.int kd m) w
 |[],x,m,vs,h,hv=>by
  have:vs=[]:=aaN hv.len.symm
  subst this
  simp[nS]at h
  subst h
  simp
 | d :: l, x, m, vs, h, hv => by
  cases vs with
  |nil=>have:=hv.len;simp at this
  | cons v vs =>
   cases d with
   | raw q =>
    cases q with
    | int k' y =>
     simp only[nS]at h
     cases hb:(kd==k')with
     |false=>rw[hb]at h;simp at h
     | true =>
      rw[hb]at h
      simp only[aaY]at h
      have hk:kd=k':=by simpa using hb
      subst hk
      have hv0:=VR.ofRaw hv.head
      subst hv0
      have ih:=AZ (vs:=vs) h hv.tail
      cases mx with
      | true =>
       simp only[ab6,aaY]at ih h⊢
       have e:(if x<y then y else x)=max x y:=by
        rw[Int.max_def];split<;>split<;>omega
       simp[List.foldlM_cons,Builtin.max2,e,ih]
      | false =>
       simp only[adn,ab1,aaR]at ih h⊢
       have e:(if y<x then y else x)=min x y:=by
        rw[Int.min_def];split<;>split<;>omega
       simp[List.foldlM_cons,Builtin.min2,e,ih]
    | _=>simp[nS]at h
   | _=>simp[nS]at h
theorem K5{d:D}{u:UInt8}(h:toByte d=some u):∃i,d= .raw (.int .u8 i)/\u=UInt8.ofNat i.toNat:=by
 unfold toByte at h
 split at h
 ·rename_i i;exact⟨i,rfl,by simpa using h.symm⟩
 ·cases h
theorem JK:∀{l:List D} {bs:List UInt8} {cs:List Value},dC toByte l=some bs->aW (LR ρ w T) (au l) cs->∃ns:List Int,cs=ns.map (Value.int .u8)/\bs=ns.map (λi=>UInt8.ofNat i.toNat)/\l.length=ns.length
 |[],bs,cs,h,hc=>by
  simp[dC]at h;subst h
  have:cs=[]:=aaN (by simpa[au]using hc.len.symm)
  subst this
  exact⟨[],rfl,rfl,rfl⟩
 | d :: l, bs, cs, h, hc => by
  simp only[dC]at h
  split at h
  ·rename_i u hu
   split at h
   ·rename_i us hus
    cases h
    obtain⟨i,rfl,rfl⟩:=K5 hu
    simp only[au,D.flat,List.singleton_append]at hc
    cases cs with
    |nil=>have:=hc.len;simp at this
    |cons c cs=>
     have hv:=VR.ofRaw (VR.bB hc.head)
     obtain⟨ns,rfl,rfl,h3⟩:=JK hus hc.tail
     subst hv
     exact⟨i::ns,rfl,rfl,by simp[h3]⟩
   ·cases h
  ·cases h
theorem foldl_push(ns:List Int):∀(acc:ByteArray),ns.foldl (λr i=>r.push (UInt8.ofNat i.toNat)) acc=⟨acc.data++(ns.map λi=>UInt8.ofNat i.toNat).toArray⟩:=by
 induction ns with
 |nil=>intro acc;simp
 |cons i ns ih=>
  intro acc
  simp only[ad0,ih]
  congr 1
  apply aca
  simp[ByteArray.push]
theorem mK{k:Sc}{x:D}(h:aL (.leaf k) x):∃v,x= .raw v/\nQ v k=true:=by
 cases h with
 |leaf _ v hv=>exact⟨v,rfl,hv⟩
 |agg _ _ h _ _=>simp[Sh.isAgg]at h
theorem uk{x y:D}{b:Bool}{vx vy:Value}{t:TypeId}{s:Sh}(h:zG x y=some b)(hx:LR ρ w T x vx)(hy:LR ρ w T y vy)(hsx:aL s x)
  (ht:(∃k,P.underlying t=some (.int k)/\s= .leaf (.int k))\/(P.underlying t=some .bool/\s= .leaf .bool)\/(P.underlying t=some .string/\s= .leaf .str))(d:Nat):
  (Op.equalIn (d+1) t vx vy).run P w= .ok b w:=by
 rcases ht with⟨k,ht,rfl⟩|⟨ht,rfl⟩|⟨ht,rfl⟩
 ·obtain⟨v,rfl,hv⟩:=mK hsx
  have e1:=VR.ofRaw (VR.bB hx)
  cases v with
  | int k1 i =>
   cases y with
   | raw q =>
    have e2:=VR.ofRaw (VR.bB hy)
    cases q with
    | int k2 j =>
     simp only[zG,jA]at h
     split at h
     ·rename_i hk
      subst hk
      cases h
      rw[e1,e2,run_equalIn_int w d t _ _ _ _ ht]
      rfl
     ·cases h
    | _=>simp[zG,jA]at h
   | _=>simp[zG,jA]at h
  | _=>simp[nQ]at hv
 ·obtain⟨v,rfl,hv⟩:=mK hsx
  have e1:=VR.ofRaw (VR.bB hx)
  cases v with
  | bool i =>
   cases y with
   | raw q =>
    have e2:=VR.ofRaw (VR.bB hy)
    cases q with
    |bool j=>
     simp only[zG,jA]at h
     cases h
     rw[e1,e2,run_equalIn_bool' w d t _ _ ht]
    | _=>simp[zG,jA]at h
   | _=>simp[zG,jA]at h
  | _=>simp[nQ]at hv
 ·obtain⟨v,rfl,hv⟩:=mK hsx
  have e1:=VR.ofRaw (VR.bB hx)
  cases v with
  | string i =>
   cases y with
   | raw q =>
    have e2:=VR.ofRaw (VR.bB hy)
    cases q with
    |string j=>
     simp only[zG,jA]at h
     cases h
     rw[e1,e2,run_equalIn_string w d t _ _ ht]
    | _=>simp[zG,jA]at h
   | _=>simp[zG,jA]at h
  | _=>simp[nQ]at hv
theorem Gx{s e:Sh}{l:List D}{cs:Array Value}{i:Nat}{d:D}{t:TypeId}(hsh:aL s (.agg s l))(hc:aW (LR ρ w T) (au l) cs.toList)(he:s.sub i=some e)(hd:l[i]?=some d)(ht:sh P t=some e)(hl:lP P t e=true):
  ∃v,(part t cs (s.j8 i)).run P w= .ok v w/\VR ρ w T d v/\aL e d:=by
 obtain⟨_,ha⟩:=oQ hsh
 obtain⟨d',jP,sJ,nV⟩:=hsh.part ha he
 rw[hd]at jP
 cases jP
 rw[fT hd]at hc
 have g3:=(hc.drop (au (List.take i l)).length).take d.flat.length
 rw[abi,aa3,nV]at g3
 have hlen:=g3.len
 exact⟨_,Gn (w:=w) (o':=s.j8 i) (ms:=(cs.toList.drop (s.j8 i)).take d.flat.length) ht hl (by rw[<-hlen,sJ.len]) (p7 sJ g3) (by rw[<-hlen]),VR.gO sJ g3,sJ⟩
theorem Nw{l l':List D}{b:Bool}{i:Nat}(h:CR (l.drop i) (l'.drop i)=some b)(hi:i<l.length):∃x y t u,l[i]?=some x/\l'[i]?=some y/\zG x y=some t/\CR (l.drop (i+1)) (l'.drop (i+1))=some u/\b=(t&&u):=by
 rw[abF hi]at h
 cases hd:l'.drop i with
 |nil=>rw[hd]at h;simp[CR]at h
 | cons y r =>
  rw[hd]at h
  simp only[CR]at h
  split at h
  ·rename_i t ht
   split at h
   ·rename_i u hu
    have hy:l'[i]?=some y:=by
     have:=abt (λq=>q[0]?) hd
     simpa using this
    have hr:l'.drop (i+1)=r:=by
     have:=abt List.tail hd
     simpa using this
    exact⟨l[i],y,t,u,aaw hi,hy,ht,by rw[hr];exact hu,by simpa using h.symm⟩
   ·cases h
  ·cases h
theorem x8:∀(n:Nat) {t:TypeId} {s:Sh} {x y:D} {vx vy:Value} {b:Bool} (d:Nat),CS P n t s=true->aL s x->aL s y->VR ρ w T x vx->VR ρ w T y vy->zG x y=some b->
  (Op.equalIn (d+n) t vx vy).run P w= .ok b w
 |0,t,s,x,y,vx,vy,b,d,h,_,_,_,_,_=>by simp[CS]at h
 | n + 1, t, s, x, y, vx, vy, b, d, h, hx, hy, Tc, hvy, he => by
  simp only[CS]at h
  split at h
  ·rename_i fs hu
   simp only[aav,acs,acT]at h
   obtain⟨⟨⟨h1,h2⟩,h3⟩,h4⟩:=h
   obtain⟨l,rfl,hl,_⟩:=hx.jl h2
   obtain⟨l',rfl,mC,_⟩:=hy.jl h2
   obtain⟨cs,rfl,_,hcs⟩:=Tc
   obtain⟨cs',rfl,_,hcs'⟩:=hvy
   have hfo:P.fieldsOf t=fs:=by simp[Program.fieldsOf,hu]
   rw[show d+(n+1)=(d+n)+1 from rfl,run_equalIn_struct w (d+n) t cs cs' (by rw[hfo];exact hu) h1,hfo]
   simp only[zG]at he
   have key:∀(gs:List Field) (i:Nat) (b:Bool),i+gs.length=s.count->P3 P (CS P n) s i gs=true->CR (l.drop i) (l'.drop i)=some b->(Op.eqFields (d+n) cs cs' gs).run P w= .ok b w:=by
    intro gs
    induction gs with
    |nil=>
     intro i b hi _ hb
     simp at hi
     rw[acY (by omega),acY (by omega)]at hb
     simp[CR]at hb
     subst hb
     simp[Op.eqFields]
    | cons f gs ih =>
     intro i b hi hf hb
     simp only[P3,aav]at hf
     obtain⟨⟨⟨f1,f2⟩,f3⟩,f4⟩:=hf
     simp only[aa0]at hi
     obtain⟨x0,y0,t0,u0,g1,g2,g3,g4,g5⟩:=Nw hb (by omega)
     split at f3
     ·rename_i e fG
      simp only[aav,acs]at f3
      obtain⟨⟨f5,f6⟩,f7⟩:=f3
      obtain⟨va,r1,r2,r3⟩:=Gx hx hcs fG g1 f5 f6
      obtain⟨vb,r4,r5,r6⟩:=Gx hy hcs' fG g2 f5 f6
      have r7:=x8 n d f7 r3 r6 r2 r5 g3
      have f1':f.name≠ "_" :=by simpa using f1
      have f2':f.offset=s.j8 i:=by simpa using f2
      simp only[Op.eqFields]
      rw[aaM f1']
      simp only[f2',Sem.run_bind,r1,r4,r7,Result.andThen_ok]
      cases t0 with
      |false=>simp[g5]
      |true=>simp[ih (i+1) u0 (by omega) f4 g4,g5]
     ·cases f3
   exact key fs.toList 0 b (by simpa using h3) h4 he
  ·rename_i m e hu
   split at h
   ·rename_i m' se
    simp only[aav,acs]at h
    obtain⟨⟨⟨rfl,h2⟩,h3⟩,h4⟩:=h
    obtain⟨l,rfl,hl,_⟩:=hx.jl rfl
    obtain⟨l',rfl,mC,_⟩:=hy.jl rfl
    obtain⟨cs,rfl,_,hcs⟩:=Tc
    obtain⟨cs',rfl,_,hcs'⟩:=hvy
    obtain⟨inf,hi,hsz⟩:=x5 h2
    have hco:P.cellsOf e=se.size:=by simp[Program.cellsOf,hi,hsz]
    rw[show d+(n+1)=(d+n)+1 from rfl,run_equalIn_array w (d+n) cs cs' hu hi,hco]
    simp only[zG]at he
    simp[Sh.count]at hl mC
    have key:∀(k i:Nat) (b:Bool),i+k=m->CR (l.drop i) (l'.drop i)=some b->(Op.eqItems (d+n) e se.size cs cs' (List.range' i k)).run P w= .ok b w:=by
     intro k
     induction k with
     |zero=>
      intro i b hi hb
      rw[acY (by omega),acY (by omega)]at hb
      simp[CR]at hb
      subst hb
      simp[Op.eqItems]
     |succ k ih=>
      intro i b hi hb
      obtain⟨x0,y0,t0,u0,g1,g2,g3,g4,g5⟩:=Nw hb (by omega)
      have fG:(Sh.ar m se).sub i=some se:=by simp[Sh.sub];omega
      obtain⟨va,r1,r2,r3⟩:=Gx hx hcs fG g1 h2 h3
      obtain⟨vb,r4,r5,r6⟩:=Gx hy hcs' fG g2 h2 h3
      have r7:=x8 n d h4 r3 r6 r2 r5 g3
      have e1:(Sh.ar m se).j8 i=i*se.size:=rfl
      rw[e1]at r1 r4
      rw[aej]
      simp only[Op.eqItems,Sem.run_bind,r1,r4,r7,Result.andThen_ok]
      cases t0 with
      |false=>simp[g5]
      |true=>simp[ih (i+1) u0 (by omega) g4,g5]
    rw[adZ]
    exact key m 0 b (by omega) he
   ·cases h
  ·rename_i k hu
   have hk:s= .leaf (.int k):=by simpa using h
   exact uk he (Tc.AS (hx.pW (by rw[hk];rfl))) (hvy.AS (hy.pW (by rw[hk];rfl))) hx (.inl ⟨k,hu,hk⟩) (d+n)
  ·rename_i hu
   have hk:s= .leaf .bool:=by simpa using h
   exact uk he (Tc.AS (hx.pW (by rw[hk];rfl))) (hvy.AS (hy.pW (by rw[hk];rfl))) hx (.inr (.inl ⟨hu,hk⟩)) (d+n)
  ·rename_i hu
   have hk:s= .leaf .str:=by simpa using h
   exact uk he (Tc.AS (hx.pW (by rw[hk];rfl))) (hvy.AS (hy.pW (by rw[hk];rfl))) hx (.inr (.inr ⟨hu,hk⟩)) (d+n)
  ·cases h
theorem A0:∀(m t:Nat) (acc:Array Value),∃l:List (BitVec 8),(Extern.BytealgMakeNoZero.digits m t acc).toList=acc.toList++l.map (λb=>Value.int .u8 (b.toNat:Int))/\l.length=m
 |0,_,acc=>⟨[],by simp[Extern.BytealgMakeNoZero.digits],rfl⟩
 |m+1,t,acc=>by
  obtain⟨l,h1,h2⟩:=A0 m (t/256) (acc.push (.int .u8 (Int.ofNat (t %256))))
  refine⟨BitVec.ofNat 8 t::l,?_,by simp[h2]⟩
  rw[Extern.BytealgMakeNoZero.digits,h1]
  simp
theorem run_mnz{t e:TypeId}(ht:P.underlying t=some (.slice e))(ps:Array TypeId)(m:Nat)(hm:m<=most)(w:World):
  ∃(cs:Array Value) (l:List (BitVec 8)),(Extern.BytealgMakeNoZero.makeNoZero ps #[t] #[.int .i64 m]).run P w= .ok (.slice (some ⟨w.heap.size,0,none⟩) m cs.size) (w.drew.drew.alloc (.cells cs e))/\m<=cs.size/\cs.toList=l.map λb=>Value.int .u8 (b.toNat:Int):=by
 have e0:∃(q:Question) (s1 s2:String),q.forced=false/\Extern.BytealgMakeNoZero.makeNoZero ps #[t] #[.int .i64 m]=(do
   let .slice el<-underlying t|stuck s1
   if(m:Int)<0||(m:Int)>2^48 then runtimePanic (.error s2)
   let c<-choose (.appendCap (m:Int).toNat 0 el)
   askRoom c
   let bytes<-choose q
   let ad<-newRow el (Extern.BytealgMakeNoZero.digits c bytes #[])
   pure (.slice (some ad) (m:Int).toNat c)):=by
  refine⟨_,_,_,?_,rfl⟩
  rfl
 obtain⟨q,s1,s2,hq,e0⟩:=e0
 obtain⟨l,h1,h2⟩:=A0 (grownCap w m 0 e) (q.cut (w.tape (w.drawn+1) q)) #[]
 have hsz:(Extern.BytealgMakeNoZero.digits (grownCap w m 0 e) (q.cut (w.tape (w.drawn+1) q)) #[]).size=grownCap w m 0 e:=by
  rw[<-ab4,h1];simpa using h2
 refine⟨_,l,?_,?_,by simpa using h1⟩
 ·have g1:¬(m:Int)<0:=by omega
  have g2:¬(281474976710656:Int)<(m:Int):=by rw[mI]at hm;omega
  rw[hsz,e0]
  have f1:∀a b c,(Question.appendCap a b c).forced=false:=λ_ _ _=>rfl
  simp[run_underlying ht,g1,g2,f1,hq,newRow,grownCap]
 ·rw[hsz]
  simpa using grownCap_ge w m 0 e
theorem Yf{fn:Func}(h:xW fn.name=true):Extern.find fn=some (Extern.BytealgMakeNoZero.makeNoZero fn.params fn.resultTypes):=by
 obtain⟨⟩:=fn
 simp[xW,Extern.BytealgMakeNoZero.typedRows]at h
 subst h
 kernel_rfl
theorem A2{fn:Func}(h:xW fn.name=true)(h2:fn.origin= ""):Extern.findNext fn=none/\(fn.name== "runtime.NumGoroutine")=false:=by
 obtain⟨⟩:=fn
 simp[xW,Extern.BytealgMakeNoZero.typedRows]at h
 simp only at h2
 subst h
 subst h2
 exact⟨by kernel_rfl,by simp⟩
theorem run_idx{fn:Func}{f:FuncId}(hf:P.funcs[f]?=some fn)(hb:fn.body.isSome=false)(h:fn.name=AR)(h2:fn.origin= "")(b:ByteArray)(c:Int)(w:World):
  (callFunc f #[.string b,.int .u8 c]).run P w= .ok (.value (.int .i64 (UM c b))) w:=by
 have Gr:fn.body.isNone=true:=by cases hq:fn.body<;>simp_all
 have e1:Extern.find fn=some Extern.BytealgIndexByte.indexByte:=by
  obtain⟨⟩:=fn;simp only at h h2;subst h;subst h2;kernel_rfl
 have e2:Extern.findNext fn=none/\(fn.name== "runtime.NumGoroutine")=false:=by
  obtain⟨⟩:=fn;simp only at h h2;subst h;subst h2;exact⟨by kernel_rfl,by simp[AR,Extern.BytealgIndexByte.rows]⟩
 have e3:Extern.BytealgIndexByte.indexByte #[.string b,.int .u8 c]=(match(List.range b.size).find? λi=>b[i]! ==c.toNat.toUInt8 with
  |some i=>pure (goInt i)
  |none=>pure (goInt (-1))):=rfl
 rw[run_callFunc_extern hf e2.2 Gr e2.1 e1,e3]
 unfold UM
 generalize (List.range b.size).find? _=o
 cases o<;>simp[goInt]
section ops
variable (hs:eA n ρ T env rows a w) (hG:sN C ρ w T) {o:Oper} {k:D->Rows->Prop}
include hs hG
theorem K6{neg:Bool}{op:BinOp}{t u:TypeId}{s:Sh}{x y:Operand}{x' y':X}(ho:o.op= .binOp op t x y u)(hop:op=bif neg then .neq else .eql)(hsh:sh P t=some s)(hok:CS P 40 t s=true)(hg:P.eqGuardType P.depth t=false)
  (h1:cX x=some x')(h2:cX y=some y')(h:dA C env rows (.Xe s neg x' y') k):bI P n o ρ T env rows a w k:=by
 obtain⟨d,he,k1⟩:=ak h
 have Tc:=bD h1 he hs hG
 split at k1
 ·rename_i s1 l
  obtain⟨d2,uW,k2⟩:=ak k1
  clear k1
  have hvy:=bD h2 uW hs hG
  split at k2
  ·rename_i s2 l'
   obtain⟨rfl,rfl,k3⟩:=k2
   obtain⟨b,hb,hk⟩:=ak k3
   clear k3
   obtain⟨cs,hx,g1,g2⟩:=id Tc
   obtain⟨cs',hy,g3,g4⟩:=id hvy
   refine .here hs hk (VR.raw rfl) ?_
   have hq:=x8 (P:=P) (w:=w) 40 9960 hok g1 g3 Tc hvy (show zG (.agg _ l) (.agg _ l')=some b from hb)
   rw[hx,hy]at hq
   have hgd:=λq=>run_eqGuard_agg (P:=P) w q t x y cs cs' hg
   cases neg with
   |false=>
    simp at hop
    subst hop
    simp only[execOp,ho,hx,hy,Sem.run_bind,hgd,Result.andThen_ok,run_eql_struct]
    rw[show(10000:Nat)=9960+40 from rfl,hq]
    simp
   |true=>
    simp at hop
    subst hop
    simp only[execOp,ho,hx,hy,Sem.run_bind,hgd,Result.andThen_ok,run_neq_struct]
    rw[show(10000:Nat)=9960+40 from rfl,hq]
    simp
  ·exact k2.elim
 ·exact k1.elim
theorem U0{t:TypeId}{x:Operand}{lo hi:Option Operand}{x':X}{lo' hi':Option X}(ho:o.op= .slice t x lo hi none)(hu:P.underlying t=some .string)
  (h1:cX x=some x')(h2:Nc lo=some lo')(h3:Nc hi=some hi')(h:dA C env rows (.CQ x' lo' hi') k):bI P n o ρ T env rows a w k:=by
 obtain⟨d,he,k1⟩:=ak h
 split at k1
 ·rename_i b
  obtain⟨l,hl,k2⟩:=ak k1
  obtain⟨hh,Xi,k3⟩:=ak k2
  obtain⟨b1,b2,b3,b4,hk⟩:=k3
  clear k1 k2
  have hx:=eP h1 he hs hG
  refine .here hs hk (VR.raw rfl) ?_
  have:=oS (P:=P) (isSlice:=false) (len:=b.size) (cap:=b.size) (mx:=none) (m:=none) (L:=(l.getD 0).toNat) (H:=(hh.getD b.size).toNat) (M:=b.size)
   (l5 h2 hl hs hG) (l5 h3 Xi hs hG) (.inl ⟨rfl,rfl⟩) (by simp) (by omega) (by omega) rfl (by omega) (by omega) (by omega) w
  simp[execOp,ho,hx,Instr.sliceAt,Instr.slice,run_underlying hu,this]
 ·exact k1.elim
theorem JL{c:Call}{mx:Bool}{l':List X}(ho:o.op= .call c)(hc:c.callee= .builtin (bif mx then .max else .min))(h1:XG c.args.toList=some l')(h:dA C env rows (.wh mx l') k):bI P n o ρ T env rows a w k:=by
 obtain⟨ds,he,k1⟩:=ak h
 obtain⟨⟨kd,m⟩,hm,hk⟩:=ak k1
 clear k1
 have bN:=sP hs hG h1 he
 unfold AM at hm
 split at hm
 ·rename_i k0 i0 l
  split at hm
  ·rename_i m' hf
   cases hm
   refine .here hs hk (VR.raw rfl) ?_
   rw[ia ho hc]
   cases hv:c.args.toList.map a.eval with
   |nil=>rw[hv]at bN;have:=bN.len;simp at this
   |cons v vs=>
    rw[hv]at bN
    have e1:=VR.ofRaw bN.head
    subst e1
    have hr:=AZ (P:=P) hf bN.tail
    cases mx with
    |true=>simp only[ab6]at hr;simp[builtin,Builtin.max_,hv,hr]
    |false=>simp only[adn,ab1]at hr;simp[builtin,Builtin.min_,hv,hr]
  ·cases hm
 ·cases hm
theorem op_b2s{s t e:TypeId}{x:Operand}{x':X}(ho:o.op= .convert s t x)(hsrc:P.underlying s=some (.slice e))(he':P.underlying e=some (.int .u8))(ht:P.underlying t=some .string)(h1:cX x=some x')
  (h:dA C env rows (.XE x') k):bI P n o ρ T env rows a w k:=by
 obtain⟨d,he,k1⟩:=ak h
 obtain⟨Np,k2⟩:=k1
 obtain⟨l,hl,k3⟩:=ak k2
 obtain⟨N,hN,hlen,k4⟩:=ak k3
 obtain⟨bs,PK,hk⟩:=ak k4
 clear k2 k3 k4
 have hv:=(bD h1 he hs hG).AS (uj hl)
 obtain⟨ad,cap,cs,hH⟩:=hs.bw.holds hv hl hN hlen Np
 obtain⟨ns,rfl,rfl,Qd⟩:=JK PK hH.hcs
 refine .here hs hk (VR.raw rfl) ?_
 have hx:=hH.hv
 cases Xh:ad with
 |none=>
  have h0:=hH.nil Xh
  have hc0:=hH.hcap
  have:ns=[]:=aaN (by omega)
  subst this
  simp only[execOp,ho,hx,Xh,Sem.run_bind,run_convert_bytes_string w s t e _ _ _ hsrc he' ht]
  simp[Conv.bytesToString]
  rfl
 |some q=>
  have hf:=hH.first (P:=P) (w':=w) rfl N (aaL _)
  rw[<-hH.Gm,aa6,hx,Xh]at hf
  simp only[Builtin.firstCells,Sh.size,aeB]at hf
  simp only[execOp,ho,hx,Xh,Sem.run_bind,run_convert_bytes_string w s t e _ _ _ hsrc he' ht,run_bytesToString w q N cap ns hf,Result.andThen_ok]
  rw[foldl_push]
  simp
theorem op_s2b{s t e:TypeId}{x:Operand}{x':X}(ho:o.op= .convert s t x)(hsrc:P.underlying s=some .string)(ht:P.underlying t=some (.slice e))(he':P.underlying e=some (.int .u8))(h1:cX x=some x')
  (h:dA C env rows (.s2b x') k):bI P n o ρ T env rows a w k:=by
 obtain⟨d,he,k1⟩:=ak h
 split at k1
 ·rename_i b
  have hx:=eP h1 he hs hG
  have hb:(Lib.bytesWorld w e b).heap=w.heap.push (.cells (Lib.bytesCells w e b) e ((Lib.bytesCells w e b).size,(Lib.bytesCells w e b).size+1)):=by
   apply Array.ext_getElem?
   intro i
   rw[adg]
   split
   ·rename_i h;rw[h];exact Lib.bytesWorld_at_new w e b
   ·rename_i h
    rcases adL i w.heap.size with h2|h2|h2
    ·exact Lib.bytesWorld_at_old w e b i h2
    ·exact absurd h2 h
    ·rw[acB (by rw[Lib.bytesWorld_size];omega),acB (by omega)]
  obtain⟨g1,g2⟩:=hs.grow (w':=Lib.bytesWorld w e b) _ hb rfl rfl rfl
  obtain⟨q1,q2⟩:=Em (ρ:=ρ) (w:=Lib.bytesWorld w e b) (T:=λq=>T q\/q=w.heap.size) b
  have hl:(ofBytes b).length=b.size:=by simp[ofBytes]
  refine py (v:= .slice (some ⟨w.heap.size,0,none⟩) b.size (grownCap w b.size 0 e)) k1 g1 g2 ?_ (λ_=>⟨λb' Gr=> .inl (Lib.bytesWorld_at_old w e b b' Gr),λq hq=>hq.imp_right (λe=>by omega)⟩) ?_
  ·have:=LR.Nl (ρ:=ρ) (w:=Lib.bytesWorld w e b) (T:=λq=>T q\/q=w.heap.size) (b:=w.heap.size) (o:=0) (cap:=grownCap w b.size 0 e) (ex:=false) q1 (.inr rfl) q2 (λj x hx=>?_) (by rw[hl];exact grownCap_ge w b.size 0 e) (by simp)
   ·rw[hl]at this;exact VR.bB this
   ·have hj:=cU hx
    simp at hj
    rw[abO,Lib.bytesWorld_cell w e b j hj]
    simp only[abl]at hx
    rw[<-hx]
    simp[List.getD,hj]
  ·simp only[execOp,ho,hx,Sem.run_bind,Lib.run_convert_string_bytes w s t e b hsrc ht he',Result.andThen_ok]
   rfl
 ·exact k1.elim
theorem Nx{neg:Bool}{op:BinOp}{t u e:TypeId}{x y:Operand}{x' y':X}(ho:o.op= .binOp op t x y u)(hop:op=bif neg then .neq else .eql)(ht:P.underlying t=some (.pointer e))(h1:cX x=some x')(h2:cX y=some y')
  (h:dA C env rows (.yU neg x' y') k):bI P n o ρ T env rows a w k:=by
 obtain⟨dx,he,hk⟩:=ak h
 obtain⟨dy,uW,hk⟩:=ak hk
 have Tc:=bD h1 he hs hG
 split at hk
 ·have hy:=eP h2 uW hs hG
  have e0:Op.maxDepth=9999+1:=rfl
  have hsome:∀ad,(Op.equal t (.pointer (some ad)) (.pointer none)).run P w= .ok false w:=by
   intro ad
   rw[Op.equal,e0,Op.equalIn]
   simp only[Sem.run_bind,run_underlying ht,Result.andThen_ok,Sem.run_pure]
  have hnone:(Op.equal t (.pointer none) (.pointer none)).run P w= .ok true w:=by
   rw[Op.equal,e0,Op.equalIn]
   simp only[Sem.run_bind,run_underlying ht,Result.andThen_ok,Sem.run_pure]
   rfl
  have fin:∀ad,a.eval x= .pointer (some ad)->k (.raw (.bool neg)) rows->bI P n o ρ T env rows a w k:=by
   intro ad hx hk
   refine .here hs hk (VR.raw rfl) ?_
   cases neg<;>simp at hop<;>subst hop<;>simp only[execOp,ho,hx,hy,binOp]<;>simp[eqGuard,hsome]
  split at hk
  ·have hx:=eP h1 he hs hG
   refine .here hs hk (VR.raw rfl) ?_
   cases neg<;>simp at hop<;>subst hop<;>simp only[execOp,ho,hx,hy,binOp]<;>simp[eqGuard,hnone]
  ·have lZ:LR ρ w T _ _:=Tc
   generalize hx:a.eval x=v at lZ
   cases lZ with
   |ptr=>exact fin _ hx hk
  ·have lZ:LR ρ w T _ _:=Tc
   generalize hx:a.eval x=v at lZ
   cases lZ with
   |b5=>exact fin _ hx hk
  ·exact hk.elim
 ·exact hk.elim
theorem Td{neg:Bool}{op:BinOp}{t u e:TypeId}{x y:Operand}{x' y':X}(ho:o.op= .binOp op t x y u)(hop:op=bif neg then .neq else .eql)(ht:P.underlying t=some (.slice e))(h1:cX x=some x')(h2:cX y=some y')
  (h:dA C env rows (.M8 neg x' y') k):bI P n o ρ T env rows a w k:=by
 obtain⟨dx,he,hk⟩:=ak h
 obtain⟨dy,uW,hk⟩:=ak hk
 have Tc:=bD h1 he hs hG
 split at hk
 ·have hy:=eP h2 uW hs hG
  have e0:Op.maxDepth=9999+1:=rfl
  have hsome:∀ad len cap,(Op.equal t (.slice (some ad) len cap) (.slice none 0 0)).run P w= .ok false w:=by
   intro ad len cap
   rw[Op.equal,e0,Op.equalIn]
   simp only[Sem.run_bind,run_underlying ht,Result.andThen_ok,Sem.run_pure]
  have hnone:∀len cap,(Op.equal t (.slice none len cap) (.slice none 0 0)).run P w= .ok true w:=by
   intro len cap
   rw[Op.equal,e0,Op.equalIn]
   simp only[Sem.run_bind,run_underlying ht,Result.andThen_ok,Sem.run_pure]
   rfl
  have fin1:∀ad len cap,a.eval x= .slice (some ad) len cap->k (.raw (.bool neg)) rows->bI P n o ρ T env rows a w k:=by
   intro ad len cap hx hk
   refine .here hs hk (VR.raw rfl) ?_
   cases neg<;>simp at hop<;>subst hop<;>simp only[execOp,ho,hx,hy,binOp]<;>simp[eqGuard,hsome]
  have fin0:∀len cap,a.eval x= .slice none len cap->k (.raw (.bool (!neg))) rows->bI P n o ρ T env rows a w k:=by
   intro len cap hx hk
   refine .here hs hk (VR.raw rfl) ?_
   cases neg<;>simp at hop<;>subst hop<;>simp only[execOp,ho,hx,hy,binOp]<;>simp[eqGuard,hnone]
  split at hk
  ·exact fin0 0 0 (eP h1 he hs hG) hk
  ·have lZ:LR ρ w T _ _:=Tc
   generalize hx:a.eval x=v at lZ
   cases lZ with
   |pq _ _ ad cap=>
    cases ad with
    |none=>exact fin0 _ _ hx (hk.1 rfl)
    |some ad=>exact fin1 _ _ _ hx hk.2
   |cD=>exact fin1 _ _ _ hx hk.2
  ·have lZ:LR ρ w T _ _:=Tc
   generalize hx:a.eval x=v at lZ
   cases lZ with
   |AE _ _ _ _ _ ad=>
    cases ad with
    |none=>exact fin0 _ _ hx (hk.1 rfl)
    |some ad=>exact fin1 _ _ _ hx hk.2
   |sl=>exact fin1 _ _ _ hx hk.2
  ·exact hk.elim
 ·exact hk.elim
theorem op_mnz{c:Call}{f:FuncId}{fn:Func}{x:Operand}{x':X}{t e:TypeId}(ho:o.op= .call c)(hc:c.callee= .value (.func f))(hf:P.funcs[f]?=some fn)(hb:fn.body.isSome=false)
  (hn:xW fn.name=true)(hn2:fn.origin= "")(ha:c.args.toList=[x])(hr:fn.resultTypes.toList=[t])(ht:P.underlying t=some (.slice e))(hsh:sh P e=some (.leaf v5))(h1:cX x=some x')
  (h:dA C env rows (.mnz x') k):bI P n o ρ T env rows a w k:=by
 obtain⟨d,he,hk⟩:=ak h
 split at hk
 ·rename_i kd m
  have hx:=eP h1 he hs hG
  obtain⟨rfl,b1,b2,hk⟩:=hk
  obtain⟨m0,rfl⟩:=aaO b1
  have KZ:m0<=most:=by have:=b2;omega
  obtain⟨cs,l,r1,r2,r3⟩:=run_mnz (P:=P) ht fn.params m0 KZ w
  have hl:m0<=l.length:=by
   have:cs.toList.length=l.length:=by rw[r3];simp
   simp at this;omega
  have hargs:c.args=#[x]:=by apply aca;simpa using ha
  have hres:fn.resultTypes=#[t]:=by apply aca;simpa using hr
  have Ns:=hk (l.take m0) (by simp;omega)
  have gJ:∀d∈(l.take m0).map (λb=>D.raw (.int .u8 (b.toNat:Int))),aL L8 d:=λd hd=>by
   obtain⟨b,_,rfl⟩:=ac6.1 hd
   exact .leaf _ _ rfl
  have my:∀l:List (BitVec 8),au (l.map λb=>D.raw (.int .u8 (b.toNat:Int)))=l.map λb=>D.raw (.int .u8 (b.toNat:Int)):=by
   intro l
   induction l with
   |nil=>rfl
   |cons b l ih=>simp[au,D.flat,ih]
  have bN:∀l:List (BitVec 8),aW (LR ρ w T) (l.map λb=>D.raw (.int .u8 (b.toNat:Int))) (l.map λb=>Value.int .u8 (b.toNat:Int)):=by
   intro l
   induction l with
   |nil=>exact .nil
   |cons b l ih=>exact .cons (.raw _ rfl) ih
  obtain⟨q1,q2⟩:=(hs.heap (w':=w.drew.drew) rfl).push (w':=w.drew.drew.alloc (.cells cs e)) ⟨L8,(l.take m0).map λb=>D.raw (.int .u8 (b.toNat:Int))⟩ cs e rfl rfl rfl rfl gJ (by rw[my];simp;omega) (by
   rw[my,r3]
   have e1:((l.take m0).map λb=>D.raw (.int .u8 (b.toNat:Int))).length=m0:=by simp;omega
   rw[e1,<-List.map_take]
   exact(bN (l.take m0)).mono λa b h=>h.mono (λ_ _ h=>h) (λ_ _=>rfl) (λ_ h=>h))
  refine py (v:= .slice (some ⟨w.heap.size,0,none⟩) m0 cs.size) Ns q1 ⟨q2.pl,q2.tt,q2.vK,q2.size,q2.keep,q2.fresh,q2.os,q2.tape,q2.output,q2.len,q2.same⟩ ?_ (λ_=>⟨λb hb=> .inl (sO (w:=w.drew.drew) hb),λ_ h=> .inl h⟩) ?_
  ·have:=LR.sl (ρ:=tX ρ rows.length ⟨w.heap.size,L8,cs.size,false⟩) (w:=w.drew.drew.alloc (.cells cs e)) (T:=T) L8 rows.length [] 0 m0 false ⟨w.heap.size,L8,cs.size,false⟩ cs.size (by simp[tX]) r2 (by simp) (.inl ⟨rfl,rfl,rfl,by simp[Sh.size]⟩)
   simpa[Loc.off]using VR.bB this
  ·have Gr:fn.body.isNone=true:=by cases hq:fn.body<;>simp_all
   have hx':c.args.map a.eval=#[Value.int .i64 m0]:=by rw[hargs];simp[hx]
   have he:=Yf hn
   rw[hres]at he
   have:=run_callFunc_extern hf (A2 hn hn2).2 Gr (A2 hn hn2).1 he #[.int .i64 m0] w
   rw[r1]at this
   simp[execOp,ho,resolve,hc,Act.eval,Deferred.ofValue,invoke]
   rw[hx',this]
   rfl
 ·exact hk.elim
theorem op_idxb{c:Call}{f:FuncId}{fn:Func}{x y:Operand}{x' y':X}(ho:o.op= .call c)(hc:c.callee= .value (.func f))(hf:P.funcs[f]?=some fn)(hb:fn.body.isSome=false)
  (hn:fn.name=AR)(hn2:fn.origin= "")(ha:c.args.toList=[x,y])(h1:cX x=some x')(h2:cX y=some y')(h:dA C env rows (.P0 x' y') k):bI P n o ρ T env rows a w k:=by
 obtain⟨d,he,hk⟩:=ak h
 split at hk
 ·rename_i b
  obtain⟨d2,uW,hk⟩:=ak hk
  split at hk
  ·rename_i ch
   have hx:=eP h1 he hs hG
   have hy:=eP h2 uW hs hG
   have hargs:c.args=#[x,y]:=by apply aca;simpa using ha
   refine .here hs hk (VR.raw rfl) (v:= .int .i64 (UM ch b)) ?_
   have:=run_idx hf hb hn hn2 b ch w
   have hx':c.args.map a.eval=#[.string b,.int .u8 ch]:=by rw[hargs];simp[hx,hy]
   simp[execOp,ho,resolve,hc,Act.eval,Deferred.ofValue,invoke]
   rw[hx',this]
  ·exact hk.elim
 ·exact hk.elim
theorem op_mkf{f:Nat}{first cap:Array Operand}{x:Operand}{x':X}(ho:o.op= .makeFunc (.func f) first cap)(hf:first.isEmpty=true)(hc:cap.toList=[x])(h1:cX x=some x')(h:dA C env rows (.mkf f x') k):bI P n o ρ T env rows a w k:=by
 obtain⟨d,he,hk⟩:=ak h
 have hv:=bD h1 he hs hG
 split at hk
 ·rename_i s r p
  have lZ:LR ρ w T (.ptr s r p) _:=hv
  generalize hx:a.eval x=v at lZ
  have e1:first=#[]:=by simpa using hf
  have e2:cap=#[x]:=by apply aca;simpa using hc
  cases lZ with
  |ptr _ _ _ L hL hp=>
   refine .here hs hk (VR.bB (.Ed f s r p L hL hp)) ?_
   simp[execOp,ho,e1,e2,hx,Instr.makeFunc]
 ·exact hk.elim
theorem op_s2a{t e:TypeId}{m:Nat}{x:Operand}{x':X}{s:Sh}(ho:o.op= .sliceToArrayPointer t x)(ht:P.underlying t=some (.array m e))(h1:cX x=some x')
  (h:dA C env rows (.s2a m s x') k):bI P n o ρ T env rows a w k:=by
 obtain⟨d,he,hk⟩:=ak h
 have hv:=bD h1 he hs hG
 have hrun:∀ad len cap,m<=len->(Instr.arrayAt t (.slice ad len cap)).run P w= .ok (.pointer ad) w:=by
  intro ad len cap hlen
  simp[Instr.arrayAt,run_underlying ht,Nat.not_lt.2 hlen]
 split at hk
 ·rename_i t' r p off len ex
  obtain⟨rfl,hn,h0,hk⟩:=hk
  have lZ:LR ρ w T (.sl t' r p off len ex) _:=hv
  generalize hx:a.eval x=v at lZ
  cases lZ with
  |AE=>omega
  | sl _ _ _ _ _ _ L cap hL g1 g2 g3 =>
   refine .here hs hk (VR.bB (.nk m t' r p off L hL ?_)) (v:= .pointer (some ⟨L.b,L.off p+off*t'.size,none⟩)) ?_
   ·rcases g3 with⟨q1,q2,q3⟩|⟨q,q1,q2⟩
    ·exact .inl ⟨q1,q2,q3.1,abg (abH _ (by omega)) q3.2⟩
    ·exact .inr ⟨q,q1,by omega⟩
   ·simp[execOp,ho,hx,hrun _ _ _ hn]
 ·rename_i t' l ex
  obtain⟨rfl,hn,h0,hk⟩:=hk
  have lZ:LR ρ w T (.cD t' l ex) _:=hv
  generalize hx:a.eval x=v at lZ
  cases lZ with
  |pq=>simp at hn;omega
  | cD _ _ _ b o' cap f c1 hb c2 c3 c4 c5 =>
   obtain⟨q1,q2⟩:=AU (d:=default) c2 c3
   have fG:au (l.take m)=(au l).take (au (l.take m)).length:=by
    have:au l=au (l.take m)++au (l.drop m):=by rw[<-dJ,abq]
    rw[this,aa3]
   have gJ:∀d∈l.take m,aL t' d:=λd hd=>c1 d (aa5 hd)
   have hsh:aL (.ar m t') (.agg (.ar m t') (l.take m)):= .agg _ _ rfl (by simp[Sh.count];omega) (λi e d hi hd=>by
    simp only[Sh.sub]at hi
    split at hi
    ·cases hi;exact gJ d (bH hd)
    ·cases hi)
   have q3:=q1.take (au (l.take m)).length
   rw[<-fG]at q3
   refine .here hs hk (VR.bB (LR.zJ hsh hb (by simpa[D.flat]using q3) (q2.take _))) ?_
   simp[execOp,ho,hx,hrun _ _ _ hn]
 ·exact hk.elim
end ops
end Go.Am

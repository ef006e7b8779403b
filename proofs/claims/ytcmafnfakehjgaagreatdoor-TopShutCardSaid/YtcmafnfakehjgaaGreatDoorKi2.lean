import Derived.Test.YtcmafnfakehjgaaGreatDoorKi1
import Derived.Laws.StructEq
import Derived.ChangeKeysEq
import Derived.Laws.BytesString
import Derived.Lib.ConvBytes
import Derived.Laws.Externs
set_option linter.unusedSimpArgs false
set_option linter.unusedVariables false
namespace Go.Am
variable {C:aU} {P:Program} {n:Nat} {ρ:Pl} {T:Nat->Prop} {env:Env} {rows:Rows} {a:Act} {w:World}
theorem yO{t:TypeId}{s:Sh}(h:sh P t=some s):∃i,P.info? t=some i/\i.size=s.size:=by
 unfold sh at h
 split at h
 ·split at h
  ·rename_i i hi
   cases hb:(i.size==_)with
   |false=>rw[hb]at h;simp at h
   |true=>
    rw[hb]at h
    simp at h
    subst h
    exact⟨i,hi,by simpa using hb⟩
  ·cases h
 ·cases h
theorem run_sizeOf{t:TypeId}{s:Sh}(h:sh P t=some s)(w:World):(sizeOf t).run P w= .ok s.size w:=by
 obtain⟨i,hi,hs⟩:=yO h
 simp[sizeOf,typeInfo,hi,hs]
theorem Pp{t:TypeId}{s:Sh}(h:mN P t s=true):∃d,P.underlying t=some d/\Sm d=s.isAgg:=by
 unfold mN at h
 split at h
 ·rename_i d hd
  exact⟨d,hd,by simpa using h⟩
 ·cases h
theorem yP{t:TypeId}{s:Sh}(h:mN P t s=true)(w:World):(isAgg t).run P w= .ok s.isAgg w:=by
 obtain⟨d,hd,he⟩:=Pp h
 rw[<-he]
 cases d<;>simp[isAgg,run_underlying hd,Sm]
def gZ(s:Sh)(cs:List Value):Value:=if s.isAgg then .agg cs.toArray else cs.headD undef
theorem nF{t:TypeId}{s:Sh}(h:sh P t=some s)(hl:mN P t s=true){b o:Nat}{cs:List Value}(Lo:At w b o cs)(hlen:cs.length=s.size)(hone:s.isAgg=false->cs.length=1):
  (loadVar t ⟨b,o,none⟩).run P w= .ok (gZ s cs) w:=by
 cases hs:s.isAgg with
 |true=>
  have hc:=run_loadCells_list (P:=P) w ⟨b,o,none⟩ cs (λj v hv=>by rw[nE];exact Lo j v hv)
  rw[hlen]at hc
  simp[loadVar,yP hl,run_sizeOf h,hs,gZ,hc]
 | false =>
  have h1:=hone hs
  match cs,h1 with
  |[x],_=>
   have:=Lo 0 x rfl
   simp at this
   simp[loadVar,yP hl,hs,gZ,this]
theorem VR.gZ{s:Sh}{d:D}{cs:List Value}(h:aL s d)(hc:aW (LR ρ w T) d.flat cs):VR ρ w T d (Am.gZ s cs):=by
 unfold Am.gZ
 cases hs:s.isAgg with
 |true=>exact VR.zP (sJ.Pk h hs (by simpa using hc))
 |false=>
  have hl:=h.qY hs
  rw[cn hl]at hc
  have:=hc.len
  match cs,this with
  |[x],_=>exact VR.bE hc.head
theorem rf{s:Sh}{d:D}{cs:List Value}(h:aL s d)(hc:aW (LR ρ w T) d.flat cs):s.isAgg=false->cs.length=1:=by
 intro hs
 rw[<-hc.len,cn (h.qY hs)]
 rfl
theorem p9{s t:Sh}{l:List D}(h:aL s (.agg t l)):s=t/\s.isAgg=true:=by
 cases h with
 |ref _ h=>simp[D.eZ]at h
 |agg _ _ h _ _=>exact⟨rfl,h⟩
theorem fits_sh{s t:Sh}{d:D}(h:aL t d)(hf:d.fits s=true):aL s d:=by
 cases d with
 |agg u l=>
  simp[D.fits]at hf
  subst hf
  obtain⟨rfl,_⟩:=p9 h
  exact h
 |cd l=>cases s<;>simp[D.fits]at hf
 |raw v=>
  cases s<;>simp[D.fits]at hf
  ·exact .leaf _ v hf
  ·exact .ref _ hf
 | _=>cases s<;>simp[D.fits]at hf;exact .ref _ hf
theorem Loc.yL{L:Loc}{p:List Nat}{s:Sh}(h:L.at p=some s)(i:Nat):L.at (p++[i])=s.sub i/\L.off (p++[i])=L.off p+s.lP i:=by
 cases p with
 |nil=>simp[Loc.at]at h
 |cons j p=>
  have hm:=Loc.Hy h
  rw[Loc.yM hm]at h
  refine⟨by simp only[abu,Loc.yM hm];exact Am.yL p i h,?_⟩
  simp only[abu,Loc.off]
  rw[Pj p i h]
  omega
theorem Lp{s e:Sh}{l:List D}{i:Nat}{d:D}{v:Value}(hv:LR ρ w T (.cb (.agg s l)) v)(fK:s.sub i=some e)(hd:l[i]?=some d):
  ∃b o',v= .pointer (some ⟨b,o',none⟩)/\LR ρ w T (.cb d) (.pointer (some ⟨b,o'+s.lP i,none⟩)):=by
 obtain⟨b,o',cs,s',hx,g1,hT,g2,g3⟩:=LR.BC hv
 obtain⟨rfl,ha⟩:=p9 g1
 obtain⟨d',lz,ri,oI⟩:=g1.part ha fK
 rw[hd]at lz
 cases lz
 simp only[D.flat]at g2
 rw[fY hd]at g2
 refine⟨b,o',hx,.AE (cs:=(cs.drop (ak (l.take i)).length).take d.flat.length) ri hT ?_ ?_⟩
 ·have:=(g2.drop (ak (l.take i)).length).take d.flat.length
  rwa [aa9,aaW]at this
 ·rw[<-oI]
  exact(g3.drop _).take _
theorem HG{t:TypeId}{s:Sh}{cs:Array Value}{o':Nat}{ms:List Value}(hsh:sh P t=some s)(hl:mN P t s=true)(hlen:ms.length=s.size)(hone:s.isAgg=false->ms.length=1)
  (xa:(cs.toList.drop o').take ms.length=ms):(part t cs o').run P w= .ok (Am.gZ s ms) w:=by
 cases hsa:s.isAgg with
 | true =>
  have:cs.extract o' (o'+s.size)=ms.toArray:=by
   apply ace
   rw[Array.toList_extract]
   simp only[List.extract]
   rw[show o'+s.size-o'=ms.length by omega,xa]
  simp[part,yP hl,hsa,run_sizeOf hsh,gZ,this]
 | false =>
  have h1:=hone hsa
  match ms,h1 with
  | [x], _ =>
   have hx:cs[o']?=some x:=by
    have:=ach (λl=>l[0]?) xa
    simpa[abi]using this
   simp[part,yP hl,hsa,gZ,hx]
theorem iD{o:Oper}{c:Call}{b:Builtin}(ho:o.op= .call c)(hc:c.callee= .builtin b):
  execOp a.eval o=builtin b c.argTypes o.type (c.args.map fun| .const _=>true| _=>false) (c.args.map a.eval):=by
 simp only[execOp,ho,resolve,hc]
 rfl
section ops
variable (hs:eQ n ρ T env rows a w) (hG:wQ C ρ w T) {o:Oper} {k:D->Rows->Prop}
include hs hG
theorem op_load{t:TypeId}{x:Operand}{x':X}{s:Sh}(ho:o.op= .load t x)(hsh:sh P t=some s)(hl:mN P t s=true)(h1:cX x=some x')(h:dX C env rows (.load s x') k):bV P n o ρ T env rows a w k:=by
 obtain⟨d,he,hk⟩:=au h
 have hv:=bH h1 he hs hG
 split at hk
 ·obtain⟨rfl,hk⟩:=hk
  obtain⟨row,zQ,hk⟩:=au hk
  obtain⟨d,hg,hk⟩:=au hk
  obtain⟨b,o',cs,hx,g1,g2,g3⟩:=hs.bF.M6 hv zQ hg
  refine .here hs hk (VR.gZ g1 g2) ?_
  have hlen:=g2.len
  rw[g1.len]at hlen
  simp[execOp,ho,hx,Instr.loadAt,Instr.sureAddr,nF hsh hl g3 hlen.symm (rf g1 g2)]
 ·obtain⟨hf,hk⟩:=hk
  obtain⟨b,o',cs,s',hx,g1,_,g2,g3⟩:=LR.BC hv
  have g1':=fits_sh g1 hf
  refine .here hs hk (VR.gZ g1' g2) ?_
  have hlen:cs.length=Sh.size s:=by rw[<-g2.len,g1'.len]
  simp[execOp,ho,hx,Instr.loadAt,Instr.sureAddr,nF hsh hl g3 hlen (rf g1' g2)]
 ·rename_i m t r p off
  obtain⟨rfl,hk⟩:=hk
  obtain⟨l,nA,hk⟩:=au hk
  obtain⟨hlen,hk⟩:=hk
  have mW:LR ρ w T (.nX m t r p off) _:=hv
  generalize hx:a.eval x=v at mW
  cases mW with
  | nX _ _ _ _ _ L hL h2 =>
   have mH:LR ρ w T (.sl t r p off m false) (.slice (some ⟨L.b,L.off p+off*t.size,none⟩) m m):= .sl t r p off m false L m hL (aax _) (by simp) h2
   obtain⟨ad,cap,cs,hH⟩:=hs.bF.holds (s:=t) mH nA rfl hlen (by simp[fg])
   have Lo:At w L.b (L.off p+off*t.size) cs:=by
    intro j y hy
    obtain⟨b,o',e1,e2⟩:=hH.at_ j y hy
    have e3:=hH.hv
    rw[e1]at e3
    cases e3
    exact e2
   have hsh':aL (.ar m t) (.agg (.ar m t) l):= .agg _ l rfl (by simp[Sh.count,hlen]) (λi e d hi hd=>by
    simp only[Sh.sub]at hi
    split at hi
    ·cases hi;exact hH.els d (bQ hd)
    ·cases hi)
   have RV:aW (LR ρ w T) (D.agg (.ar m t) l).flat cs:=by simpa[D.flat]using hH.hcs
   have jt:cs.length=Sh.size (.ar m t):=by rw[<-RV.len,hsh'.len]
   refine .here hs hk (VR.gZ hsh' RV) ?_
   simp[execOp,ho,hx,Instr.loadAt,Instr.sureAddr,nF hsh hl Lo jt (rf hsh' RV)]
 ·exact hk.elim
theorem aac{t:TypeId}{x:Operand}{x':X}{s e:Sh}{i:Nat}{fs:Array Field}{f:Field}{inf:TypeInfo}(ho:o.op= .fieldAddr t x i)(hu:P.underlying t=some (.struct fs))(hf:fs[i]?=some f)
  (he':s.sub i=some e)(oI:f.offset=s.lP i)(hinf:P.info? f.type=some inf)(hsz:inf.size=e.size)(hne:e.size≠0)(h1:cX x=some x')(h:dX C env rows (.fx s x' i) k):bV P n o ρ T env rows a w k:=by
 obtain⟨d,he,hk⟩:=au h
 have hv:=bH h1 he hs hG
 have qa:∀b o':Nat,(Instr.fieldAt t (.pointer (some ⟨b,o',none⟩)) i).run P w= .ok (.pointer (some ⟨b,o'+s.lP i,none⟩)) w:=by
  intro b o'
  simp[Instr.fieldAt,run_underlying hu,hf,Instr.sureAddr,fieldPlace,sizeOf,typeInfo,hinf,hsz,hne,oI,nE]
 split at hk
 ·obtain⟨rfl,hk⟩:=hk
  obtain⟨e2,xq,hk⟩:=au hk
  have hl:LR ρ w T _ _:=hv
  generalize hx:a.eval x=v at hl
  cases hl with
  |ptr _ _ _ L hL hp=>
   obtain⟨g1,g2⟩:=L.yL hp i
   refine .here hs hk (VR.bE (.ptr _ _ _ L hL (g1.trans xq))) ?_
   rw[g2]
   simp[execOp,ho,hx,qa]
 ·obtain⟨rfl,hk⟩:=hk
  obtain⟨d2,xu,hk⟩:=au hk
  obtain⟨b,o',hx,g1⟩:=Lp (show LR ρ w T _ _ from hv) he' xu
  refine .here hs hk (VR.bE g1) ?_
  simp[execOp,ho,hx,qa]
 ·exact hk.elim
theorem aad{t:TypeId}{x:Operand}{x':X}{s e:Sh}{i:Nat}{fs:Array Field}{f:Field}(ho:o.op= .field t x i)(hu:P.underlying t=some (.struct fs))(hf:fs[i]?=some f)
  (he':s.sub i=some e)(oI:f.offset=s.lP i)(hsh:sh P f.type=some e)(hl:mN P f.type e=true)(h1:cX x=some x')(h:dX C env rows (.field s x' i) k):bV P n o ρ T env rows a w k:=by
 obtain⟨d,he,hk⟩:=au h
 have hv:=bH h1 he hs hG
 split at hk
 ·rename_i u l
  obtain⟨rfl,hk⟩:=hk
  obtain⟨d2,xu,hk⟩:=au hk
  obtain⟨cs,hx,g1,g2⟩:=hv
  obtain⟨_,ha⟩:=p9 g1
  obtain⟨d',lz,ri,aae⟩:=g1.part ha he'
  rw[xu]at lz
  cases lz
  rw[fY xu]at g2
  have g3:=(g2.drop (ak (List.take i l)).length).take d2.flat.length
  rw[aa9,aaW,aae]at g3
  refine .here hs hk (VR.gZ ri g3) ?_
  have hlen:=g3.len
  have:=HG (w:=w) (o':=f.offset) (ms:=(cs.toList.drop (Sh.lP u i)).take d2.flat.length) hsh hl (by rw[<-hlen,ri.len]) (rf ri g3) (by rw[<-hlen,oI])
  simp[execOp,ho,hx,Instr.field,run_underlying hu,hf,asAgg,this]
 ·exact hk.elim
theorem W3{t e:TypeId}{x i:Operand}{x' i':X}{s:Sh}{m:Nat}(ho:o.op= .indexAddr t x i)(hu:P.underlying t=some (.array m e))(hsh:sh P e=some s)(h1:cX x=some x')(h2:cX i=some i')
  (h:dX C env rows (.xf m s x' i') k):bV P n o ρ T env rows a w k:=by
 obtain⟨d,he,hk⟩:=au h
 obtain⟨d2,xq,hk⟩:=au hk
 have hv:=bH h1 he hs hG
 split at hk
 ·rename_i kd j
  have hi:=fh h2 xq hs hG
  have qa:∀b o':Nat,0<=j->j<(m:Int)->(Instr.indexAt t (.pointer (some ⟨b,o',none⟩)) (.int kd j)).run P w= .ok (.pointer (some ⟨b,o'+j.toNat*s.size,none⟩)) w:=by
   intro b o' g1 g2
   simp[Instr.indexAt,asIntOf,run_underlying hu,Instr.sureAddr,g1,g2,run_sizeOf hsh,nE]
  split at hk
  ·rename_i t' r p
   obtain⟨rfl,g1,g2,hk⟩:=hk
   have hl:LR ρ w T _ _:=hv
   generalize hx:a.eval x=v at hl
   cases hl with
   |ptr _ _ _ L hL hp=>
    obtain⟨g3,g4⟩:=L.yL hp j.toNat
    have g5:(Sh.ar m s).sub j.toNat=some s:=by simp[Sh.sub];omega
    refine .here hs hk (VR.bE (.ptr _ _ _ L hL (g3.trans g5))) ?_
    rw[g4]
    simp only[Sh.lP]
    simp[execOp,ho,hx,hi,qa _ _ g1 g2]
  ·rename_i t' l
   obtain⟨rfl,g1,g2,hk⟩:=hk
   obtain⟨d3,KD,hk⟩:=au hk
   have g5:(Sh.ar m s).sub j.toNat=some s:=by simp[Sh.sub];omega
   obtain⟨b,o',hx,g6⟩:=Lp (show LR ρ w T _ _ from hv) g5 KD
   refine .here hs hk (VR.bE g6) ?_
   simp only[Sh.lP]
   simp[execOp,ho,hx,hi,qa _ _ g1 g2]
  ·exact hk.elim
 ·exact hk.elim
theorem W4{t e:TypeId}{x i:Operand}{x' i':X}{s:Sh}(ho:o.op= .indexAddr t x i)(hu:P.underlying t=some (.slice e))(hsh:sh P e=some s)(h1:cX x=some x')(h2:cX i=some i')
  (h:dX C env rows (.js s x' i') k):bV P n o ρ T env rows a w k:=by
 obtain⟨d,he,hk⟩:=au h
 obtain⟨d2,xq,hk⟩:=au hk
 have hv:=bH h1 he hs hG
 split at hk
 ·rename_i kd j
  have hi:=fh h2 xq hs hG
  have qa:∀b o' len cap:Nat,0<=j->j<(len:Int)->(Instr.indexAt t (.slice (some ⟨b,o',none⟩) len cap) (.int kd j)).run P w= .ok (.pointer (some ⟨b,o'+j.toNat*s.size,none⟩)) w:=by
   intro b o' len cap g1 g2
   simp[Instr.indexAt,asIntOf,run_underlying hu,Instr.sureAddr,g1,g2,run_sizeOf hsh,nE]
  split at hk
  ·rename_i t' r p off len ex hq
   obtain⟨rfl,g1,g2,hk⟩:=hk
   have hl:LR ρ w T _ _:=hv
   generalize hx:a.eval x=v at hl
   cases hl with
   |Bm=>simp at g2;omega
   | sl _ _ _ _ _ _ L cap hL c1 c2 c3 =>
    have key:L.at (p++[off+j.toNat])=some t'/\L.off (p++[off+j.toNat])=L.off p+off*t'.size+j.toNat*t'.size:=by
     rcases c3 with⟨rfl,rfl,hm,_⟩|⟨m,c3,c4⟩
     ·refine⟨by simp[Loc.at,Sh.at,hm],?_⟩
      simp[Loc.off,Sh.off,adF]
     ·obtain⟨g3,g4⟩:=L.yL c3 (off+j.toNat)
      refine⟨g3.trans (by simp[Sh.sub];omega),?_⟩
      rw[g4]
      simp[Sh.lP,adF]
      omega
    refine .here hs hk (VR.bE (.ptr _ _ _ L hL key.1)) ?_
    rw[key.2]
    simp[execOp,ho,hx,hi,qa _ _ _ _ g1 g2]
  ·rename_i t' l ex hq
   obtain⟨rfl,g1,g2,hk⟩:=hk
   obtain⟨d3,KD,hk⟩:=au hk
   have hl:LR ρ w T _ _:=hv
   generalize hx:a.eval x=v at hl
   cases hl with
   |qC=>simp at g2;omega
   | dh _ _ _ b o' cap f c1 hb c2 c3 c4 c5 =>
    obtain⟨cs,c6,c7⟩:∃cs,aW (LR ρ w T) (ak l) cs/\At w b o' cs:=⟨_,BB (d:=default) c2 c3⟩
    rw[fY KD]at c6
    have c8:=(c6.drop (ak (l.take j.toNat)).length).take d3.flat.length
    rw[aa9,aaW]at c8
    have oI:(ak (l.take j.toNat)).length=j.toNat*t'.size:=by
     rw[be (λd hd=>c1 d (aaY hd)),aau,abI (aen (dj KD))]
    refine .here hs hk (VR.bE (.AE (c1 _ (bQ KD)) hb c8 ((c7.drop _).take _))) ?_
    rw[oI]
    simp[execOp,ho,hx,hi,qa _ _ _ _ g1 g2]
  ·exact hk.elim
 ·exact hk.elim
theorem aaf{t e:TypeId}{x i:Operand}{x' i':X}{s:Sh}{m:Nat}(ho:o.op= .index t x i)(hu:P.underlying t=some (.array m e))(hsh:sh P e=some s)(hlf:mN P e s=true)(h1:cX x=some x')(h2:cX i=some i')
  (h:dX C env rows (.index m s x' i') k):bV P n o ρ T env rows a w k:=by
 obtain⟨d,he,hk⟩:=au h
 have hv:=bH h1 he hs hG
 split at hk
 ·rename_i t' l
  obtain⟨d2,xq,hk⟩:=au hk
  split at hk
  ·rename_i kd j
   have hi:=fh h2 xq hs hG
   obtain⟨rfl,g1,g2,hk⟩:=hk
   obtain⟨d3,KD,hk⟩:=au hk
   obtain⟨cs,hx,q1,q2⟩:=hv
   have g5:(Sh.ar m s).sub j.toNat=some s:=by simp[Sh.sub];omega
   obtain⟨d',lz,ri,aae⟩:=q1.part rfl g5
   rw[KD]at lz
   cases lz
   rw[fY KD]at q2
   have g3:=(q2.drop (ak (List.take j.toNat l)).length).take d3.flat.length
   rw[aa9,aaW,aae]at g3
   refine .here hs hk (VR.gZ ri g3) ?_
   have hlen:=g3.len
   have:=HG (w:=w) (o':=j.toNat*s.size) (ms:=(cs.toList.drop (Sh.lP (.ar m s) j.toNat)).take d3.flat.length) hsh hlf (by rw[<-hlen,ri.len]) (rf ri g3) (by rw[<-hlen];rfl)
   simp[execOp,ho,hx,hi,Instr.index,asIntOf,run_underlying hu,g1,g2,run_sizeOf hsh,this]
  ·exact hk.elim
 ·exact hk.elim
theorem W5{t:TypeId}{x i:Operand}{x' i':X}(ho:o.op= .index t x i)(hu:P.underlying t=some .string)(h1:cX x=some x')(h2:cX i=some i')
  (h:dX C env rows (.vk x' i') k):bV P n o ρ T env rows a w k:=by
 obtain⟨d,he,hk⟩:=au h
 split at hk
 ·rename_i b
  obtain⟨d2,xq,hk⟩:=au hk
  split at hk
  ·rename_i kd j
   have hx:=fh h1 he hs hG
   have hi:=fh h2 xq hs hG
   obtain⟨g1,hk⟩:=hk
   obtain⟨c,hc,hk⟩:=au hk
   refine .here hs hk (VR.raw rfl) ?_
   have eX:b[j.toNat]?=some c:=by
    have hlt:=dj hc
    have aag:j.toNat<b.size:=by simpa using hlt
    rw[aao hlt]at hc
    simp at hc
    rw[getElem?_pos b j.toNat aag]
    simp[<-hc]
    rfl
   simp[execOp,ho,hx,hi,Instr.index,asIntOf,run_underlying hu,g1,eX]
  ·exact hk.elim
 ·exact hk.elim
end ops
end Go.Am
namespace Go.Am
variable {C:aU} {P:Program} {n:Nat} {ρ:Pl} {T:Nat->Prop} {env:Env} {rows:Rows} {a:Act} {w:World}
theorem aah{d:D}{v:Value}{k:Nat}(h:LR ρ w T d v)(hk:dW d=some k):∃ad cap,v= .slice ad k cap:=by
 cases h with
 | raw v hv =>
  cases v with
  |slice b len cap=>
   cases b<;>cases len<;>cases cap<;>simp[dW]at hk
   subst hk
   exact⟨_,_,rfl⟩
  | _=>simp[dW]at hk
 |ptr=>simp[dW]at hk
 |cb=>simp[dW]at hk
 |nX=>simp[dW]at hk
 |Fx=>simp[dW]at hk
 |mp=>simp[dW]at hk
 |om=>simp[dW]at hk
 |sl=>simp[dW]at hk;subst hk;exact⟨_,_,rfl⟩
 |Bm=>simp[dW]at hk;subst hk;exact⟨_,_,rfl⟩
 |qC=>simp[dW]at hk;subst hk;exact⟨_,_,rfl⟩
 |dh=>simp[dW]at hk;subst hk;exact⟨_,_,rfl⟩
theorem Lq{d:D}{k:Nat}(hk:dW d=some k):d.eZ=true:=by
 cases d<;>simp_all[dW,D.eZ]
 split at hk<;>simp_all[Value.oneCell']
theorem mX{x:Option Operand}{y:Option X}{z:Option Int}(hc:Pc x=some y)(he:Ks C env y=some z)(hs:eQ n ρ T env rows a w)(hG:wQ C ρ w T):
  (x.map a.eval=none/\z=none)\/∃kd i,x.map a.eval=some (.int kd i)/\z=some i:=by
 cases x with
 |none=>
  simp[Pc]at hc
  subst hc
  simp[Ks]at he
  exact .inl ⟨rfl,he.symm⟩
 | some x =>
  simp only[Pc]at hc
  cases hx:cX x with
  |none=>simp[hx]at hc
  | some x' =>
   simp[hx]at hc
   subst hc
   simp only[Ks]at he
   split at he
   ·rename_i kd i hh
    simp at he
    subst he
    exact .inr ⟨kd,i,by simp[fh hx hh hs hG],rfl⟩
   ·cases he
theorem run_sliceBound{kd:IntKind}{i:Int}{y:Nat}{code:BoundsCode}(h0:0<=i)(h1:i<=(y:Int))(w:World):(Instr.sliceBound (.int kd i) y code).run P w= .ok i.toNat w:=by
 simp[Instr.sliceBound,asIntOf,h0,h1]
theorem qb{isSlice:Bool}{len cap:Nat}{lo hi mx:Option Value}{l h m:Option Int}{L H M:Nat}
  (hl:(lo=none/\l=none)\/∃kd i,lo=some (.int kd i)/\l=some i)(hh:(hi=none/\h=none)\/∃kd i,hi=some (.int kd i)/\h=some i)
  (hm:(mx=none/\m=none)\/∃kd i,mx=some (.int kd i)/\m=some i)(hmh:mx.isSome=true->hi.isSome=true)
  (eL:l.getD 0=(L:Int))(eH:h.getD len=(H:Int))(eM:m.getD cap=(M:Int))(h1:L<=H)(h2:H<=M)(h3:M<=cap)(w:World):
  (Instr.sliceBounds isSlice len cap lo hi mx).run P w= .ok (L,H,M) w:=by
 have key:∀{kd:IntKind} {i:Int} {y z:Nat} {code:BoundsCode},i=(z:Int)->z<=y->(Instr.sliceBound (.int kd i) y code).run P w= .ok z w:=by
  intro kd i y z code e hz
  subst e
  rw[run_sliceBound (by omega) (by omega)]
  simp
 rcases hm with⟨rfl,rfl⟩|⟨km,im,rfl,rfl⟩
 ·simp at eM
  rcases hh with⟨rfl,rfl⟩|⟨kh,ih,rfl,rfl⟩
  ·simp at eH
   rcases hl with⟨rfl,rfl⟩|⟨kl,il,rfl,rfl⟩
   ·simp at eL
    simp[Instr.sliceBounds,<-eL,eH,eM]
    omega
   ·simp at eL
    simp[Instr.sliceBounds,key (kd:=kl) (y:=len) eL (by omega)]
    omega
  ·simp at eH
   have kH:=λ(c:BoundsCode)=>key (kd:=kh) (y:=cap) (code:=c) eH (by omega)
   rcases hl with⟨rfl,rfl⟩|⟨kl,il,rfl,rfl⟩
   ·simp at eL
    cases isSlice<;>simp[Instr.sliceBounds,kH]<;>omega
   ·simp at eL
    have kL:=λ(c:BoundsCode)=>key (kd:=kl) (y:=H) (code:=c) eL (by omega)
    cases isSlice<;>simp[Instr.sliceBounds,kH,kL]<;>omega
 ·simp at eM
  have kM:=λ(c:BoundsCode)=>key (kd:=km) (y:=cap) (code:=c) eM (by omega)
  rcases hh with⟨rfl,rfl⟩|⟨kh,ih,rfl,rfl⟩
  ·simp at hmh
  ·simp at eH
   have kH:=λ(c:BoundsCode)=>key (kd:=kh) (y:=M) (code:=c) eH (by omega)
   rcases hl with⟨rfl,rfl⟩|⟨kl,il,rfl,rfl⟩
   ·simp at eL
    cases isSlice<;>simp[Instr.sliceBounds,kH,kM]<;>omega
   ·simp at eL
    have kL:=λ(c:BoundsCode)=>key (kd:=kl) (y:=H) (code:=c) eL (by omega)
    cases isSlice<;>simp[Instr.sliceBounds,kH,kL,kM]<;>omega
section ops
variable (hs:eQ n ρ T env rows a w) (hG:wQ C ρ w T) {o:Oper} {k:D->Rows->Prop}
include hs hG
theorem op_len{c:Call}{x:Operand}{x':X}{t e:TypeId}{ts:List TypeId}(ho:o.op= .call c)(hc:c.callee= .builtin .len)(ha:c.args.toList=[x])(hts:c.argTypes.toList=t::ts)
  (hu:P.underlying t=some (.slice e))(h1:cX x=some x')(h:dX C env rows (.len x') k):bV P n o ρ T env rows a w k:=by
 obtain⟨d,he,hk⟩:=au h
 obtain⟨j,hj,hk⟩:=au hk
 have hv:=(bH h1 he hs hG).Bz (Lq hj)
 obtain⟨ad,cap,hx⟩:=aah hv hj
 have hargs:c.args=#[x]:=by apply ace;simpa using ha
 have aai:c.argTypes[0]?=some t:=by
  have:c.argTypes.toList[0]?=some t:=by rw[hts];rfl
  simpa using this
 refine .here hs hk (VR.raw rfl) ?_
 rw[iD ho hc]
 simp[builtin,Builtin.len_,hargs,aai,run_underlying hu,hx,goInt]
theorem W6{c:Call}{x:Operand}{x':X}{t:TypeId}{ts:List TypeId}(ho:o.op= .call c)(hc:c.callee= .builtin .len)(ha:c.args.toList=[x])(hts:c.argTypes.toList=t::ts)
  (hu:P.underlying t=some .string)(h1:cX x=some x')(h:dX C env rows (.Az x') k):bV P n o ρ T env rows a w k:=by
 obtain⟨d,he,hk⟩:=au h
 split at hk
 ·have hx:=fh h1 he hs hG
  have hargs:c.args=#[x]:=by apply ace;simpa using ha
  have aai:c.argTypes[0]?=some t:=by
   have:c.argTypes.toList[0]?=some t:=by rw[hts];rfl
   simpa using this
  refine .here hs hk (VR.raw rfl) ?_
  rw[iD ho hc]
  simp[builtin,Builtin.len_,hargs,aai,run_underlying hu,hx,goInt]
 ·exact hk.elim
theorem W7{t e:TypeId}{x:Operand}{lo hi mx:Option Operand}{x':X}{lo' hi' mx':Option X}{s:Sh}{m:Nat}(ho:o.op= .slice t x lo hi mx)(hu:P.underlying t=some (.array m e))(hsh:sh P e=some s)
  (h1:cX x=some x')(h2:Pc lo=some lo')(h3:Pc hi=some hi')(h4:Pc mx=some mx')(hmh:mx.isSome=true->hi.isSome=true)
  (h:dX C env rows (.Ay m s x' lo' hi' mx') k):bV P n o ρ T env rows a w k:=by
 obtain⟨d,he,k1⟩:=au h
 obtain⟨l,hl,k2⟩:=au k1
 obtain⟨hh,Vc,k3⟩:=au k2
 obtain⟨c,hc,hk⟩:=au k3
 clear k1 k2 k3
 have hv:=bH h1 he hs hG
 obtain⟨b1,b2,b3,b4,hk⟩:=hk
 have hrun:∀(b o':Nat),(Instr.sliceAt t (.pointer (some ⟨b,o',none⟩)) (lo.map a.eval) (hi.map a.eval) (mx.map a.eval)).run P w=
   .ok (.slice (some (if(c.getD m).toNat=(l.getD 0).toNat then⟨b,o',none⟩else⟨b,o'+(l.getD 0).toNat*s.size,none⟩)) ((hh.getD m).toNat-(l.getD 0).toNat) ((c.getD m).toNat-(l.getD 0).toNat)) w:=by
  intro b o'
  have:=qb (P:=P) (isSlice:=false) (len:=m) (cap:=m) (L:=(l.getD 0).toNat) (H:=(hh.getD m).toNat) (M:=(c.getD m).toNat)
   (mX h2 hl hs hG) (mX h3 Vc hs hG) (mX h4 hc hs hG) (by simpa using hmh) (by omega) (by omega) (by omega) (by omega) (by omega) (by omega) w
  simp[Instr.sliceAt,run_underlying hu,Instr.sureAddr,this,run_sizeOf hsh,nE]
 have xv:∀v,a.eval x=v->(execOp a.eval o).run P w=((Instr.sliceAt t v (lo.map a.eval) (hi.map a.eval) (mx.map a.eval)).run P w).andThen λv w'=> .ok (.value v) w':=by
  intro v hx
  simp[execOp,ho,hx]
 generalize hL:(l.getD 0).toNat=L' at hk hrun
 generalize hH:(hh.getD (m:Int)).toNat=H' at hk hrun
 generalize hM:(c.getD (m:Int)).toNat=M' at hk hrun
 split at hk
 ·rename_i t' r p
  obtain⟨rfl,hk⟩:=hk
  have hl:LR ρ w T _ _:=hv
  generalize hx:a.eval x=v at hl
  cases hl with
  | ptr _ _ _ L M5 hp =>
   by_cases hz:M'=L'
   ·have D9:H'-L'=0:=by omega
    have Ku:M'-L'=0:=by omega
    refine .here hs hk (v:= .slice (some ⟨L.b,L.off p,none⟩) 0 0) ?_ ?_
    ·rw[D9];exact VR.bE (.Bm _ _ _ _ _ _)
    ·rw[xv _ hx,hrun];simp[hz,D9,Ku]
   ·refine .here hs hk (v:= .slice (some ⟨L.b,L.off p+L'*s.size,none⟩) (H'-L') (M'-L')) ?_ ?_
    ·refine VR.bE (.sl _ _ _ _ _ _ L _ M5 (by omega) (λhq=>?_) (.inr ⟨m,hp,by omega⟩))
     have:H'=M':=by simpa using hq
     omega
    ·rw[xv _ hx,hrun];simp[hz]
 ·rename_i t' els
  obtain⟨rfl,hk⟩:=hk
  obtain⟨b,o',cs,s',hx,g1,hT,g2,g3⟩:=LR.BC (show LR ρ w T _ _ from hv)
  obtain⟨rfl,ha⟩:=p9 g1
  obtain⟨l',nA,hlen,fK⟩:=g1.jX rfl
  cases nA
  have bW:∀d∈els,aL s d:=by
   intro d hd
   obtain⟨q,hq,rfl⟩:=aa0.1 hd
   exact fK q s _ (by simp[Sh.sub];simp[Sh.count]at hlen;omega) (aao hq)
  simp[Sh.count]at hlen
  have gR:∀d∈(els.drop L').take (H'-L'),aL s d:=λd hd=>bW d (abQ (aaY hd))
  have Lr:((els.drop L').take (H'-L')).length=H'-L':=by simp;omega
  by_cases hz:M'=L'
  ·have D9:H'-L'=0:=by omega
   have Ku:M'-L'=0:=by omega
   refine .here hs hk (v:= .slice (some ⟨b,o',none⟩) 0 0) ?_ ?_
   ·rw[D9];simp;exact VR.bE (.qC _ _ _ _ (λ_=>rfl) (λ_=>rfl))
   ·rw[xv _ hx,hrun];simp[hz,D9,Ku]
  ·obtain⟨pre,post,q1,q2⟩:=vo (off:=L') (len:=H'-L') bW (by omega)
   simp only[D.flat]at g2
   rw[q1]at g2
   have q3:=(g2.drop pre.length).take (ak ((els.drop L').take (H'-L'))).length
   rw[aa9,aaW]at q3
   refine .here hs hk (v:= .slice (some ⟨b,o'+L'*s.size,none⟩) ((els.drop L').take (H'-L')).length (M'-L')) ?_ ?_
   ·refine VR.bE (LR.Pm gR hT q3 (by rw[<-q2];exact(g3.drop _).take _) (by omega) (λhq=>?_))
    have:H'=M':=by simpa using hq
    omega
   ·rw[xv _ hx,hrun];simp only[hz,abP,Result.andThen_ok,Lr]
 ·exact hk.elim
theorem aaj{t e:TypeId}{x:Operand}{lo hi mx:Option Operand}{x':X}{lo' hi' mx':Option X}{s:Sh}(ho:o.op= .slice t x lo hi mx)(hu:P.underlying t=some (.slice e))(hsh:sh P e=some s)
  (h1:cX x=some x')(h2:Pc lo=some lo')(h3:Pc hi=some hi')(h4:Pc mx=some mx')(hmh:mx.isSome=true->hi.isSome=true)
  (h:dX C env rows (.slice s x' lo' hi' mx') k):bV P n o ρ T env rows a w k:=by
 obtain⟨d,he,k1⟩:=au h
 obtain⟨l,hl,k2⟩:=au k1
 obtain⟨hh,Vc,k3⟩:=au k2
 obtain⟨c,hc,k4⟩:=au k3
 obtain⟨N,hN,hk⟩:=au k4
 clear k1 k2 k3 k4
 have hv:=bH h1 he hs hG
 obtain⟨b1,b2,b3,b4,hk⟩:=hk
 have FB:=hv.Bz (Lq hN)
 have hrun:∀(ad:Option Addr) (cap:Nat),N<=cap->(Instr.sliceAt t (.slice ad N cap) (lo.map a.eval) (hi.map a.eval) (mx.map a.eval)).run P w=
   .ok (.slice (if(c.getD cap).toNat=(l.getD 0).toNat then ad else ad.map (·.add ((l.getD 0).toNat*s.size))) ((hh.getD N).toNat-(l.getD 0).toNat) ((c.getD cap).toNat-(l.getD 0).toNat)) w:=by
  intro ad cap hcap
  have:=qb (P:=P) (isSlice:=true) (len:=N) (cap:=cap) (L:=(l.getD 0).toNat) (H:=(hh.getD N).toNat) (M:=(c.getD cap).toNat)
   (mX h2 hl hs hG) (mX h3 Vc hs hG) (mX h4 hc hs hG) (by simpa using hmh) (by omega) (by omega) (by cases c<;>simp at b3 b4⊢;omega)
   (by omega) (by cases c<;>simp at b3 b4⊢<;>omega) (by cases c<;>simp at b3 b4⊢;omega) w
  simp[Instr.sliceAt,Instr.slice,run_underlying hu,this,run_sizeOf hsh]
 have xv:∀v,a.eval x=v->(execOp a.eval o).run P w=((Instr.sliceAt t v (lo.map a.eval) (hi.map a.eval) (mx.map a.eval)).run P w).andThen λv w'=> .ok (.value v) w':=by
  intro v hx
  simp[execOp,ho,hx]
 have bM:∀cap:Nat,N<=cap->(hh.getD N).toNat<=(c.getD cap).toNat/\(c.getD cap).toNat<=cap:=by
  intro cap hcap
  cases c<;>simp at b3 b4⊢<;>omega
 generalize hL:(l.getD 0).toNat=L' at hk hrun
 have hLH:L'<=(hh.getD N).toNat:=by omega
 have hHN:(hh.getD N).toNat<=N:=by cases c<;>simp at b3 b4<;>omega
 have hcm:∀cap:Nat,∀z,c=some z->(c.getD (hh.getD N)).toNat=(c.getD cap).toNat:=by intro cap z hz;simp[hz]
 generalize hH:(hh.getD (N:Int)).toNat=H' at hk hrun bM hLH hHN
 split at hk
 ·have hx:=fh h1 he hs hG
  simp[dW]at hN
  subst hN
  refine .here hs hk (VR.raw rfl) ?_
  have Z6:L'=0:=by omega
  have hH0:H'=0:=by omega
  rw[xv _ hx,hrun none 0 (by omega)]
  have hb:=bM 0 (by omega)
  have h0:(c.getD ((0:Nat):Int)).toNat=0:=by omega
  simp only[h0,Z6,hH0]
  rfl
 ·rename_i t' r p off len ex
  obtain⟨rfl,hk⟩:=hk
  simp[dW]at hN
  subst hN
  generalize hx:a.eval x=v at FB
  cases FB with
  | Bm _ _ _ _ _ ad =>
   have Z6:L'=0:=by omega
   have hH0:H'=0:=by omega
   have hb:=bM 0 (by omega)
   have h0:(c.getD ((0:Nat):Int)).toNat=0:=by omega
   refine .here hs hk (v:= .slice ad 0 0) ?_ ?_
   ·rw[Z6,hH0];exact VR.bE (.Bm _ _ _ _ _ _)
   ·rw[xv _ hx,hrun ad 0 (by omega)]
    simp only[h0,Z6,hH0]
    rfl
  | sl _ _ _ _ _ _ L cap M5 c1 c2 c3 =>
   have hb:=bM cap c1
   generalize hM:(c.getD (cap:Int)).toNat=M' at hb hrun
   have hM:=hrun (some ⟨L.b,L.off p+off*t'.size,none⟩) cap c1
   generalize hMM:(c.getD (cap:Int)).toNat=M' at hM hb
   by_cases hz:M'=L'
   ·have D9:H'-L'=0:=by omega
    have Ku:M'-L'=0:=by omega
    refine .here hs hk (v:= .slice (some ⟨L.b,L.off p+off*t'.size,none⟩) 0 0) ?_ ?_
    ·rw[D9];exact VR.bE (.Bm _ _ _ _ _ _)
    ·rw[xv _ hx,hM];simp only[hz,abR,Result.andThen_ok,D9,acj]
   ·refine .here hs hk (v:= .slice (some ⟨L.b,L.off p+(off+L')*t'.size,none⟩) (H'-L') (M'-L')) ?_ ?_
    ·refine VR.bE (.sl _ _ _ _ _ _ L _ M5 (by omega) (λhq=>?_) ?_)
     ·cases c with
      |none=>
       simp[qB]at hq hMM
       have:=c2 hq.1
       omega
      |some z=>
       simp[qB]at hq hMM
       omega
     ·rcases c3 with⟨d1,d2,dm,d3⟩|⟨m,d1,d2⟩
      ·refine .inl ⟨d1,d2,dm,aa3 (abB _ (by omega)) d3⟩
      ·exact .inr ⟨m,d1,by omega⟩
    ·rw[xv _ hx,hM]
     simp only[hz,abP,Result.andThen_ok,acu,nE,adF,abO]
 ·rename_i t' els ex
  obtain⟨rfl,hk⟩:=hk
  simp[dW]at hN
  subst hN
  have key:∀(ad:Option Addr) (cap:Nat) (v:Value),a.eval x=v->v= .slice ad els.length cap->els.length<=cap->(∀d∈els,aL t' d)->(ex=true->cap=els.length)->(ad=none->cap=0)->
    (els.length≠0->∃b o' cs,ad=some ⟨b,o',none⟩/\T b/\aW (LR ρ w T) (ak els) cs/\At w b o' cs)->bV P n o ρ T env rows a w k:=by
   intro ad cap v hx mW hcap bW hex Sv hcs
   subst mW
   have hb:=bM cap hcap
   have hM:=hrun ad cap hcap
   generalize hMM:(c.getD (cap:Int)).toNat=M' at hM hb
   have hexM:qB c H' (c.getD (hh.getD ↑els.length)).toNat els.length ex=true->M'=H':=by
    intro hq
    cases c with
    |none=>
     simp[qB]at hq hMM
     have:=hex hq.1
     omega
    |some z=>
     simp[qB]at hq hMM
     omega
   have Lr:((els.drop L').take (H'-L')).length=H'-L':=by simp;omega
   by_cases hz:H'=L'
   ·have Zx:(els.drop L').take (H'-L')=[]:=aaF (by omega)
    refine .here hs hk (v:= .slice (if M'=L' then ad else ad.map (·.add (L'*t'.size))) 0 (M'-L')) ?_ ?_
    ·rw[Zx]
     refine VR.bE (.qC _ _ _ _ (λhq=>by have:=hexM hq;omega) (λhq=>?_))
     split at hq
     ·omega
     ·have:ad=none:=by simpa using hq
      have:=Sv this
      omega
    ·rw[xv _ hx,hM,hz]
     simp only[acj,Result.andThen_ok]
   ·have Gs:¬M'=L':=by omega
    obtain⟨b,o',cs,rfl,hT,q2,q3⟩:=hcs (by omega)
    obtain⟨pre,post,q4,q5⟩:=vo (off:=L') (len:=H'-L') bW (by omega)
    rw[q4]at q2
    have q6:=(q2.drop pre.length).take (ak ((els.drop L').take (H'-L'))).length
    rw[aa9,aaW]at q6
    refine .here hs hk (v:= .slice (some ⟨b,o'+L'*t'.size,none⟩) ((els.drop L').take (H'-L')).length (M'-L')) ?_ ?_
    ·refine VR.bE (LR.Pm (λd hd=>bW d (abQ (aaY hd))) hT q6 (by rw[<-q5];exact(q3.drop _).take _) (by omega) (λhq=>by have:=hexM hq;omega))
    ·rw[xv _ hx,hM]
     simp only[Gs,abP,Result.andThen_ok,Lr,acu,nE]
  generalize hx:a.eval x=v at FB
  cases FB with
  |qC _ _ ad cap c1 c2=>exact key ad cap _ hx rfl (by simp) (by simp) (by simpa using c1) c2 (by simp)
  |dh _ _ _ b o' cap f c1 hb c2 c3 c4 c5=>
   exact key _ cap _ hx rfl c4 c1 c5 (by simp) (λ_=>⟨b,o',_,rfl,hb,(BB (d:=default) c2 c3).1,(BB (d:=default) c2 c3).2⟩)
 ·exact hk.elim
end ops
end Go.Am
namespace Go.Am
variable {C:aU} {P:Program} {n:Nat} {ρ:Pl} {T:Nat->Prop} {env:Env} {rows:Rows} {a:Act} {w:World}
theorem aak{a b:Value}(h:ZU a b=true):b=a/\a.oneCell'=true:=by
  unfold ZU at h
  split at h<;>first
    |(simp at h;obtain⟨rfl,rfl⟩:=h;exact⟨rfl,rfl⟩)
    |(simp at h;subst h;exact⟨rfl,rfl⟩)
    | (rename_i x y
       have e:x.data.toList=y.data.toList:=by simpa using h
       have e2:x.data=y.data:=ace e
       have e3:x=y:=ByteArray.ext e2
       subst e3
       exact⟨rfl,rfl⟩)
    |exact⟨rfl,rfl⟩
    |cases h
theorem FC{l:List D}{vs:List Value}(h:AA l vs=true)(ρ:Pl)(w:World)(T:Nat->Prop):aW (LR ρ w T) l vs:=by
 induction l generalizing vs with
 |nil=>cases vs with
  |nil=>exact .nil
  |cons v vs=>simp[AA]at h
 | cons d l ih => cases vs with
  |nil=>simp[AA]at h
  | cons v vs =>
   cases d with
   |raw x=>
    simp[AA]at h
    obtain⟨rfl,h2⟩:=aak h.1
    exact .cons (.raw _ h2) (ih h.2)
   | _=>simp[AA]at h
theorem Vd{f:TypeId->Option D}{g:TypeId->Option Sh}(hfg:∀t d e,f t=some d->g t=some e->aL e d):∀(fs:List Field) {l:List D} {s:Sh},zL f fs=some l->shL g fs=some s->
  s.isAgg=true/\l.length=s.count/\∀i e d,s.sub i=some e->l[i]?=some d->aL e d
 |[],l,s,h1,h2=>by
  simp[zL]at h1
  simp[shL]at h2
  subst h1;subst h2
  simp[Sh.isAgg,Sh.count,Sh.sub]
 | x :: fs, l, s, h1, h2 => by
  simp only[zL]at h1
  simp only[shL]at h2
  split at h1
  ·rename_i d hd
   split at h1
   ·rename_i l' nA
    cases h1
    split at h2
    ·rename_i e he
     split at h2
     ·rename_i s' ib
      cases h2
      obtain⟨g1,g2,g3⟩:=Vd hfg fs nA ib
      refine⟨g1,by simp[Sh.count,g2],λi e' d' hi lz=>?_⟩
      cases i with
      |zero=>
       simp[Sh.sub]at hi lz
       subst hi;subst lz
       exact hfg _ _ _ hd he
      |succ i=>exact g3 i e' d' (by simpa[Sh.sub]using hi) (by simpa using lz)
     ·cases h2
    ·cases h2
   ·cases h1
  ·cases h1
theorem M7(P:Program):∀(n:Nat) (t:TypeId) (d:D) (s:Sh),zT P n t=some d->shT P n t=some s->aL s d
 |0,t,d,s,h1,h2=>by simp[zT]at h1
 | n + 1, t, d, s, h1, h2 => by
  have Zy:=h2
  simp only[zT]at h1
  simp only[shT]at h2
  cases hu:P.underlying t with
  |none=>simp[hu]at h1
  | some u =>
   cases u with
   | struct fs =>
    simp only[hu]at h1 h2
    rw[Zy]at h1
    simp only at h1
    split at h1
    ·rename_i l hl
     cases h1
     obtain⟨g1,g2,g3⟩:=Vd (λt d e hd he=>M7 P n t d e hd he) fs.toList hl h2
     exact .agg s l g1 g2 g3
    ·cases h1
   | array m e =>
    simp only[hu]at h1 h2
    rw[Zy]at h1
    simp only at h1
    split at h1
    ·rename_i d' lz
     cases h1
     split at h2
     ·rename_i s' ib
      cases h2
      refine .agg _ _ rfl (by simp[Sh.count]) λi e' d'' hi hd''=>?_
      simp only[Sh.sub]at hi
      split at hi
      ·cases hi
       rw[abt (aaG hd'')]
       exact M7 P n e d' s' lz ib
      ·cases hi
     ·cases h2
    ·cases h1
   |bool=>simp[hu]at h1 h2;subst h1;subst h2;exact .leaf _ _ rfl
   |int k=>simp[hu]at h1 h2;subst h1;subst h2;exact .leaf _ _ (by simp[oD])
   |string=>simp[hu]at h1 h2;subst h1;subst h2;exact .leaf _ _ rfl
   |pointer _=>simp[hu]at h1 h2;subst h1;subst h2;exact .ref _ rfl
   |slice _=>simp[hu]at h1 h2;subst h1;subst h2;exact .ref _ rfl
   |map _ _=>simp[hu]at h1 h2;subst h1;subst h2;exact .ref _ rfl
   |func _ _ _=>simp[hu]at h1 h2;subst h1;subst h2;exact .ref _ rfl
   |interface _=>simp[hu]at h1 h2;subst h1;subst h2;exact .ref _ rfl
   | _=>simp[hu]at h1
theorem sh_shT{t:TypeId}{s:Sh}(h:sh P t=some s):shT P 40 t=some s:=by
 unfold sh at h
 split at h
 ·rename_i s' ib
  split at h
  ·rename_i i hi
   cases hb:(i.size==s'.size)with
   |false=>rw[hb]at h;simp at h
   |true=>rw[hb]at h;simp at h;subst h;exact ib
  ·cases h
 ·cases h
theorem tW{w:World}{o:Obj}{b:Nat}(h:b<w.heap.size):({w with heap:=w.heap.push o}:World).heap[b]?=w.heap[b]?:=by
 rw[ac2,aaC (by omega)]
theorem HH{α:Type}{c:Bool}{x y:α}(h:(bif c then some x else none)=some y):c=true/\x=y:=by
 cases c with
 |false=>simp at h
 |true=>exact⟨rfl,by simpa using h⟩
theorem lS{t:TypeId}{s:Sh}{z:D}(hs:sh P t=some s)(hz:zero P t=some z):
  aL s z/\∃v,(∀w,(zeroValue t).run P w= .ok v w)/\v.cells.size=s.size/\∀ρ w T,aW (LR ρ w T) z.flat v.cells.toList:=by
 unfold zero at hz
 split at hz
 ·rename_i d hd
  split at hz
  ·rename_i i hi
   split at hz
   ·rename_i v hv
    obtain⟨HI,hdz⟩:=HH hz
    have hb:=(acU.1 HI).1
    ·subst hdz
     have hsh:=M7 P 40 t d s hd (sh_shT hs)
     refine⟨hsh,v,λw=>by simp[zeroValue,typeInfo,hi,hv],?_,λρ w T=>FC hb ρ w T⟩
     have:=(FC hb (λ_=>none) default (λ_=>False)).len
     rw[hsh.len]at this
     simpa using this.symm
   ·cases hz
  ·cases hz
 ·cases hz
theorem eQ.G8(hs:eQ n ρ T env rows a w)(row:Row)(cur:Array Value)(t:TypeId)(w':World)(hw':w'={w with heap:=w.heap.push (.cells cur t)})
  (gR:∀d∈row.els,aL row.sh d)(hlen:(ak row.els).length<=cur.size)(hc:aW (LR ρ w T) (ak row.els) (cur.toList.take (ak row.els).length)):
  eQ n (u6 ρ rows.length ⟨w.heap.size,row.sh,cur.size,false⟩) T env (rows++[some row]) a w'/\Step ρ T rows w (u6 ρ rows.length ⟨w.heap.size,row.sh,cur.size,false⟩) T (rows++[some row]) w':=by
 subst hw'
 exact hs.push row cur t rfl rfl rfl rfl gR hlen hc
theorem aW.M8{α β:Type}{R:α->β->Prop}{l:List α}{m:List β}(h:aW R l m):aW R l (m.take l.length):=by
 rw[h.len,aa8]
 exact h
theorem FD(off:Nat):∀(vs:List Value) (k:Nat) (cells:Array Value),off+k+vs.length<=cells.size->
  ((vs.zipIdx k).foldl (λ(cs:Array Value) (x:Value×Nat)=>cs.setIfInBounds (off+x.2) x.1) cells).toList=cells.toList.take (off+k)++(vs++cells.toList.drop (off+k+vs.length))
 |[],k,cells,_=>by simp
 | v :: vs, k, cells, h => by
  simp only[List.zipIdx_cons,adU]
  rw[FD off vs (k+1) _ (by simp at h⊢;omega)]
  simp only[aaP]at h
  have h1:(cells.setIfInBounds (off+k) v).toList=cells.toList.set (off+k) v:=by simp
  rw[h1]
  apply abX
  intro i
  simp only[adT,aau,abe,abV,abi,acT,aa5,aaP,List.getElem?_cons]
  have hsz:off+k<cells.size:=by omega
  rcases adG i (off+k)with h2|h2|h2
  ·simp[show i<min (off+(k+1)) cells.size by omega,show i<min (off+k) cells.size by omega,show i<off+(k+1) by omega,show i<off+k by omega,show¬(off+k=i) by omega]
  ·subst h2
   simp[show off+k<min (off+(k+1)) cells.size by omega,show¬(off+k<min (off+k) cells.size) by omega,show min (off+k) cells.size=off+k by omega,hsz,show off+k<off+(k+1) by omega]
  ·have e1:min (off+(k+1)) cells.size=off+(k+1):=by omega
   have e2:min (off+k) cells.size=off+k:=by omega
   simp only[e1,e2,show¬(i<off+(k+1)) by omega,show¬(i<off+k) by omega,abP]
   have e3:i-(off+k)≠0:=by omega
   by_cases h3:i-(off+(k+1))<vs.length
   ·simp only[h3,abR,show i-(off+k)<vs.length+1 by omega,e3,abP]
    congr 1
   ·simp only[h3,abP,show¬(i-(off+k)<vs.length+1) by omega]
    rw[aaC (by omega)]
    congr 1
    omega
theorem aal{l:List (Nat×Operand)}{ps:List (Nat×X)}(h:p8 l=some ps):(l=[]/\ps=[])\/∃i x r y q,l=(i,x)::r/\ps=(i,y)::q/\cX x=some y/\p8 r=some q:=by
 cases l with
 |nil=>simp[p8]at h;exact .inl ⟨rfl,h⟩
 | cons p r =>
  obtain⟨i,x⟩:=p
  simp only[p8]at h
  split at h
  ·rename_i y hy
   split at h
   ·rename_i q hq
    cases h
    exact .inr ⟨i,x,r,y,q,rfl,rfl,hy,hq⟩
   ·cases h
  ·cases h
theorem AF(hs:eQ n ρ T env rows a w)(hG:wQ C ρ w T){s:Sh}{place:Nat->Option (Nat×Nat)}(qa:∀i e,s.sub i=some e->place i=some (s.lP i,e.size))(ha:s.isAgg=true):
  ∀(parts:List (Nat×Operand)) (ps:List (Nat×X)) (l l':List D) (cells:Array Value),p8 parts=some ps->qi C env s.sub ps l=some l'->aL s (.agg s l)->aW (LR ρ w T) (ak l) cells.toList->
  ∃cells',Instr.fill place cells (parts.map λx=>(x.1,a.eval x.2))=some cells'/\aL s (.agg s l')/\aW (LR ρ w T) (ak l') cells'.toList:=by
 intro parts
 induction parts with
 |nil=>
  intro ps l l' cells hc hf hsh bW
  simp[p8]at hc
  subst hc
  simp[qi]at hf
  subst hf
  exact⟨cells,rfl,hsh,bW⟩
 | cons p parts ih =>
  intro ps l l' cells hc hf hsh bW
  rcases aal hc with⟨h,_⟩|⟨i,x,r,y,q,h1,h2,h3,h4⟩
  ·cases h
  ·cases h1
   subst h2
   simp only[qi]at hf
   split at hf
   ·rename_i d hd
    split at hf
    ·rename_i e he
     cases hfit:d.fits e with
     |false=>rw[hfit]at hf;simp at hf
     | true =>
      rw[hfit]at hf
      simp at hf
      obtain⟨g1,g2,_⟩:=(bH h3 hd hs hG).cells hfit
      obtain⟨d0,hd0,KE,oI⟩:=hsh.part ha he
      have hall':=bW
      rw[fY hd0]at bW
      have HJ:=aW.seg (N:=cells.toList.length) (by rw[aa8];exact bW)
      have Ls:d0.flat.length=e.size:=KE.len
      have hvs:(a.eval x).cells.size=e.size:=by rw[<-g1.len];simpa using g2.len.symm
      have hfold:=FD (s.lP i) (a.eval x).cells.toList 0 cells (by rw[oI]at HJ;simp[hvs];simp[Ls]at HJ;omega)
      have pz:=hsh.Va ha he g1
      have jO:aW (LR ρ w T) (ak (l.set i d)) ((a.eval x).cells.zipIdx.foldl (λcs (c,j)=>cs.setIfInBounds (s.lP i+j) c) cells).toList:=by
       rw[<-Array.foldl_toList,Array.toList_zipIdx,hfold,D7 (dj hd0)]
       have q1:=bW.take (ak (l.take i)).length
       rw[aaW]at q1
       have q2:=bW.drop ((ak (l.take i)).length+d0.flat.length)
       rw[<-abr,aa9,aa9]at q2
       have e1:s.lP i+0=(ak (l.take i)).length:=by rw[oI];rfl
       have e2:s.lP i+0+(a.eval x).cells.toList.length=(ak (l.take i)).length+d0.flat.length:=by rw[oI,Ls];simp[hvs]
       rw[e2,e1]
       exact q1.append (g2.append q2)
      obtain⟨cells',k1,k2,k3⟩:=ih q (l.set i d) l' _ h4 hf pz jO
      refine⟨cells',?_,k2,k3⟩
      simp only[abm,Instr.fill,qa i e he]
      rw[aaC]
      ·exact k1
      ·have:=HJ.2
       rw[oI,Ls]at this
       simp[hvs]
       simp at this
       omega
    ·cases hf
   ·cases hf
theorem xx{s:Sh}{z:D}(hz:aL s z):∀(m i:Nat),(ak (List.replicate m z))[i]?=if i<m*s.size then z.flat[i %s.size]? else none
 |0,i=>by simp[ak]
 | m + 1, i => by
  simp only[ac3,ak]
  rw[adT,hz.len]
  by_cases h:i<s.size
  ·rw[aaJ h,aaJ (by rw[acE];omega),abo h]
  ·rw[aaC h,xx hz m (i-s.size)]
   have h0:0<s.size\/s.size=0:=by omega
   rcases h0 with h0|h0
   ·have e:i %s.size=(i-s.size) %s.size:=by
     rw[<-Nat.mod_eq_sub_mod (by omega)]
    rw[e]
    by_cases h1:i-s.size<m*s.size
    ·rw[aaJ h1,aaJ (by rw[acE];omega)]
    ·rw[aaC h1,aaC (by rw[acE];omega)]
   ·simp[h0]
theorem vp{s:Sh}{z:D}{v:Value}(hz:aL s z)(hv:v.cells.size=s.size)(hc:aW (LR ρ w T) z.flat v.cells.toList)(m:Nat):
  aW (LR ρ w T) (ak (List.replicate m z)) ((Array.range (m*s.size)).map (v.cells[· %v.cells.size]!)).toList:=by
 refine⟨?_,λi x y hx hy=>?_⟩
 ·rw[be (s:=s) (λd hd=>(abt hd)▸hz)]
  simp
 ·rw[xx hz]at hx
  split at hx
  ·rename_i hi
   simp only[Array.toList_map,Array.toList_range,abl,adx hi,acu,abY]at hy
   obtain⟨u,hu,hr⟩:=hc.some hx
   have hlt:i %v.cells.size<v.cells.size:=by
    rw[hv]
    apply ac0
    rcases Nat.eq_zero_or_pos s.size with h0|h0
    ·rw[h0]at hi;simp at hi
    ·exact h0
   have e:v.cells[i %v.cells.size]! =u:=by
    have h1:v.cells[i %s.size]?=some u:=by simpa using hu
    rw[hv]
    rw[hv]at hlt
    have h2:i %s.size<v.cells.size:=by omega
    rw[getElem!_pos v.cells (i %s.size) h2]
    rw[abH h2]at h1
    exact abd h1
   rw[<-hy,e]
   exact hr
  ·cases hx
section ops
variable (hs:eQ n ρ T env rows a w) (hG:wQ C ρ w T) {o:Oper} {k:D->Rows->Prop}
include hs hG
omit hG in
theorem op_alloc{t:TypeId}{s:Sh}{z:D}(ho:o.op= .alloc t)(hsh:sh P t=some s)(hz:zero P t=some z)(h:dX C env rows (.alloc s z) k):bV P n o ρ T env rows a w k:=by
 obtain⟨h1,v,h2,h3,h4⟩:=lS hsh hz
 have hc:aW (LR ρ w T) (ak [z]) v.cells.toList:=by simpa[ak]using h4 ρ w T
 obtain⟨g1,g2⟩:=hs.G8 ⟨s,[z]⟩ v.cells t _ rfl (by simpa using h1) (by simp[ak,h1.len,h3]) hc.M8
 refine⟨_,_,_,_,.pointer (some ⟨w.heap.size,0,none⟩),_,h,g1,g2,?_,.inl ?_,λ_=>⟨λb hb=> .inl (tW hb),λ_ h=> .inl h⟩⟩
 ·have:=LR.ptr (ρ:=u6 ρ rows.length ⟨w.heap.size,s,v.cells.size,false⟩) (w:={w with heap:=w.heap.push (.cells v.cells t)}) (T:=T) s rows.length [0] ⟨w.heap.size,s,v.cells.size,false⟩ (by simp[u6]) rfl
  simpa[Loc.off,Sh.off]using VR.bE this
 ·simp[execOp,ho,Instr.alloc,h2,newVar,newRow]
theorem op_box{t:TypeId}{x:Operand}{x':X}{s:Sh}(ho:o.op= .box t x)(h1:cX x=some x')(h:dX C env rows (.box s x') k):bV P n o ρ T env rows a w k:=by
 obtain⟨d,he,hf,hk⟩:=au h
 obtain⟨g1,g2,_⟩:=(bH h1 he hs hG).cells hf
 have hc:aW (LR ρ w T) (ak [d]) (a.eval x).cells.toList:=by simpa[ak]using g2
 obtain⟨q1,q2⟩:=hs.G8 ⟨s,[d]⟩ (a.eval x).cells t _ rfl (by simpa using g1) (by have:=hc.len;simp at this⊢;omega) hc.M8
 refine⟨_,_,_,_,.pointer (some ⟨w.heap.size,0,none⟩),_,hk,q1,q2,?_,.inl ?_,λ_=>⟨λb hb=> .inl (tW hb),λ_ h=> .inl h⟩⟩
 ·have:=LR.ptr (ρ:=u6 ρ rows.length ⟨w.heap.size,s,(a.eval x).cells.size,false⟩) (w:={w with heap:=w.heap.push (.cells (a.eval x).cells t)}) (T:=T) s rows.length [0] ⟨w.heap.size,s,(a.eval x).cells.size,false⟩ (by simp[u6]) rfl
  simpa[Loc.off,Sh.off]using VR.bE this
 ·simp[execOp,ho,Instr.box,newVar,newRow]
theorem W8{t:TypeId}{x y:Operand}{x' y':X}{s:Sh}(ho:o.op= .store t x y)(hsh:sh P t=some s)(h1:cX x=some x')(h2:cX y=some y')(h:dX C env rows (.store s x' y') k):
  ∃d aa v w',k d aa/\eQ n ρ T env aa a w'/\Step ρ T rows w ρ T aa w'/\VR ρ w' T d v/\Gr P o a w v w'/\∃r p L,ev C env x'=some (.ptr s r p)/\ρ r=some L/\(∀b,b≠L.b->w'.heap[b]?=w.heap[b]?)/\∃x,aa=rows.set r (some x):=by
 obtain⟨d,he,hk⟩:=au h
 have hv:=bH h1 he hs hG
 split at hk
 ·rename_i s' r p
  obtain⟨d,xq,k1⟩:=au hk
  obtain⟨hf,Sx,k2⟩:=k1
  subst Sx
  obtain⟨row,zQ,k3⟩:=au k2
  obtain⟨els,pz,k4⟩:=au k3
  clear hk k2 k3
  obtain⟨g1,g2,_⟩:=(bH h2 xq hs hG).cells hf
  have hl:LR ρ w T _ _:=hv
  generalize hx:a.eval x=v at hl
  cases hl with
  | ptr _ _ _ L hL hp =>
   have hr:=hs.bF.row r row L zQ hL
   obtain⟨cur,t',q1,q2,q3,q4⟩:=hr.cells (Loc.Hy hp)
   cases p with
   |nil=>simp[Loc.at]at hp
   | cons i p =>
    have hmp:=Loc.Hy hp
    rw[Loc.yM hmp,hr.sh]at hp
    obtain⟨m1,m2,m3,pre,old,post,m4,m5,m6,m7⟩:=FA hr.els hp g1 pz
    rw[m4]at q4
    have HJ:=q4.seg
    have oI:L.off (i::p)=pre.length:=by simp[Loc.off,hr.sh,m6]
    have hvl:(a.eval y).cells.toList.length=d.flat.length:=g2.len.symm
    have hfit:L.off (i::p)+0+(a.eval y).cells.toList.length<=cur.size:=by rw[oI,hvl,<-m7];simpa using HJ.2
    have hone:∀v∈(a.eval y).cells.toList,v.oneCell'=true:=by
     intro v hv
     obtain⟨j,hj,rfl⟩:=aa0.1 hv
     exact(g2.at_ j _ _ (aao (by omega)) (aao hj)).one
    have hst:=gS P L.b (L.off (i::p)) t' (a.eval y).cells.toList 0 cur w q1 hfit hone
    have qj:(ak els).length=(pre++(old++post)).length:=by rw[m5];simp[m7]
    have jO:aW (LR ρ w T) (ak els) ((cur.toList.take (L.off (i::p)+0)++(a.eval y).cells.toList++cur.toList.drop (L.off (i::p)+0+(a.eval y).cells.toList.length)).take (ak els).length):=by
     rw[oI,hvl,<-m7]
     have z1:=q4.take pre.length
     rw[aaW,aco]at z1
     have z2:=q4.drop (pre.length+old.length)
     rw[<-abr,aa9,aa9,ad3]at z2
     have hle:pre.length+old.length<=cur.toList.length:=HJ.2
     have:((cur.toList.take (pre.length+0)++(a.eval y).cells.toList++cur.toList.drop (pre.length+0+old.length)).take (ak els).length)=
       cur.toList.take (min pre.length (pre++(old++post)).length)++((a.eval y).cells.toList++((cur.toList.drop (pre.length+old.length)).take ((pre++(old++post)).length-(pre.length+old.length)))):=by
      rw[aaB,qj,adP,adP]
      simp only[adb,aau]
      have e1:min pre.length cur.toList.length=pre.length:=by omega
      rw[e1]
      simp only[aap]
      rw[aco]
      have e2:min (pre.length+(old.length+post.length)) pre.length=min pre.length (pre.length+(old.length+post.length)):=by omega
      rw[e2]
      congr 1
      have e3:(a.eval y).cells.toList.length=old.length:=by omega
      rw[e3]
      congr 1
      ·rw[aar]
       omega
      ·congr 1
       omega
     rw[this,m5]
     exact z1.append (g2.append z2)
    obtain⟨u1,u2⟩:=hs.write zQ hL els cur _ t' hmp q1 (by have hf2:=hfit;simp only[abV]at hf2;simp only[adm,aap,aau,aat,abV];omega) m1
     (by rw[qj];rw[m4]at q3;exact q3) jO
    refine⟨_,_,undef,_,k4,u1,u2,?_,.inr ⟨?_,rfl⟩,r,i::p,L,he,hL,λb hb=>setRow_other w L.b b _ hb,_,rfl⟩
    ·exact⟨#[],rfl,.nil⟩
    ·obtain⟨inf,hi,hsz⟩:=yO hsh
     have hcs:(a.eval y).cells.size=s'.size:=by rw[<-g1.len];simpa using g2.len.symm
     simp[execOp,ho,hx,Instr.storeAt,Instr.sureAddr,storeVar,sizeOf,typeInfo,hi,hsz,hcs,hst]
 ·exact hk.elim
theorem op_store{t:TypeId}{x y:Operand}{x' y':X}{s:Sh}(ho:o.op= .store t x y)(hsh:sh P t=some s)(h1:cX x=some x')(h2:cX y=some y')(h:dX C env rows (.store s x' y') k):bV P n o ρ T env rows a w k:=by
 obtain⟨d,aa,v,w',g1,g2,g3,g4,g5,-⟩:=W8 hs hG ho hsh h1 h2 h
 exact⟨d,aa,ρ,T,v,w',g1,g2,g3,g4,g5,λhq=>by rw[ho]at hq;cases hq⟩
end ops
end Go.Am
namespace Go.Am
variable {C:aU} {P:Program} {n:Nat} {ρ:Pl} {T:Nat->Prop} {env:Env} {rows:Rows} {a:Act} {w:World}
theorem FE{s:Sh}:∀(fs:List Field) (i:Nat),Hu s i fs=true->∀j f,fs[j]?=some f->f.offset=s.lP (i+j)
 |[],i,_,j,f,hf=>by simp at hf
 | x :: fs, i, h, j, f, hf => by
  simp[Hu]at h
  cases j with
  |zero=>simp at hf;subst hf;exact h.1
  |succ j=>
   have:=FE fs (i+1) h.2 j f (by simpa using hf)
   rw[this];congr 1;omega
theorem vq{s:Sh}:∀(fs:List Field) (i:Nat),Bx P s i fs=true->∀j f,fs[j]?=some f->∃inf e,P.info? f.type=some inf/\s.sub (i+j)=some e/\inf.size=e.size
 |[],i,_,j,f,hf=>by simp at hf
 | x :: fs, i, h, j, f, hf => by
  simp only[Bx,aan]at h
  cases j with
  | zero =>
   simp at hf;subst hf
   have h1:=h.1
   split at h1
   ·rename_i inf e hi he
    exact⟨inf,e,hi,he,by simpa using h1⟩
   ·cases h1
  |succ j=>
   obtain⟨inf,e,h1,h2,h3⟩:=vq fs (i+1) h.2 j f (by simpa using hf)
   exact⟨inf,e,h1,by rw[<-h2];congr 1;omega,h3⟩
theorem run_places:∀(fs:List Field),(∀(j:Nat) (f:Field),fs[j]?=some f->∃inf,P.info? f.type=some inf)->
  ∃ps:List (Nat×Nat),(fs.mapM (λ(f:Field)=>(do pure (f.offset,<-sizeOf f.type):Sem (Nat×Nat)))).run P w= .ok ps w/\ps.length=fs.length/\
   ∀(j:Nat) (f:Field) (inf:TypeInfo),fs[j]?=some f->P.info? f.type=some inf->ps[j]?=some (f.offset,inf.size)
 |[],_=>⟨[],by simp,rfl,by simp⟩
 | x :: fs, h => by
  obtain⟨inf,hi⟩:=h 0 x rfl
  obtain⟨ps,h1,h2,h3⟩:=run_places fs (λj f hf=>h (j+1) f (by simpa using hf))
  refine⟨(x.offset,inf.size)::ps,?_,by simp[h2],λj f inf' hf hi'=>?_⟩
  ·rw[List.mapM_cons]
   simp[sizeOf,typeInfo,hi]at h1⊢
   simp[h1]
  ·cases j with
   |zero=>simp at hf;subst hf;rw[hi]at hi';cases hi';rfl
   |succ j=>simpa using h3 j f inf' (by simpa using hf) hi'
theorem toAgg{s:Sh}{z:D}(h:aL s z)(ha:z.isAgg=true):∃l,z= .agg s l/\ZW z=l/\s.isAgg=true:=by
 cases z<;>simp[D.isAgg]at ha
 obtain⟨rfl,h2⟩:=p9 h
 exact⟨_,rfl,rfl,h2⟩
section ops
variable (hs:eQ n ρ T env rows a w) (hG:wQ C ρ w T) {o:Oper} {k:D->Rows->Prop}
include hs hG
theorem W9{t:TypeId}{parts:Array (Nat×Operand)}{ps:List (Nat×X)}{s:Sh}{z:D}{fs:Array Field}(ho:o.op= .build t parts)(hsh:sh P t=some s)(hz:zero P t=some z)(hu:P.underlying t=some (.struct fs))
  (hp:p8 parts.toList=some ps)(hza:z.isAgg=true)(hoffs:Hu s 0 fs.toList=true)(hsizes:Bx P s 0 fs.toList=true)(hcnt:fs.toList.length=s.count)
  (h:dX C env rows (.build s (ZW z) ps) k):bV P n o ρ T env rows a w k:=by
 obtain⟨l',hl,hk⟩:=au h
 obtain⟨h1,v,h2,h3,h4⟩:=lS hsh hz
 obtain⟨l,rfl,hdz,ha⟩:=toAgg h1 hza
 rw[hdz]at hl
 obtain⟨pl,g1,g2,g3⟩:=run_places (P:=P) (w:=w) fs.toList (λj f hf=>by
  obtain⟨inf,e,q1,_,_⟩:=vq fs.toList 0 hsizes j f hf
  exact⟨inf,q1⟩)
 have qa:∀i e,s.sub i=some e->(λj=>pl[j]?) i=some (s.lP i,e.size):=by
  intro i e he
  have hi:i<fs.toList.length:=by rw[hcnt];exact sub_lt he
  have hf:fs.toList[i]?=some fs.toList[i]:=aao hi
  obtain⟨inf,e',q1,q2,q3⟩:=vq fs.toList 0 hsizes i _ hf
  have:=g3 i _ inf hf q1
  rw[abk]at q2
  rw[he]at q2
  cases q2
  have q4:=FE fs.toList 0 hoffs i _ hf
  rw[abk]at q4
  simp only[this,q3,q4]
 have h4':=h4 ρ w T
 simp only[D.flat]at h4'
 obtain⟨cells',f1,f2,f3⟩:=AF hs hG (place:=λj=>pl[j]?) qa ha parts.toList ps l l' v.cells hp hl h1 h4'
 refine .here hs hk (VR.zP ⟨cells',rfl,f2,f3⟩) ?_
 have hm:(fs.mapM (λ(f:Field)=>(do pure (f.offset,<-sizeOf f.type):Sem (Nat×Nat)))).run P w= .ok pl.toArray w:=by
  rw[ad7]
  simp at g1
  simp[g1]
 have qm:∀i:Nat,pl.toArray[i]?=pl[i]?:=λi=>by simp
 simp only[bind_pure_comp]at hm
 simp[execOp,ho,Instr.build,h2,run_underlying hu,hm]
 have f1':Instr.fill (λx=>pl[x]?) v.cells (List.map (λx=>(x.1,a.eval x.2)) parts.toList)=some cells':=f1
 simp[f1']
theorem Xa{t e:TypeId}{m:Nat}{parts:Array (Nat×Operand)}{ps:List (Nat×X)}{s se:Sh}{z:D}(ho:o.op= .build t parts)(hsh:sh P t=some s)(hz:zero P t=some z)(hu:P.underlying t=some (.array m e))
  (hp:p8 parts.toList=some ps)(hza:z.isAgg=true)(hse:sh P e=some se)(ib:s= .ar m se)
  (h:dX C env rows (.build s (ZW z) ps) k):bV P n o ρ T env rows a w k:=by
 obtain⟨l',hl,hk⟩:=au h
 obtain⟨h1,v,h2,h3,h4⟩:=lS hsh hz
 obtain⟨l,rfl,hdz,ha⟩:=toAgg h1 hza
 rw[hdz]at hl
 subst ib
 have h4':=h4 ρ w T
 simp only[D.flat]at h4'
 obtain⟨cells',f1,f2,f3⟩:=AF hs hG (place:=λi=>some (i*se.size,se.size)) (λi e he=>by
  simp only[Sh.sub]at he
  split at he
  ·cases he;rfl
  ·cases he) ha parts.toList ps l l' v.cells hp hl h1 h4'
 refine .here hs hk (VR.zP ⟨cells',rfl,f2,f3⟩) ?_
 simp[execOp,ho,Instr.build,h2,run_underlying hu,run_sizeOf hse]
 simp[f1]
theorem Xb{t e:TypeId}{m:Nat}{parts:Array (Nat×Operand)}{ps:List (Nat×X)}{s:Sh}{z:D}(ho:o.op= .buildSlice t m parts)(hu:P.underlying t=some (.slice e))(hsh:sh P e=some s)(hz:zero P e=some z)
  (hp:p8 parts.toList=some ps)(hsz:s.size≠0)(HK:m*s.size<=16777216)
  (h:dX C env rows (.fw s m z ps) k):bV P n o ρ T env rows a w k:=by
 obtain⟨l',hl,hk⟩:=au h
 obtain⟨h1,v,h2,h3,h4⟩:=lS hsh hz
 have bW:=vp (w:=w) (ρ:=ρ) (T:=T) h1 h3 (h4 ρ w T) m
 have hagg:aL (.ar m s) (.agg (.ar m s) (List.replicate m z)):=by
  refine .agg _ _ rfl (by simp[Sh.count]) λi e d hi hd=>?_
  simp only[Sh.sub]at hi
  split at hi
  ·cases hi;rw[abt (aaG hd)];exact h1
  ·cases hi
 obtain⟨cells',f1,f2,f3⟩:=AF hs hG (s:= .ar m s) (place:=λi=>some (i*s.size,s.size)) (λi e he=>by
  simp only[Sh.sub]at he
  split at he
  ·cases he;rfl
  ·cases he) rfl parts.toList ps (List.replicate m z) l' _ hp hl hagg bW
 obtain⟨l2,Ea,hlen,hsub2⟩:=f2.jX rfl
 cases Ea
 have gR:∀d∈l',aL s d:=by
  intro d hd
  obtain⟨q,hq,rfl⟩:=aa0.1 hd
  exact hsub2 q s _ (by simp[Sh.sub];simp[Sh.count]at hlen;omega) (aao hq)
 have jt:=f3.len
 rw[be gR]at jt
 simp[Sh.count]at hlen
 obtain⟨q1,q2⟩:=hs.G8 ⟨s,l'⟩ cells' e _ rfl gR (by rw[be gR];simp at jt;omega) f3.M8
 refine⟨_,_,_,_,.slice (some ⟨w.heap.size,0,none⟩) m m,_,hk,q1,q2,?_,.inl ?_,λ_=>⟨λb hb=> .inl (tW hb),λ_ h=> .inl h⟩⟩
 ·have:=LR.sl (ρ:=u6 ρ rows.length ⟨w.heap.size,s,cells'.size,false⟩) (w:={w with heap:=w.heap.push (.cells cells' e)}) (T:=T) s rows.length [] 0 m true ⟨w.heap.size,s,cells'.size,false⟩ m (by simp[u6]) (aax _) (λ_=>rfl)
   (.inl ⟨rfl,rfl,rfl,by simp at jt⊢;rw[<-jt,hlen];exact aax _⟩)
  simpa[Loc.off]using VR.bE this
 ·have hnz:¬(16777216<m*s.size):=by omega
  have hpm:(parts.map λx=>(x.1,a.eval x.2)).toList=parts.toList.map λx=>(x.1,a.eval x.2):=by simp
  simp only[execOp,ho,Instr.buildSlice,Sem.run_bind,run_underlying hu,Result.andThen_ok,run_sizeOf hsh]
  rw[aaC hnz]
  by_cases h0:m*s.size=0
  ·rw[h0]at f1
   rw[aaJ h0,h0]
   have e0:∀f:Nat->Value,(Array.range 0).map f=#[]:=λf=>by simp
   rw[e0]at f1
   simp only[Sem.run_bind,Sem.run_pure,Result.andThen_ok,hpm,e0,f1]
   simp[newRow]
  ·rw[aaC h0]
   simp only[Sem.run_bind,h2,Result.andThen_ok,Sem.run_pure,hpm,f1]
   simp[newRow]
end ops
end Go.Am
namespace Go.Am
variable {C:aU} {P:Program} {n:Nat} {ρ:Pl} {T:Nat->Prop} {env:Env} {rows:Rows} {a:Act} {w:World}
theorem yQ{x:Int}(h1:-9223372036854775808<=x)(h2:x<=9223372036854775807):IntKind.i64.wrap x=x:=by
 have e1:(2:Int)^IntKind.i64.bits=18446744073709551616:=by decide
 have e2:(2:Int)^(IntKind.i64.bits-1)=9223372036854775808:=by decide
 simp only[IntKind.wrap,e1,e2,IntKind.signed,ab8]
 by_cases h:0<=x
 ·rw[adn h (by omega)]
  rw[aaC (by simp;omega)]
 ·have:x %18446744073709551616=x+18446744073709551616:=by omega
  rw[this,aaJ (by simp;omega)]
  omega
theorem nG:most=1099511627776:=rfl
theorem Pq{i:TypeInfo}{N:Nat}(h:N*i.bytes<=most){cap:Nat}(hc:cap<N):Builtin.nextslicecap N cap*i.bytes<=281474976710656:=
 growslice_fits hc (by rw[nG]at h;omega)
theorem Gt{α:Type}(z:α){l c:Nat}(h:l<=c):List.replicate c z=List.replicate l z++List.replicate (c-l) z:=by
 rw[acw]
 congr 1
 omega
theorem Eb{argTypes:Array TypeId}{ty t u e:TypeId}{args:Array Value}{base:Option Addr}{sLen sCap m:Nat}{x:Value}{s:Sh}{pb:List Value}
  (h0:argTypes[0]?=some t)(h1:argTypes[1]?=some u)(a0:args[0]?=some (.slice base sLen sCap))(a1:args[1]?=some x)(hu:P.underlying t=some (.slice e))(xy:(∃e',P.underlying u=some (.slice e'))\/P.underlying u=some .string)(hsh:sh P e=some s)(hlen:(Builtin.lenOf x).run P w= .ok m w)(hf:(Builtin.firstCells s.size m x).run P w= .ok pb.toArray w)(hroom:sLen+m<=sCap):
  (Builtin.append_ argTypes ty args).run P w=match base with
   |some ad=>((storeCells (ad.add (sLen*s.size)) pb).run P w).andThen λ_ w'=> .ok (.slice base (sLen+m) sCap) w'
   |none=> .ok (.slice base (sLen+m) sCap) w:=by
 rcases xy with⟨e',xy⟩|xy<;>cases base<;>simp[Builtin.append_,h0,h1,a0,a1,run_underlying hu,run_underlying xy,run_sizeOf hsh,hlen,hroom,hf]
theorem Ec{argTypes:Array TypeId}{ty t u e:TypeId}{args:Array Value}{base:Option Addr}{sLen sCap m:Nat}{x z:Value}{s:Sh}{i:TypeInfo}{pb Gu:List Value}
  (h0:argTypes[0]?=some t)(h1:argTypes[1]?=some u)(a0:args[0]?=some (.slice base sLen sCap))(a1:args[1]?=some x)(hu:P.underlying t=some (.slice e))(xy:(∃e',P.underlying u=some (.slice e'))\/P.underlying u=some .string)(hsh:sh P e=some s)(hi:P.info? e=some i)(hz:∀w,(zeroValue e).run P w= .ok z w)
  (hlen:(Builtin.lenOf x).run P w= .ok m w)(hf:(Builtin.firstCells s.size m x).run P w.drew= .ok pb.toArray w.drew)(ho:(Builtin.firstCells s.size sLen (.slice base sLen sCap)).run P w.drew= .ok Gu.toArray w.drew)
  (hg:sCap<sLen+m)(hb:(sLen+m)*i.bytes<=most)(HK:sLen+m<=most):
  (Builtin.append_ argTypes ty args).run P w= .ok (.slice (some ⟨w.heap.size,0,none⟩) (sLen+m) (grownCap w (sLen+m) sCap e))
   (w.drew.alloc (.cells (Gu.toArray++pb.toArray++Builtin.zeroCells z.cells (grownCap w (sLen+m) sCap e-(sLen+m))) e)):=by
 have hn:¬(sLen+m<=sCap):=by omega
 have h48:¬(281474976710656<Builtin.nextslicecap (sLen+m) sCap*i.bytes):=by have:=Pq hb hg;omega
 have h63:¬((9223372036854775807:Int)<(sLen:Int)+(m:Int)):=by
  rw[nG]at HK
  omega
 rcases xy with⟨e',xy⟩|xy<;>simp[Builtin.append_,h0,h1,a0,a1,run_underlying hu,run_underlying xy,run_sizeOf hsh,typeInfo,hi,hlen,hn,h48,h63,Question.forced,hf,ho,hz,newRow,grownCap]<;>(congr 2;apply ace;simp)
theorem Ed{argTypes:Array TypeId}{ty t u e:TypeId}{kd kd':IntKind}{args:Array Value}{base:Option Addr}{sLen sCap m:Nat}{z:Value}{s:Sh}{i:TypeInfo}
  (h0:argTypes[0]?=some t)(h1:argTypes[1]?=some u)(a0:args[0]?=some (.slice base sLen sCap))(a1:args[1]?=some (.int kd' m))(hu:P.underlying t=some (.slice e))(xy:P.underlying u=some (.int kd))
  (hsh:sh P e=some s)(hi:P.info? e=some i)(hz:∀w,(zeroValue e).run P w= .ok z w)(hroom:sLen+m<=sCap)(hb:(sLen+m)*i.bytes<=most)(HK:sLen+m<=most)(hzs:z.cells.size=s.size)(hsz:s.size≠0):
  (Builtin.append_ argTypes ty args).run P w=match base with
   |some ad=>((storeCells (ad.add (sLen*s.size)) (Builtin.zeroCells z.cells m).toList).run P w).andThen λ_ w'=> .ok (.slice base (sLen+m) sCap) w'
   |none=> .ok (.slice base (sLen+m) sCap) w:=by
 have hw:IntKind.i64.wrap (m:Int)=m:=yQ (by omega) (by rw[nG]at HK;omega)
 have hneg:¬((m:Int)<0):=by omega
 have h48:¬((281474976710656:Int)<(m:Int)*(i.bytes:Int)):=by
  have h2:m*i.bytes<=most:=aa3 (abB _ (by omega)) hb
  rw[nG]at h2
  have h3:((m*i.bytes:Nat):Int)=(m:Int)*(i.bytes:Int):=by simp
  omega
 by_cases hm:m=0
 ·subst hm
  have hw0:IntKind.i64.wrap (0:Int)=0:=by decide
  cases base<;>simp[Builtin.append_,h0,h1,a0,a1,run_underlying hu,run_underlying xy,run_sizeOf hsh,asInt,asIntOf,typeInfo,hi,hw0,Builtin.zeroCells,storeCells,show sLen<=sCap by omega]
 ·have xa:m*s.size≠0:=Nat.mul_ne_zero hm hsz
  cases base<;>simp[Builtin.append_,h0,h1,a0,a1,run_underlying hu,run_underlying xy,run_sizeOf hsh,asInt,asIntOf,hw,hneg,typeInfo,hi,h48,hroom,xa,hz]
theorem Ee{argTypes:Array TypeId}{ty t u e:TypeId}{kd kd':IntKind}{args:Array Value}{base:Option Addr}{sLen sCap m:Nat}{z:Value}{s:Sh}{i:TypeInfo}{Gu:List Value}
  (h0:argTypes[0]?=some t)(h1:argTypes[1]?=some u)(a0:args[0]?=some (.slice base sLen sCap))(a1:args[1]?=some (.int kd' m))(hu:P.underlying t=some (.slice e))(xy:P.underlying u=some (.int kd))
  (hsh:sh P e=some s)(hi:P.info? e=some i)(hz:∀w,(zeroValue e).run P w= .ok z w)(ho:(Builtin.firstCells s.size sLen (.slice base sLen sCap)).run P w.drew= .ok Gu.toArray w.drew)
  (hg:sCap<sLen+m)(hb:(sLen+m)*i.bytes<=most)(HK:sLen+m<=most)(hzs:z.cells.size=s.size)(hsz:s.size≠0)(hm:m≠0):
  (Builtin.append_ argTypes ty args).run P w= .ok (.slice (some ⟨w.heap.size,0,none⟩) (sLen+m) (grownCap w (sLen+m) sCap e))
   (w.drew.alloc (.cells (Gu.toArray++Builtin.zeroCells z.cells m++Builtin.zeroCells z.cells (grownCap w (sLen+m) sCap e-(sLen+m))) e)):=by
 have hw:IntKind.i64.wrap (m:Int)=m:=yQ (by omega) (by rw[nG]at HK;omega)
 have hneg:¬((m:Int)<0):=by omega
 have h48:¬((281474976710656:Int)<(m:Int)*(i.bytes:Int)):=by
  have h2:m*i.bytes<=most:=aa3 (abB _ (by omega)) hb
  rw[nG]at h2
  have h3:((m*i.bytes:Nat):Int)=(m:Int)*(i.bytes:Int):=by simp
  omega
 have hn:¬(sLen+m<=sCap):=by omega
 have h48':¬(281474976710656<Builtin.nextslicecap (sLen+m) sCap*i.bytes):=by have:=Pq hb hg;omega
 have h63:¬((9223372036854775807:Int)<(sLen:Int)+(m:Int)):=by
  rw[nG]at HK
  omega
 have xa:m*s.size≠0:=Nat.mul_ne_zero hm hsz
 simp[Builtin.append_,h0,h1,a0,a1,run_underlying hu,run_underlying xy,run_sizeOf hsh,asInt,asIntOf,hw,hneg,typeInfo,hi,h48,hn,h48',h63,xa,hz,Question.forced,ho,newRow,grownCap]
structure Sy (P:Program) (w:World) (e:TypeId) (s:Sh) (z:Value) (base:Option Addr) (sLen sCap m:Nat) (Gu pb:List Value) (R:Result Value):Prop where
 room:sLen+m<=sCap->R=match base with
   |some ad=>((storeCells (ad.add (sLen*s.size)) pb).run P w).andThen λ_ w'=> .ok (.slice base (sLen+m) sCap) w'
   |none=> .ok (.slice base (sLen+m) sCap) w
 grow:sCap<sLen+m->R= .ok (.slice (some ⟨w.heap.size,0,none⟩) (sLen+m) (grownCap w (sLen+m) sCap e))
   (w.drew.alloc (.cells (Gu.toArray++pb.toArray++Builtin.zeroCells z.cells (grownCap w (sLen+m) sCap e-(sLen+m))) e))
theorem eQ.ghost{n:Nat}(h:eQ n ρ T env rows a w)(row:Row):eQ n ρ T env (rows++[some row]) a w/\Step ρ T rows w ρ T (rows++[some row]) w:=by
 have hk:∀r row' L,live (rows++[some row]) r=some row'->ρ r=some L->live rows r=some row':=by
  intro r row' L hl hL
  rcases sQ hl with⟨rfl,_⟩|⟨_,h2⟩
  ·rw[h.w9 rows.length (aax _)]at hL;cases hL
  ·exact h2
 refine⟨⟨⟨λr row' L h1 h2=>h.bF.row r row' L (hk _ _ _ h1 h2) h2,λr1 r2 Gq sK L1 L2 h1 h2 h3 h4=>h.bF.lR r1 r2 Gq sK L1 L2 (hk _ _ _ h1 h3) (hk _ _ _ h2 h4) h3 h4⟩,h.env,h.size,h.w8,
  λr' u7=>h.w9 r' (by simp at u7;omega),h.defers⟩,?_⟩
 exact⟨λ_ _ h=>h,λ_ h=>h,λ_ h=> .inl h,aax _,λ_ _ _=>rfl,λr' row' L h1 h2=> .inl ⟨r',row',L,hk _ _ _ h1 h2,h2,rfl⟩,rfl,rfl,rfl,by simp,λ_ _=>rfl⟩
theorem eQ.killD(h:eQ n ρ T env rows a w)(d:D):eQ n ρ T env (Am.kill rows d) a w/\Step ρ T rows w ρ T (Am.kill rows d) w/\(Am.kill rows d).length=rows.length:=by
 cases d with
 |sl s r p o l e=>
  obtain⟨h1,h2⟩:=h.kill r
  exact⟨h1,h2,by simp[Am.kill]⟩
 | _=>exact⟨h,Step.refl _ _ _ _,rfl⟩
theorem Pr(hs:eQ n ρ T env rows a w){s:Sh}{e:TypeId}{z:Value}{sLen sCap:Nat}{old news:List D}{Gu pb:List Value}(hold:∀d∈old,aL s d)(jO:∀d∈news,aL s d)(hl:old.length=sLen)
  (ho:aW (LR ρ w T) (ak old) Gu)(hn:aW (LR ρ w T) (ak news) pb)(hzs:z.cells.size=s.size){k:D->Rows->Prop}(da:D):
  ∃ρ',eQ n ρ' T env (rows++[some ⟨s,old++news⟩]) a (w.drew.alloc (.cells (Gu.toArray++pb.toArray++Builtin.zeroCells z.cells (grownCap w (sLen+news.length) sCap e-(sLen+news.length))) e))/\
   Step ρ T rows w ρ' T (rows++[some ⟨s,old++news⟩]) (w.drew.alloc (.cells (Gu.toArray++pb.toArray++Builtin.zeroCells z.cells (grownCap w (sLen+news.length) sCap e-(sLen+news.length))) e))/\
   ∀w',LR ρ' w' T (.sl s rows.length [] 0 (sLen+news.length) false) (.slice (some ⟨w.heap.size,0,none⟩) (sLen+news.length) (grownCap w (sLen+news.length) sCap e)):=by
 have hcap:=grownCap_ge w (sLen+news.length) sCap e
 generalize hc:grownCap w (sLen+news.length) sCap e=cap at hcap⊢
 generalize Sr:(Gu.toArray++pb.toArray++Builtin.zeroCells z.cells (cap-(sLen+news.length)))=cur
 have bW:∀d∈old++news,aL s d:=by
  intro d hd
  rcases aaQ.1 hd with h|h
  ·exact hold d h
  ·exact jO d h
 have h1:aW (LR ρ w T) (ak (old++news)) (Gu++pb):=by rw[ei];exact ho.append hn
 have jt:cur.toList=(Gu++pb)++(Builtin.zeroCells z.cells (cap-(sLen+news.length))).toList:=by rw[<-Sr];simp
 have qj:(ak (old++news)).length=(sLen+news.length)*s.size:=by rw[be bW,aap,hl]
 have hsz:cur.size=cap*s.size:=by
  have:cur.size=cur.toList.length:=by simp
  rw[this,jt,aap,<-h1.len,qj]
  have:(Builtin.zeroCells z.cells (cap-(sLen+news.length))).toList.length=(cap-(sLen+news.length))*s.size:=by simp[Builtin.zeroCells,hzs]
  rw[this,<-adF]
  congr 1
  omega
 obtain⟨g1,g2⟩:=(hs.heap (w':=w.drew) rfl).push (w':=w.drew.alloc (.cells cur e)) ⟨s,old++news⟩ cur e rfl rfl rfl rfl bW (by rw[qj,hsz];exact abB _ hcap) (by
  rw[jt,h1.len,aaW]
  exact h1.mono λa b h=>h.mono (λ_ _ h=>h) (λ_ _=>rfl) (λ_ h=>h))
 refine⟨_,g1,?_,λw'=>?_⟩
 ·exact⟨g2.pl,g2.tt,g2.vn,g2.size,g2.keep,g2.fresh,g2.os,g2.tape,g2.output,g2.len,g2.same⟩
 ·have:=LR.sl (ρ:=u6 ρ rows.length ⟨w.drew.heap.size,s,cur.size,false⟩) (w:=w') (T:=T) s rows.length [] 0 (sLen+news.length) false ⟨w.drew.heap.size,s,cur.size,false⟩ cap (by simp[u6]) hcap (by simp)
   (.inl ⟨rfl,rfl,rfl,by simp[hsz]⟩)
  simpa[Loc.off]using this
theorem take_app{α:Type}(l m r:List α)(N:Nat)(h:N=l.length+m.length):(l++m++r).take N=l++m:=by
 subst h
 rw[<-aap,aaW]
theorem Lt (hs : eQ n ρ T env rows a w) {s : Sh} {e : TypeId} {z : Value} {bytes sLen sCap : Nat} {base : Option Addr} {da : D} {old news : List D} {Gu pb : List Value} {k : D -> Rows -> Prop} {R : Result Value}
  (h:xh rows s bytes da news k)(he:elems rows da=some old)(Ps:dW da=some sLen)(hv:LR ρ w T da (.slice base sLen sCap))(hH:Ln rows ρ w T s old (.slice base sLen sCap) sLen base sCap Gu)
  (jO:∀d∈news,aL s d)(hn:aW (LR ρ w T) (ak news) pb)(hzs:z.cells.size=s.size)(hR:Sy P w e s z base sLen sCap news.length Gu pb R):
  ∃d aa ρ' T' v w',k d aa/\eQ n ρ' T' env aa a w'/\Step ρ T rows w ρ' T' aa w'/\VR ρ' w' T' d v/\R= .ok v w':=by
 obtain⟨old',he',h⟩:=au h
 rw[he]at he'
 cases he'
 obtain⟨N,hN,hsh,hlen,hb,hmo,hk⟩:=au h
 rw[Ps]at hN
 cases hN
 by_cases hg:sCap<sLen+news.length
 · -- it grows
  have RW:=hR.grow hg
  cases hown:(isNil da||owned da)with
  |true=>
   simp[hown]at hk
   obtain⟨g1,g2,g3⟩:=hs.killD da
   obtain⟨ρ',q1,q2,q3⟩:=Pr g1 (e:=e) (sCap:=sCap) (k:=k) hH.els jO hlen hH.hcs hn hzs da
   rw[g3]at q3
   exact⟨_,_,ρ',T,_,_,hk,q1,g2.trans q2,VR.bE (q3 _),RW⟩
  | false =>
   simp[hown]at hk
   obtain⟨hex,Zz,hk1⟩:=hk
   by_cases hm:news.length=0
   ·exfalso
    have:=hH.hcap
    omega
   ·have Vb:=hk1 (by intro e;apply hm;rw[e];rfl)
    obtain⟨ρ',q1,q2,q3⟩:=Pr hs (e:=e) (sCap:=sCap) (k:=k) hH.els jO hlen hH.hcs hn hzs da
    exact⟨_,_,ρ',T,_,_,Vb,q1,q2,VR.bE (q3 _),RW⟩
 ·have hroom : sLen + news.length <= sCap := by omega
  have RW:=hR.room hroom
  have hncs:pb.length=news.length*s.size:=by rw[<-hn.len,be jO]
  cases hown:(isNil da||owned da)with
  | false =>
   simp[hown]at hk
   obtain⟨hex,Zz,hk1⟩:=hk
   have hm:news.length=0:=by
    cases hv with
    |raw v hv=>simp[exact]at hex
    |Bm=>omega
    |sl _ _ _ _ _ _ _ _ _ _ c2 _=>simp[exact]at hex;have:=c2 hex;omega
    |qC _ _ _ _ c1 _=>simp[exact]at hex;have:=c1 hex;omega
    |dh _ _ _ _ _ _ _ _ _ _ _ _ c5=>simp[exact]at hex;have:=c5 hex;omega
   have hnn:news=[]:=aaF hm
   have hnc:pb=[]:=aaF (by rw[hncs,hm];simp)
   subst hnn
   subst hnc
   refine⟨da,rows,ρ,T,.slice base sLen sCap,w,Zz rfl,hs,Step.refl _ _ _ _,VR.bE hv,?_⟩
   rw[RW]
   cases base<;>simp[storeCells]
  | true =>
   simp[hown]at hk
   by_cases hz:sCap=0
   · --nothing at all
    have hm:news.length=0:=by omega
    have KE:sLen=0:=by omega
    have hnn:news=[]:=aaF hm
    have hnc:pb=[]:=aaF (by rw[hncs,hm];simp)
    subst hnn hnc KE hz
    obtain⟨g1,g2,g3⟩:=hs.killD da
    obtain⟨q1,q2⟩:=g1.ghost ⟨s,old++[]⟩
    refine⟨_,_,ρ,T,.slice base 0 0,w,hk,q1,g2.trans q2,VR.bE (.Bm _ _ _ _ _ _),?_⟩
    rw[RW]
    cases base<;>simp[storeCells]
   · -- a row of ours, in place
    cases hv with
    |raw v hv=>
     simp[owned]at hown
     unfold isNil at hown
     split at hown
     ·rename_i hh;cases hh;omega
     ·cases hown
    |Bm=>omega
    |qC=>simp[isNil,owned]at hown
    |dh=>simp[isNil,owned]at hown
    | sl _ r p off _ ex L _ hL c1 c2 c3 =>
     have hp:p=[]/\off=0:=by
      cases p<;>cases off<;>simp_all[isNil,owned]
     obtain⟨rfl,rfl⟩:=hp
     rcases c3 with⟨_,hsL,hmp,hcap⟩|⟨m,hm,_⟩
     ·simp[fg]at hsh
      subst hsh
      simp only[elems]at he
      cases hl:live rows r with
      |none=>simp[hl]at he
      | some row =>
       simp[hl]at he
       have hr:=hs.bF.row r row L hl hL
       obtain⟨cur,t,m1,m2,m3,m4⟩:=hr.cells hmp
       have hsrow:s=row.sh:=by rw[hsL,hr.sh]
       subst hsrow
       simp only[Loc.off,Nat.zero_mul,abk,nE]at RW hcap
       have hone:∀v∈pb,v.oneCell'=true:=by
        intro v hv
        obtain⟨j,hj,rfl⟩:=aa0.1 hv
        exact(hn.at_ j _ _ (aao (by rw[hn.len];exact hj)) (aao hj)).one
       have hfit:sLen*row.sh.size+0+pb.length<=cur.size:=by
        rw[hncs,adb,<-adF]
        exact aa3 (abB _ hroom) (by omega)
       have hst:=gS P L.b (sLen*row.sh.size) t pb 0 cur w m1 hfit hone
       have bW:∀d∈old++news,aL row.sh d:=by
        intro d hd
        rcases aaQ.1 hd with h|h
        ·exact hH.els d h
        ·exact jO d h
       have qj:(ak (old++news)).length=(sLen+news.length)*row.sh.size:=by rw[be bW,aap,hlen]
       have RX:Gu.length=sLen*row.sh.size:=hH.HF
       have hoc:cur.toList.take (sLen*row.sh.size)=Gu:=by
        apply abX
        intro j
        rw[abi]
        by_cases hj:j<sLen*row.sh.size
        ·rw[aaJ hj]
         have qn:Gu[j]?=some Gu[j]:=aao (by omega)
         obtain⟨b,o',zt,Kv⟩:=hH.at_ j _ qn
         cases zt
         rw[qn,<-Kv,cell_of_row w L.b _ cur t m1.choose m1.choose_spec.1]
         simp[Loc.off]
        ·rw[aaC hj,abv (by omega)]
       have hnewc:aW (LR ρ w T) (ak (old++news)) ((cur.toList.take (sLen*row.sh.size+0)++pb++cur.toList.drop (sLen*row.sh.size+0+pb.length)).take (ak (old++news)).length):=by
        rw[take_app _ _ _ _ (by rw[qj,adb,hoc,RX,hncs,adF]),adb,hoc,ei]
        exact hH.hcs.append hn
       obtain⟨u1,u2⟩:=hs.move hl hL (old++news) cur (cur.toList.take (sLen*row.sh.size+0)++pb++cur.toList.drop (sLen*row.sh.size+0+pb.length)).toArray t hmp m1
        (by simp only[adm,aap,aau,aat,abV];omega) bW
        (by rw[qj];exact aa3 (abB _ hroom) hcap) hnewc
       refine⟨_,_,_,T,.slice (some ⟨L.b,0,none⟩) (sLen+news.length) sCap,_,hk,u1,u2,?_,?_⟩
       ·have:=LR.sl (ρ:=u6 ρ rows.length L) (w:=w.setRow L.b (cur.toList.take (sLen*row.sh.size+0)++pb++cur.toList.drop (sLen*row.sh.size+0+pb.length)).toArray) (T:=T) row.sh rows.length [] 0 (sLen+news.length) false L sCap (by simp[u6]) hroom (by simp)
         (.inl ⟨rfl,hsL,hmp,by simpa using hcap⟩)
        simpa[Loc.off]using VR.bE this
       ·rw[RW,hst]
        simp
     ·simp[Loc.at]at hm
end Go.Am
namespace Go.Am
variable {C:aU} {P:Program} {n:Nat} {ρ:Pl} {T:Nat->Prop} {env:Env} {rows:Rows} {a:Act} {w:World}
theorem vt{d:D}{l:List D}(h:elems rows d=some l):d.eZ=true:=by
 cases d<;>simp_all[elems,D.eZ]
 split at h<;>simp_all[Value.oneCell']
theorem FF(b:ByteArray):(∀d∈ofBytes b,aL (.leaf u5) d)/\aW (LR ρ w T) (ak (ofBytes b)) (b.data.toList.map λx=>Value.int .u8 x.toNat):=by
 unfold ofBytes
 generalize b.data.toList=l
 induction l with
 |nil=>exact⟨by simp,.nil⟩
 | cons x l ih =>
  refine⟨λd hd=>?_,?_⟩
  ·simp only[abm,aaI]at hd
   rcases hd with h|h
   ·rw[h];exact .leaf _ _ rfl
   ·exact ih.1 d h
  ·simp only[abm,ak,D.flat,List.singleton_append]
   exact .cons (.raw _ rfl) ih.2
structure Src (ρ:Pl) (w:World) (T:Nat->Prop) (P:Program) (s:Sh) (news:List D) (v:Value) (pb:List Value):Prop where
 els:∀d∈news,aL s d
 cs:aW (LR ρ w T) (ak news) pb
 len:∀w',(Builtin.lenOf v).run P w'= .ok news.length w'
 first:∀w',w'.heap=w.heap->∀m,m<=news.length->(Builtin.firstCells s.size m v).run P w'= .ok (pb.take (m*s.size)).toArray w'
theorem Lu(hs:eQ n ρ T env rows a w){s:Sh}{d:D}{v:Value}{news:List D}(hv:VR ρ w T d v)(h:pw rows s d=some news)(hlen:∀k,dW d=some k->news.length=k):∃pb,Src ρ w T P s news v pb:=by
 unfold pw at h
 split at h
 ·rename_i b
  obtain⟨h1,h2⟩:=HH h
  have mH:s= .leaf u5:=by simpa using h1
  subst mH;subst h2
  have:=VR.ofRaw hv
  subst this
  obtain⟨g1,g2⟩:=FF (ρ:=ρ) (w:=w) (T:=T) b
  refine⟨_,g1,g2,λw'=>by simp[Builtin.lenOf,ofBytes],λw' hw m hm=>?_⟩
  simp only[Builtin.firstCells,Sem.run_pure,Sh.size,Nat.mul_one]
  congr 1
  apply ace
  simp[ByteArray.data_extract,List.map_take,List.extract]
 ·cases hsh:fg s d with
  |false=>simp[hsh]at h
  | true =>
   simp[hsh]at h
   cases hk:dW d with
   |none=>
    cases d<;>simp[elems,dW]at h hk
    split at h<;>simp_all
   |some k=>
    obtain⟨ad,cap,cs,hH⟩:=hs.bF.holds (hv.Bz (vt h)) h hk (hlen k hk) hsh
    have hl:=hlen k hk
    refine⟨cs,hH.els,hH.hcs,λw'=>by rw[hH.hv];simp[Builtin.lenOf,hl],λw' hw m hm=>hH.first hw m (by omega)⟩
theorem Src.HF{s:Sh}{news:List D}{v:Value}{pb:List Value}(h:Src ρ w T P s news v pb):pb.length=news.length*s.size:=by rw[<-h.cs.len,be h.els]
theorem aW.write{α β:Type}{R:α->β->Prop}{A M B M':List α}{cur cs:List β}{N:Nat}(h:aW R (A++(M++B)) (cur.take N))(hN:N=(A++(M++B)).length)(hM:aW R M' cs)(hl:M'.length=M.length):
  aW R (A++(M'++B)) ((cur.take A.length++cs++cur.drop (A.length+cs.length)).take (A++(M'++B)).length):=by
 have HJ:=h.seg
 have hcs:cs.length=M.length:=by rw[<-hM.len,hl]
 have z1:=h.take A.length
 rw[aaW,aco]at z1
 have z2:=h.drop (A.length+M.length)
 rw[<-abr,aa9,aa9,ad3]at z2
 have e0:(A++(M'++B)).length=N:=by rw[hN];simp[hl]
 rw[e0]
 have:((cur.take A.length++cs++cur.drop (A.length+cs.length)).take N)=cur.take (min A.length N)++(cs++((cur.drop (A.length+M.length)).take (N-(A.length+M.length)))):=by
  have hNl:N=A.length+(M.length+B.length):=by rw[hN];simp
  rw[aaB,adP,adP]
  simp only[aau]
  have e1:min A.length cur.length=A.length:=by omega
  rw[e1,aco]
  have e2:min N A.length=min A.length N:=by omega
  rw[e2]
  congr 1
  rw[hcs]
  congr 1
  ·rw[aar]
   omega
  ·congr 1
   omega
 rw[this]
 exact z1.append (hM.append z2)
theorem BD{s:Sh}{l xs:List D}{off:Nat}(h:off+xs.length<=l.length):
  ak l=ak (l.take off)++(ak ((l.drop off).take xs.length)++ak (l.drop (off+xs.length)))/\ak (aP l off xs)=ak (l.take off)++(ak xs++ak (l.drop (off+xs.length))):=by
 refine⟨?_,by simp[aP,ei]⟩
 rw[<-ei,<-ei]
 congr 1
 have:(l.drop off).take xs.length++l.drop (off+xs.length)=l.drop off:=by rw[<-abr,abj]
 rw[this,abj]
theorem AG{s:Sh}{l xs:List D}{off:Nat}(h:∀d∈l,aL s d)(hx:∀d∈xs,aL s d):∀d∈aP l off xs,aL s d:=by
 intro d hd
 simp only[aP,aaQ]at hd
 rcases hd with(h1|h1)|h1
 ·exact h d (aaY h1)
 ·exact hx d h1
 ·exact h d (abQ h1)
theorem AH{l xs:List D}{off:Nat}(h:off+xs.length<=l.length):(aP l off xs).length=l.length:=by
 simp[aP];omega
theorem Pt{r:Nat}{row:Row}(h:live rows r=some row):rows[r]?=some (some row):=by
 unfold live at h
 split at h
 ·rename_i hh;rw[hh,abd h]
 ·cases h
theorem BE{α:Type}{l:List α}{i:Nat}{x:α}(h:l[i]?=some x):l.set i x=l:=by
 apply abX
 intro j
 rw[acT]
 split
 ·rename_i e;subst e
  rw[aaJ (dj h),h]
 ·rfl
theorem v9{α β γ:Type}(r:Result α)(f:α->World->Result β)(g:β->World->Result γ):(r.andThen f).andThen g=r.andThen λa w=>(f a w).andThen g:=by
 cases r<;>rfl
section ops
variable (hs:eQ n ρ T env rows a w) (hG:wQ C ρ w T) {o:Oper} {k:D->Rows->Prop}
include hs hG
omit hs hG in
theorem qD{d:D}{aa:Rows}{ρ':Pl}{T':Nat->Prop}{v:Value}{w':World}(hk:k d aa)(g1:eQ n ρ' T' env aa a w')(g2:Step ρ T rows w ρ' T' aa w')(hv:VR ρ' w' T' d v)(hq:iC o.op=true->QH ρ rows w w'/\∀b,T' b->T b\/w.heap.size<=b)(hr:(execOp a.eval o).run P w= .ok (.value v) w'):
  bV P n o ρ T env rows a w k:=⟨d,aa,ρ',T',v,w',hk,g1,g2,hv,.inl hr,hq⟩
theorem op_mks{t e:TypeId}{l c:Operand}{l' c':X}{s:Sh}{z:D}(ho:o.op= .makeSlice t l c)(hu:P.underlying t=some (.slice e))(hsh:sh P e=some s)(hz:zero P e=some z)(h1:cX l=some l')(h2:cX c=some c')
  (h:dX C env rows (.mks s (oF P e) z l' c') k):bV P n o ρ T env rows a w k:=by
 obtain⟨d,he,hk⟩:=au h
 split at hk
 ·rename_i kl L
  obtain⟨d2,xq,Vb⟩:=au hk
  clear hk
  split at Vb
  ·rename_i kc Cp
   have hx:=fh h1 he hs hG
   have hy:=fh h2 xq hs hG
   obtain⟨b1,b2,b3,b4,hk⟩:=Vb
   obtain⟨g1,v,g2,g3,g4⟩:=lS hsh hz
   obtain⟨i,hi,hsz⟩:=yO hsh
   have hby:oF P e=i.bytes:=by simp[oF,hi]
   rw[hby]at b3
   rw[nG]at b3 b4
   have w1:IntKind.i64.wrap L=L:=yQ (by omega) (by omega)
   have w2:IntKind.i64.wrap Cp=Cp:=yQ (by omega) (by omega)
   obtain⟨l0,rfl⟩:=aaH b1
   obtain⟨c0,rfl⟩:=aaH (Int.le_trans b1 b2)
   have hlc:l0<=c0:=by omega
   have bW:=vp (w:=w) (ρ:=ρ) (T:=T) g1 g3 (g4 ρ w T) c0
   have hrep:∀d∈List.replicate l0 z,aL s d:=λd hd=>(abt hd)▸g1
   have qj:(ak (List.replicate l0 z)).length=l0*s.size:=by rw[be hrep,aaN]
   have hfc:(ak (List.replicate c0 z)).length=c0*s.size:=by rw[be (s:=s) (λd hd=>(abt hd)▸g1),aaN]
   have hpre:aW (LR ρ w T) (ak (List.replicate l0 z)) (((Array.range (c0*s.size)).map (v.cells[· %v.cells.size]!)).toList.take (ak (List.replicate l0 z)).length):=by
    have h5:=bW.take (ak (List.replicate l0 z)).length
    rw[Gt z hlc,ei,aaW]at h5
    exact h5
   obtain⟨q1,q2⟩:=hs.G8 ⟨s,List.replicate l0 z⟩ ((Array.range (c0*s.size)).map (v.cells[· %v.cells.size]!)) e _ rfl hrep (by rw[qj];simp;exact abB _ hlc) hpre
   refine qD (v:= .slice (some ⟨w.heap.size,0,none⟩) l0 c0) hk q1 q2 ?_ (λ_=>⟨λb hb=> .inl (tW hb),λ_ h=> .inl h⟩) ?_
   ·have:=LR.sl (ρ:=u6 ρ rows.length ⟨w.heap.size,s,((Array.range (c0*s.size)).map (v.cells[· %v.cells.size]!)).size,false⟩) (w:={w with heap:=w.heap.push (.cells ((Array.range (c0*s.size)).map (v.cells[· %v.cells.size]!)) e)}) (T:=T) s rows.length [] 0 l0 (decide ((l0:Int)=c0)) ⟨w.heap.size,s,((Array.range (c0*s.size)).map (v.cells[· %v.cells.size]!)).size,false⟩ c0 (by simp[u6]) hlc (by simp;omega)
     (.inl ⟨rfl,rfl,rfl,by simp⟩)
    simpa[Loc.off]using VR.bE this
   ·have n1:¬((c0:Int)<0):=by omega
    have n2:¬((281474976710656:Int)<(i.bytes:Int)*(c0:Int)):=by rw[Int.mul_comm];omega
    have n3:¬(c0<l0):=by omega
    have n4:¬((l0:Int)<0):=by omega
    simp only[execOp,ho,Instr.makeSlice,hx,hy,Sem.run_bind,run_underlying hu,Result.andThen_ok,asInt,asIntOf,Sem.run_pure,typeInfo,run_program,hi,w1,w2]
    by_cases h0:c0*s.size=0
    ·have e0:∀f g:Nat->Value,(Array.range 0).map f=(Array.range 0).map g:=λf g=>by simp
     simp[n1,n2,n3,n4,sizeOf,typeInfo,hi,hsz,h0,newRow]
     rw[e0]
    ·simp[n1,n2,n3,n4,sizeOf,typeInfo,hi,hsz,h0,newRow,g2]
  ·exact Vb.elim
 ·exact hk.elim
omit hs hG in
theorem HM{c:Call}{x y:Operand}(hc:c.args.toList=[x,y]){t u:TypeId}(ht:c.argTypes.toList=[t,u]):
  c.argTypes[0]?=some t/\c.argTypes[1]?=some u/\(c.args.map a.eval)[0]?=some (a.eval x)/\(c.args.map a.eval)[1]?=some (a.eval y):=by
 have h1:c.argTypes=#[t,u]:=by apply ace;simpa using ht
 have h2:c.args=#[x,y]:=by apply ace;simpa using hc
 rw[h1,h2]
 simp
theorem Lw{c:Call}{x y:Operand}{x' y':X}{t u e:TypeId}{s:Sh}{z:D}(ho:o.op= .call c)(hc:c.callee= .builtin .append)(hargs:c.args.toList=[x,y])(AI:c.argTypes.toList=[t,u])(hu:P.underlying t=some (.slice e))
  (xy:(∃e',P.underlying u=some (.slice e'))\/P.underlying u=some .string)(hsh:sh P e=some s)(hz:zero P e=some z)(h1:cX x=some x')(h2:cX y=some y')
  (h:dX C env rows (.append s (oF P e) x' y') k):bV P n o ρ T env rows a w k:=by
 obtain⟨da,he,k1⟩:=au h
 obtain⟨db,xq,k2⟩:=au k1
 obtain⟨news,hn,hk⟩:=au k2
 clear k1 k2
 obtain⟨hlb,hk⟩:=hk
 have hva:=bH h1 he hs hG
 have hvb:=bH h2 xq hs hG
 obtain⟨pb,hsrc⟩:=Lu (P:=P) hs hvb hn hlb
 obtain⟨old,hold,k1⟩:=au hk
 obtain⟨N,hN,k2⟩:=au k1
 obtain⟨Sx,hlen,hb,hmo,_⟩:=k2
 have FB:=hva.Bz (vt hold)
 obtain⟨ad,cap,Gu,hH⟩:=hs.bF.holds FB hold hN hlen Sx
 obtain⟨g1,v,g2,g3,g4⟩:=lS hsh hz
 obtain⟨i,hi,hsz⟩:=yO hsh
 have hby:oF P e=i.bytes:=by simp[oF,hi]
 obtain⟨a0,a1,a2,a3⟩:=HM (a:=a) hargs AI
 rw[hH.hv]at a2 FB
 have hH':=hH
 rw[hH.hv]at hH'
 have hR:Sy P w e s v ad N cap news.length Gu pb ((Builtin.append_ c.argTypes o.type (c.args.map a.eval)).run P w):=by
  refine⟨λhroom=>?_,λhg=>?_⟩
  ·have hf:=hsrc.first w rfl news.length (aax _)
   rw[<-hsrc.HF,aa8]at hf
   exact Eb a0 a1 a2 a3 hu xy hsh (hsrc.len w) hf hroom
  ·have hf:=hsrc.first w.drew rfl news.length (aax _)
   rw[<-hsrc.HF,aa8]at hf
   have hfo:=hH'.first (P:=P) (w':=w.drew) rfl N (aax _)
   rw[<-hH'.HF,aa8]at hfo
   exact Ec a0 a1 a2 a3 hu xy hsh hi g2 (hsrc.len w) hf hfo hg (by rw[<-hby];exact hb) hmo
 obtain⟨d,aa,ρ',T',v',w',m1,m2,m3,m4,m5⟩:=Lt hs hk hold hN FB hH' hsrc.els hsrc.cs g3 hR
 refine qD m1 m2 m3 m4 (λhq=>by rw[ho]at hq;simp[iC,hc]at hq) ?_
 rw[iD ho hc]
 simp[builtin,m5]
theorem Sz{c:Call}{x y:Operand}{x' y':X}{t u e:TypeId}{s:Sh}{z:D}{kd:IntKind}(ho:o.op= .call c)(hc:c.callee= .builtin .append)(hargs:c.args.toList=[x,y])(AI:c.argTypes.toList=[t,u])(hu:P.underlying t=some (.slice e))
  (xy:P.underlying u=some (.int kd))(hsh:sh P e=some s)(hz:zero P e=some z)(hsz0:s.size≠0)(h1:cX x=some x')(h2:cX y=some y')
  (h:dX C env rows (.vl s (oF P e) z x' y') k):bV P n o ρ T env rows a w k:=by
 obtain⟨da,he,k1⟩:=au h
 obtain⟨db,xq,k2⟩:=au k1
 clear k1
 split at k2
 ·rename_i kd' M
  obtain⟨hM,hk⟩:=k2
  have hva:=bH h1 he hs hG
  have hy:=fh h2 xq hs hG
  obtain⟨m,rfl⟩:=aaH hM
  simp only[Int.ofNat_eq_natCast,aaz]at hk hy
  obtain⟨old,hold,k1⟩:=au hk
  obtain⟨N,hN,k2⟩:=au k1
  obtain⟨Sx,hlen,hb,hmo,_⟩:=k2
  have FB:=hva.Bz (vt hold)
  obtain⟨ad,cap,Gu,hH⟩:=hs.bF.holds FB hold hN hlen Sx
  obtain⟨g1,v,g2,g3,g4⟩:=lS hsh hz
  obtain⟨i,hi,hsz⟩:=yO hsh
  have hby:oF P e=i.bytes:=by simp[oF,hi]
  obtain⟨a0,a1,a2,a3⟩:=HM (a:=a) hargs AI
  rw[hH.hv]at a2 FB
  rw[hy]at a3
  have hH':=hH
  rw[hH.hv]at hH'
  simp only[aaN]at hb hmo
  rw[hby]at hb
  have hR:Sy P w e s v ad N cap (List.replicate m z).length Gu (Builtin.zeroCells v.cells m).toList ((Builtin.append_ c.argTypes o.type (c.args.map a.eval)).run P w):=by
   refine⟨λhroom=>?_,λhg=>?_⟩
   ·simp only[aaN]at hroom⊢
    exact Ed a0 a1 a2 a3 hu xy hsh hi g2 hroom hb hmo g3 hsz0
   ·simp only[aaN]at hg⊢
    have hfo:=hH'.first (P:=P) (w':=w.drew) rfl N (aax _)
    rw[<-hH'.HF,aa8]at hfo
    have:=Ee (ty:=o.type) a0 a1 a2 a3 hu xy hsh hi g2 hfo hg hb hmo g3 hsz0 (by have:=hH'.hcap;omega)
    simpa using this
  have hzall:=vp (w:=w) (ρ:=ρ) (T:=T) g1 g3 (g4 ρ w T) m
  have hze:(Builtin.zeroCells v.cells m).toList=((Array.range (m*s.size)).map (v.cells[· %v.cells.size]!)).toList:=by simp[Builtin.zeroCells,g3]
  obtain⟨d,aa,ρ',T',v',w',m1,m2,m3,m4,m5⟩:=Lt hs hk hold hN FB hH' (λd hd=>(abt hd)▸g1) (by rw[hze];exact hzall) g3 hR
  refine qD m1 m2 m3 m4 (λhq=>by rw[ho]at hq;simp[iC,hc]at hq) ?_
  rw[iD ho hc]
  simp[builtin,m5]
 ·exact k2.elim
omit hs hG in
theorem Xc{c:Call}{x y:Operand}(hc:c.args.toList=[x,y]){t u:TypeId}(ht:c.argTypes.toList=[t,u]):
  c.argTypes[0]?=some t/\(c.args.map a.eval)[0]?=some (a.eval x)/\(c.args.map a.eval)[1]?=some (a.eval y):=by
 obtain⟨h1,_,h2,h3⟩:=HM (a:=a) hc ht
 exact⟨h1,h2,h3⟩
omit hG in
theorem HO {s : Sh} {da : D} {src : List D} {pb : List Value} {k0 : D -> Rows -> Prop} {x : Operand} {g : Nat -> D} {f : Nat -> Value}
  (hva:VR ρ w T da (a.eval x))(gR:∀d∈src,aL s d)(hcs:aW (LR ρ w T) (ak src) pb)
  (hrun:∀(ad:Option Addr) (len cap:Nat),dW da=some len->a.eval x= .slice ad len cap->(execOp a.eval o).run P w=
   ((match ad with
    |some q=>(storeCells q (pb.take (min src.length len*s.size))).run P w
    |none=> .ok () w).andThen λ_ w'=> .ok (.value (f (min src.length len))) w'))
  (hq:iC o.op=false)(hfg:∀m ρ w T,VR ρ w T (g m) (f m))(Zz:∀(m:Nat) rows,k0 (.raw (.int .i64 m)) rows->k (g m) rows)(hk:oq rows s da src k0):bV P n o ρ T env rows a w k:=by
 unfold oq at hk
 split at hk
 ·refine .here hs (Zz 0 _ hk) (hfg 0 _ _ _) ?_
  rw[hrun _ _ _ rfl hva.ofRaw]
  simp
 ·rename_i t' r off len ex
  obtain⟨rfl,k1⟩:=hk
  obtain⟨row,hl,hle,hk⟩:=au k1
  clear k1
  have FB:LR ρ w T _ _:=hva
  generalize hx:a.eval x=v at FB
  cases FB with
  |Bm _ _ _ _ _ ad=>
   have e1:aP row.els off (src.take (min src.length 0))=row.els:=by simp[aP]
   rw[e1]at hk
   have e2:rows.set r (some ⟨row.sh,row.els⟩)=rows:=BE (Pt hl)
   rw[e2]at hk
   refine .here hs (Zz _ _ hk) (hfg _ _ _ _) ?_
   rw[hrun _ _ _ rfl hx]
   cases ad<;>simp[storeCells]
  | sl _ _ _ _ _ _ L cap hL c1 c2 c3 =>
   have hr:=hs.bF.row r row L hl hL
   have hmp:=LR.Hz c3
   obtain⟨cur,t2,m1,m2,m3,m4⟩:=hr.cells hmp
   have hsr:t'=row.sh:=by
    rcases c3 with⟨_,c3,_⟩|⟨m,c3,_⟩
    ·rw[c3,hr.sh]
    ·simp[Loc.at]at c3
   subst hsr
   have hNl:(src.take (min src.length len)).length=min src.length len:=by rw[aau];omega
   have Sq:∀d∈src.take (min src.length len),aL row.sh d:=λd hd=>gR d (aaY hd)
   have hfit:off+(src.take (min src.length len)).length<=row.els.length:=by omega
   obtain⟨f1,f2⟩:=BD (s:=row.sh) hfit
   have hM:aW (LR ρ w T) (ak (src.take (min src.length len))) (pb.take (min src.length len*row.sh.size)):=by
    have h5:=hcs.take (min src.length len*row.sh.size)
    have h6:ak src=ak (src.take (min src.length len))++ak (src.drop (min src.length len)):=by rw[<-ei,abj]
    have h7:(ak (src.take (min src.length len))).length=min src.length len*row.sh.size:=by rw[be Sq,hNl]
    rw[h6,<-h7,aaW,h7]at h5
    exact h5
   have hA:(ak (row.els.take off)).length=off*row.sh.size:=by
    rw[be (λd hd=>hr.els d (aaY hd)),aau]
    congr 1
    omega
   have hmid:(ak (src.take (min src.length len))).length=(ak ((row.els.drop off).take (src.take (min src.length len)).length)).length:=by
    rw[be Sq,be (λd hd=>hr.els d (abQ (aaY hd)))]
    congr 1
    simp only[aau,aat]
    omega
   have m5:=m4
   rw[f1]at m5
   have HJ:=m5.seg
   have hw:=m5.write rfl hM hmid
   rw[<-f2,hA]at hw
   have jt:=hM.len
   have hone:∀v∈pb.take (min src.length len*row.sh.size),v.oneCell'=true:=by
    intro v hv
    obtain⟨j,hj,rfl⟩:=aa0.1 hv
    exact(hM.at_ j _ _ (aao (by omega)) (aao hj)).one
   have Pu:off*row.sh.size+0+(pb.take (min src.length len*row.sh.size)).length<=cur.size:=by
    have:=HJ.2
    rw[hA,<-hmid,jt]at this
    simpa using this
   have hst:=gS P L.b (off*row.sh.size) t2 _ 0 cur w m1 Pu hone
   have hlen2:(ak (aP row.els off (src.take (min src.length len)))).length=(ak row.els).length:=by
    rw[be (AG (s:=row.sh) hr.els Sq),AH hfit,be hr.els]
   obtain⟨u1,u2⟩:=hs.write hl hL _ cur (cur.toList.take (off*row.sh.size+0)++pb.take (min src.length len*row.sh.size)++cur.toList.drop (off*row.sh.size+0+(pb.take (min src.length len*row.sh.size)).length)).toArray t2 hmp m1
    (by simp only[adm,aap,aat,abV];simp only[aau,abV]at Pu⊢;omega)
    (AG hr.els Sq) (by rw[hlen2];exact m3) hw
   refine qD (Zz _ _ hk) u1 u2 (hfg _ _ _ _) (λh=>by rw[hq]at h;cases h) ?_
   rw[hrun _ _ _ rfl hx]
   simp only[Loc.off,abk,hst,Result.andThen_ok]
 ·rename_i t' r i p off len ex
  obtain⟨rfl,k1⟩:=hk
  obtain⟨row,hl,k2⟩:=au k1
  obtain⟨d2,hg,k3⟩:=au k2
  clear k1 k2
  split at k3
  ·rename_i q ul
   obtain⟨hle,k4⟩:=k3
   obtain⟨els,pz,hk⟩:=au k4
   clear k4
   have FB:LR ρ w T _ _:=hva
   generalize hx:a.eval x=v at FB
   cases FB with
   | Bm _ _ _ _ _ ad =>
    have e1:aP ul off (src.take (min src.length 0))=ul:=by simp[aP]
    rw[e1]at pz
    have e3:∀(p:List Nat) (d x:D),d.get p=some x->d.set p x=some d:=by
     intro p
     induction p with
     |nil=>intro d x h;simp[D.get]at h;subst h;simp[D.set]
     | cons j p ih =>
      intro d x h
      cases d with
      | agg s l =>
       simp only[D.get]at h
       simp only[D.set]
       cases hj:l[j]? with
       |none=>simp[hj]at h
       |some y=>
        simp only[hj]at h⊢
        rw[ih y x h]
        simp only
        rw[BE hj]
      | _=>simp[D.get]at h
    have e4:els=row.els:=by
     simp only[cM]at hg
     simp only[mL]at pz
     cases hj:row.els[i]? with
     |none=>simp[hj]at hg
     |some y=>
      simp only[hj]at hg pz
      rw[e3 p y _ hg]at pz
      simp at pz
      rw[BE hj]at pz
      exact pz.symm
    rw[e4]at hk
    have e2:rows.set r (some ⟨row.sh,row.els⟩)=rows:=BE (Pt hl)
    rw[e2]at hk
    refine .here hs (Zz _ _ hk) (hfg _ _ _ _) ?_
    rw[hrun _ _ _ rfl hx]
    cases ad<;>simp[storeCells]
   | sl _ _ _ _ _ _ L cap hL c1 c2 c3 =>
    have hr:=hs.bF.row r row L hl hL
    have hmp:=LR.Hz c3
    obtain⟨cur,t2,m1,m2,m3,m4⟩:=hr.cells hmp
    rcases c3 with⟨c3,_⟩|⟨m,c3,c4⟩
    ·simp at c3
    ·rw[Loc.yM hmp,hr.sh]at c3
     obtain⟨g5,g6,pre,post,g7,g8⟩:=xn hr.els c3 hg
     obtain⟨rfl,_⟩:=p9 g5
     obtain⟨l',nA,hlen,fK⟩:=g5.jX rfl
     cases nA
     simp[Sh.count]at hlen
     have bW:∀d∈ul,aL t' d:=by
      intro d hd
      obtain⟨q,hq,rfl⟩:=aa0.1 hd
      exact fK q t' _ (by simp[Sh.sub];omega) (aao hq)
     have hNl:(src.take (min src.length len)).length=min src.length len:=by rw[aau];omega
     have Sq:∀d∈src.take (min src.length len),aL t' d:=λd hd=>gR d (aaY hd)
     have hfit:off+(src.take (min src.length len)).length<=ul.length:=by omega
     obtain⟨f1,f2⟩:=BD (s:=t') hfit
     have jO:aL (.ar m t') (.agg (.ar m t') (aP ul off (src.take (min src.length len)))):=by
      refine .agg _ _ rfl (by rw[AH hfit];simpa[Sh.count]using hlen) λj e' d' hj lz=>?_
      simp only[Sh.sub]at hj
      split at hj
      ·cases hj;exact AG bW Sq d' (bQ lz)
      ·cases hj
     obtain⟨z1,z2,z3,Pn,old,Po,z4,z5,z6,z7⟩:=FA hr.els c3 jO pz
     have hM:aW (LR ρ w T) (ak (src.take (min src.length len))) (pb.take (min src.length len*t'.size)):=by
      have h5:=hcs.take (min src.length len*t'.size)
      have h6:ak src=ak (src.take (min src.length len))++ak (src.drop (min src.length len)):=by rw[<-ei,abj]
      have h7:(ak (src.take (min src.length len))).length=min src.length len*t'.size:=by rw[be Sq,hNl]
      rw[h6,<-h7,aaW,h7]at h5
      exact h5
     have hA:(ak (ul.take off)).length=off*t'.size:=by
      rw[be (λd hd=>bW d (aaY hd)),aau]
      congr 1
      omega
     have hmid:(ak (src.take (min src.length len))).length=(ak ((ul.drop off).take (src.take (min src.length len)).length)).length:=by
      rw[be Sq,be (λd hd=>bW d (abQ (aaY hd)))]
      congr 1
      simp only[aau,aat]
      omega
     --the two ways to part the row are one
     have hpp:pre=Pn:=by
      have e1:(ak row.els).take pre.length=pre:=by rw[g7,aaW]
      have e2:(ak row.els).take Pn.length=Pn:=by rw[z4,aaW]
      have e3:pre.length=Pn.length:=by rw[g8,z6]
      rw[<-e1,<-e2,e3]
     subst hpp
     have hoo:old=(D.agg (.ar m t') ul).flat/\post=Po:=by
      have e1:=g7.symm.trans z4
      have e2:=List.append_cancel_left e1
      have e3:old.length=(D.agg (.ar m t') ul).flat.length:=by rw[z7,jO.len,g5.len]
      have e4:(D.agg (.ar m t') ul).flat++post=old++Po:=e2
      have:=List.append_inj e4 e3.symm
      exact⟨this.1.symm,this.2⟩
     obtain⟨rfl,rfl⟩:=hoo
     have m5:=m4
     rw[g7]at m5
     simp only[D.flat]at m5 z5
     rw[f1]at m5
     have e1:pre++((ak (ul.take off)++(ak ((ul.drop off).take (src.take (min src.length len)).length)++ak (ul.drop (off+(src.take (min src.length len)).length))))++post)=
       (pre++ak (ul.take off))++(ak ((ul.drop off).take (src.take (min src.length len)).length)++(ak (ul.drop (off+(src.take (min src.length len)).length))++post)):=by simp
     rw[e1]at m5
     have HJ:=m5.seg
     have hw:=m5.write rfl hM hmid
     have e2:(pre++ak (ul.take off))++(ak (src.take (min src.length len))++(ak (ul.drop (off+(src.take (min src.length len)).length))++post))=ak els:=by
      rw[z5,f2];simp
     rw[e2]at hw
     have hAA:(pre++ak (ul.take off)).length=L.off (i::p)+off*t'.size:=by
      rw[aap,hA,g8]
      simp[Loc.off,hr.sh]
     rw[hAA]at hw
     have jt:=hM.len
     have hone:∀v∈pb.take (min src.length len*t'.size),v.oneCell'=true:=by
      intro v hv
      obtain⟨j,hj,rfl⟩:=aa0.1 hv
      exact(hM.at_ j _ _ (aao (by omega)) (aao hj)).one
     have Pu:L.off (i::p)+off*t'.size+0+(pb.take (min src.length len*t'.size)).length<=cur.size:=by
      have:=HJ.2
      rw[hAA,<-hmid,jt]at this
      simpa using this
     have hst:=gS P L.b (L.off (i::p)+off*t'.size) t2 _ 0 cur w m1 Pu hone
     have hlen2:(ak els).length=(ak row.els).length:=by
      rw[be z1,z2,be hr.els]
     obtain⟨u1,u2⟩:=hs.write hl hL els cur (cur.toList.take (L.off (i::p)+off*t'.size+0)++pb.take (min src.length len*t'.size)++cur.toList.drop (L.off (i::p)+off*t'.size+0+(pb.take (min src.length len*t'.size)).length)).toArray t2 hmp m1
      (by simp only[adm,aap,aat,abV];simp only[aau,abV]at Pu⊢;omega)
      z1 (by rw[hlen2];exact m3) hw
     refine qD (Zz _ _ hk) u1 u2 (hfg _ _ _ _) (λh=>by rw[hq]at h;cases h) ?_
     rw[hrun _ _ _ rfl hx]
     simp only[hst,Result.andThen_ok]
  ·exact k3.elim
 ·exact hk.elim
theorem Ve{c:Call}{x y:Operand}{x' y':X}{t u e:TypeId}{s:Sh}(ho:o.op= .call c)(hc:c.callee= .builtin .copy)(hargs:c.args.toList=[x,y])(AI:c.argTypes.toList=[t,u])(hu:P.underlying t=some (.slice e))
  (hsh:sh P e=some s)(h1:cX x=some x')(h2:cX y=some y')
  (h:dX C env rows (.copy s x' y') k):bV P n o ρ T env rows a w k:=by
 obtain⟨da,he,k1⟩:=au h
 obtain⟨db,xq,k2⟩:=au k1
 obtain⟨src,hn,hlb,hk⟩:=au k2
 clear k1 k2
 have hva:=bH h1 he hs hG
 have hvb:=bH h2 xq hs hG
 obtain⟨pb,hsrc⟩:=Lu (P:=P) hs hvb hn hlb
 obtain⟨a0,a2,a3⟩:=Xc (a:=a) hargs AI
 refine HO (g:=λm=> .raw (.int .i64 m)) (f:=λm=> .int .i64 m) hs hva hsrc.els hsrc.cs ?_ (by rw[ho];simp[iC,hc]) (λ_ _ _ _=>VR.raw rfl) (λ_ _ h=>h) hk
 ·intro ad len cap _ hx
  have hf:=hsrc.first w rfl (min src.length len) (Nat.min_le_left _ _)
  rw[hx]at a2
  rw[iD ho hc]
  have hmin:Nat.min src.length len=min src.length len:=rfl
  cases ad<;>simp[builtin,Builtin.copy_,a0,a2,a3,run_underlying hu,hsrc.len,run_sizeOf hsh,hmin,hf,goInt,v9]
theorem op_clr{c:Call}{x:Operand}{x':X}{t e:TypeId}{s:Sh}{z:D}(ho:o.op= .call c)(hc:c.callee= .builtin .clear)(hargs:c.args.toList=[x])(AI:c.argTypes.toList=[t])(hu:P.underlying t=some (.slice e))
  (hsh:sh P e=some s)(hz:zero P e=some z)(h1:cX x=some x')(h:dX C env rows (.clr s z x') k):bV P n o ρ T env rows a w k:=by
 obtain⟨da,he,k1⟩:=au h
 obtain⟨m,hm,hk⟩:=au k1
 have hva:=bH h1 he hs hG
 obtain⟨g1,v,g2,g3,g4⟩:=lS hsh hz
 have hzall:aW (LR ρ w T) (ak (List.replicate m z)) (Builtin.zeroCells v.cells m).toList:=by
  have:=vp (w:=w) (ρ:=ρ) (T:=T) g1 g3 (g4 ρ w T) m
  simpa[Builtin.zeroCells,g3]using this
 refine HO (g:=λ_=> .cd []) (f:=λ_=> .tuple #[]) hs hva (λd hd=>(abt hd)▸g1) hzall ?_ (by rw[ho];simp[iC,hc]) (λ_ _ _ _=>⟨#[],rfl,.nil⟩) (λ_ _ h=>h) hk
 intro ad len cap hl hx
 have e0:m=len:=abd (hm.symm.trans hl)
 subst e0
 have hlen:(Builtin.zeroCells v.cells m).toList.length=m*s.size:=by simp[Builtin.zeroCells,g3]
 have a0:c.argTypes[0]?=some t:=by rw[<-adk,AI];rfl
 have a2:(c.args.map a.eval)[0]?=some (.slice ad m cap):=by rw[Array.getElem?_map,<-adk,hargs,<-hx];rfl
 have e2:(Builtin.zeroCells v.cells m).toList.take (min (List.replicate m z).length m*s.size)=(Builtin.zeroCells v.cells m).toList:=by
  rw[aaN,Nat.min_self,<-hlen,aa8]
 have e3:m=0->(Builtin.zeroCells v.cells m).toList=[]:=λh=>by subst h;simp[Builtin.zeroCells]
 rw[iD ho hc,e2]
 rcases ad with _|q
 ·simp[builtin,Builtin.clear_,a0,a2,run_underlying hu]
 ·rcases m with _|m
  ·simp[builtin,Builtin.clear_,a0,a2,run_underlying hu,e3,storeCells]
  ·simp[builtin,Builtin.clear_,a0,a2,run_underlying hu,g2,v9]
end ops
end Go.Am
namespace Go.Am
variable {C:aU} {P:Program} {n:Nat} {ρ:Pl} {T:Nat->Prop} {env:Env} {rows:Rows} {a:Act} {w:World}
theorem tX(hs:eQ n ρ T env rows a w)(hG:wQ C ρ w T):∀{l:List Operand} {l':List X} {ds:List D},ZV l=some l'->OZ C env l'=some ds->aW (VR ρ w T) ds (l.map a.eval)
 |[],l',ds,h1,h2=>by
  simp[ZV]at h1;subst h1
  simp[OZ]at h2;subst h2
  exact .nil
 | x :: l, l', ds, h1, h2 => by
  simp only[ZV]at h1
  split at h1
  ·rename_i y hy
   split at h1
   ·rename_i r hr
    cases h1
    simp only[OZ]at h2
    split at h2
    ·rename_i d hd
     split at h2
     ·rename_i ds' hds
      cases h2
      exact .cons (bH hy hd hs hG) (tX hs hG hr hds)
     ·cases h2
    ·cases h2
   ·cases h1
  ·cases h1
theorem BF {mx : Bool} {kd : IntKind} : ∀ {l : List D} {x m : Int} {vs : List Value}, oE mx kd x l = some m -> aW (VR ρ w T) l vs ->
  (vs.foldlM (if mx then Builtin.max2 else Builtin.min2) (.int kd x)).run P w= .ok (.int kd m) w
 |[],x,m,vs,h,hv=>by
  have:vs=[]:=aaF hv.len.symm
  subst this
  simp[oE]at h
  subst h
  simp
 | d :: l, x, m, vs, h, hv => by
  cases vs with
  |nil=>have:=hv.len;simp at this
  | cons v vs =>
   cases d with
   | raw q =>
    cases q with
    | int k' y =>
     simp only[oE]at h
     cases hb:(kd==k')with
     |false=>rw[hb]at h;simp at h
     | true =>
      rw[hb]at h
      simp only[aaU]at h
      have hk:kd=k':=by simpa using hb
      subst hk
      have hv0:=VR.ofRaw hv.head
      subst hv0
      have ih:=BF (vs:=vs) h hv.tail
      cases mx with
      | true =>
       simp only[abR,aaU]at ih h⊢
       have e:(if x<y then y else x)=max x y:=by
        rw[Int.max_def];split<;>split<;>omega
       simp[List.foldlM_cons,Builtin.max2,e,ih]
      | false =>
       simp only[ade,abP,aaK]at ih h⊢
       have e:(if y<x then y else x)=min x y:=by
        rw[Int.min_def];split<;>split<;>omega
       simp[List.foldlM_cons,Builtin.min2,e,ih]
    | _=>simp[oE]at h
   | _=>simp[oE]at h
theorem M9{d:D}{u:UInt8}(h:toByte d=some u):∃i,d= .raw (.int .u8 i)/\u=UInt8.ofNat i.toNat:=by
 unfold toByte at h
 split at h
 ·rename_i i;exact⟨i,rfl,by simpa using h.symm⟩
 ·cases h
theorem Lx:∀{l:List D} {bs:List UInt8} {cs:List Value},eK toByte l=some bs->aW (LR ρ w T) (ak l) cs->∃ns:List Int,cs=ns.map (Value.int .u8)/\bs=ns.map (λi=>UInt8.ofNat i.toNat)/\l.length=ns.length
 |[],bs,cs,h,hc=>by
  simp[eK]at h;subst h
  have:cs=[]:=aaF (by simpa[ak]using hc.len.symm)
  subst this
  exact⟨[],rfl,rfl,rfl⟩
 | d :: l, bs, cs, h, hc => by
  simp only[eK]at h
  split at h
  ·rename_i u hu
   split at h
   ·rename_i us hus
    cases h
    obtain⟨i,rfl,rfl⟩:=M9 hu
    simp only[ak,D.flat,List.singleton_append]at hc
    cases cs with
    |nil=>have:=hc.len;simp at this
    |cons c cs=>
     have hv:=VR.ofRaw (VR.bE hc.head)
     obtain⟨ns,rfl,rfl,h3⟩:=Lx hus hc.tail
     subst hv
     exact⟨i::ns,rfl,rfl,by simp[h3]⟩
   ·cases h
  ·cases h
theorem foldl_push(ns:List Int):∀(acc:ByteArray),ns.foldl (λr i=>r.push (UInt8.ofNat i.toNat)) acc=⟨acc.data++(ns.map λi=>UInt8.ofNat i.toNat).toArray⟩:=by
 induction ns with
 |nil=>intro acc;simp
 |cons i ns ih=>
  intro acc
  simp only[adU,ih]
  congr 1
  apply ace
  simp[ByteArray.push]
theorem nH{k:Sc}{x:D}(h:aL (.leaf k) x):∃v,x= .raw v/\oD v k=true:=by
 cases h with
 |leaf _ v hv=>exact⟨v,rfl,hv⟩
 |agg _ _ h _ _=>simp[Sh.isAgg]at h
theorem vu{x y:D}{b:Bool}{vx vy:Value}{t:TypeId}{s:Sh}(h:zJ x y=some b)(hx:LR ρ w T x vx)(hy:LR ρ w T y vy)(hsx:aL s x)
  (ht:(∃k,P.underlying t=some (.int k)/\s= .leaf (.int k))\/(P.underlying t=some .bool/\s= .leaf .bool)\/(P.underlying t=some .string/\s= .leaf .str))(d:Nat):
  (Op.equalIn (d+1) t vx vy).run P w= .ok b w:=by
 rcases ht with⟨k,ht,rfl⟩|⟨ht,rfl⟩|⟨ht,rfl⟩
 ·obtain⟨v,rfl,hv⟩:=nH hsx
  have e1:=VR.ofRaw (VR.bE hx)
  cases v with
  | int k1 i =>
   cases y with
   | raw q =>
    have e2:=VR.ofRaw (VR.bE hy)
    cases q with
    | int k2 j =>
     simp only[zJ,lu]at h
     split at h
     ·rename_i hk
      subst hk
      cases h
      rw[e1,e2,run_equalIn_int w d t _ _ _ _ ht]
      rfl
     ·cases h
    | _=>simp[zJ,lu]at h
   | _=>simp[zJ,lu]at h
  | _=>simp[oD]at hv
 ·obtain⟨v,rfl,hv⟩:=nH hsx
  have e1:=VR.ofRaw (VR.bE hx)
  cases v with
  | bool i =>
   cases y with
   | raw q =>
    have e2:=VR.ofRaw (VR.bE hy)
    cases q with
    |bool j=>
     simp only[zJ,lu]at h
     cases h
     rw[e1,e2,run_equalIn_bool' w d t _ _ ht]
    | _=>simp[zJ,lu]at h
   | _=>simp[zJ,lu]at h
  | _=>simp[oD]at hv
 ·obtain⟨v,rfl,hv⟩:=nH hsx
  have e1:=VR.ofRaw (VR.bE hx)
  cases v with
  | string i =>
   cases y with
   | raw q =>
    have e2:=VR.ofRaw (VR.bE hy)
    cases q with
    |string j=>
     simp only[zJ,lu]at h
     cases h
     rw[e1,e2,run_equalIn_string w d t _ _ ht]
    | _=>simp[zJ,lu]at h
   | _=>simp[zJ,lu]at h
  | _=>simp[oD]at hv
theorem HP{s e:Sh}{l:List D}{cs:Array Value}{i:Nat}{d:D}{t:TypeId}(hsh:aL s (.agg s l))(hc:aW (LR ρ w T) (ak l) cs.toList)(he:s.sub i=some e)(hd:l[i]?=some d)(ht:sh P t=some e)(hl:mN P t e=true):
  ∃v,(part t cs (s.lP i)).run P w= .ok v w/\VR ρ w T d v/\aL e d:=by
 obtain⟨_,ha⟩:=p9 hsh
 obtain⟨d',lz,ri,oI⟩:=hsh.part ha he
 rw[hd]at lz
 cases lz
 rw[fY hd]at hc
 have g3:=(hc.drop (ak (List.take i l)).length).take d.flat.length
 rw[aa9,aaW,oI]at g3
 have hlen:=g3.len
 exact⟨_,HG (w:=w) (o':=s.lP i) (ms:=(cs.toList.drop (s.lP i)).take d.flat.length) ht hl (by rw[<-hlen,ri.len]) (rf ri g3) (by rw[<-hlen]),VR.gZ ri g3,ri⟩
theorem Pv{l l':List D}{b:Bool}{i:Nat}(h:DW (l.drop i) (l'.drop i)=some b)(hi:i<l.length):∃x y t u,l[i]?=some x/\l'[i]?=some y/\zJ x y=some t/\DW (l.drop (i+1)) (l'.drop (i+1))=some u/\b=(t&&u):=by
 rw[abp hi]at h
 cases hd:l'.drop i with
 |nil=>rw[hd]at h;simp[DW]at h
 | cons y r =>
  rw[hd]at h
  simp only[DW]at h
  split at h
  ·rename_i t ht
   split at h
   ·rename_i u hu
    have hy:l'[i]?=some y:=by
     have:=ach (λq=>q[0]?) hd
     simpa using this
    have hr:l'.drop (i+1)=r:=by
     have:=ach List.tail hd
     simpa using this
    exact⟨l[i],y,t,u,aao hi,hy,ht,by rw[hr];exact hu,by simpa using h.symm⟩
   ·cases h
  ·cases h
theorem yR:∀(n:Nat) {t:TypeId} {s:Sh} {x y:D} {vx vy:Value} {b:Bool} (d:Nat),D0 P n t s=true->aL s x->aL s y->VR ρ w T x vx->VR ρ w T y vy->zJ x y=some b->
  (Op.equalIn (d+n) t vx vy).run P w= .ok b w
 |0,t,s,x,y,vx,vy,b,d,h,_,_,_,_,_=>by simp[D0]at h
 | n + 1, t, s, x, y, vx, vy, b, d, h, hx, hy, Vf, hvy, he => by
  simp only[D0]at h
  split at h
  ·rename_i fs hu
   simp only[aan,ack,acH]at h
   obtain⟨⟨⟨h1,h2⟩,h3⟩,h4⟩:=h
   obtain⟨l,rfl,hl,_⟩:=hx.jX h2
   obtain⟨l',rfl,nA,_⟩:=hy.jX h2
   obtain⟨cs,rfl,_,hcs⟩:=Vf
   obtain⟨cs',rfl,_,hcs'⟩:=hvy
   have hfo:P.fieldsOf t=fs:=by simp[Program.fieldsOf,hu]
   rw[show d+(n+1)=(d+n)+1 from rfl,run_equalIn_struct w (d+n) t cs cs' (by rw[hfo];exact hu) h1,hfo]
   simp only[zJ]at he
   have key:∀(gs:List Field) (i:Nat) (b:Bool),i+gs.length=s.count->Sn P (D0 P n) s i gs=true->DW (l.drop i) (l'.drop i)=some b->(Op.eqFields (d+n) cs cs' gs).run P w= .ok b w:=by
    intro gs
    induction gs with
    |nil=>
     intro i b hi _ hb
     simp at hi
     rw[acJ (by omega),acJ (by omega)]at hb
     simp[DW]at hb
     subst hb
     simp[Op.eqFields]
    | cons f gs ih =>
     intro i b hi hf hb
     simp only[Sn,aan]at hf
     obtain⟨⟨⟨f1,f2⟩,f3⟩,f4⟩:=hf
     simp only[aaP]at hi
     obtain⟨x0,y0,t0,u0,g1,g2,g3,g4,g5⟩:=Pv hb (by omega)
     split at f3
     ·rename_i e fK
      simp only[aan,ack]at f3
      obtain⟨⟨f5,f6⟩,f7⟩:=f3
      obtain⟨va,r1,r2,r3⟩:=HP hx hcs fK g1 f5 f6
      obtain⟨vb,r4,r5,r6⟩:=HP hy hcs' fK g2 f5 f6
      have r7:=yR n d f7 r3 r6 r2 r5 g3
      have f1':f.name≠ "_" :=by simpa using f1
      have f2':f.offset=s.lP i:=by simpa using f2
      simp only[Op.eqFields]
      rw[aaJ f1']
      simp only[f2',Sem.run_bind,r1,r4,r7,Result.andThen_ok]
      cases t0 with
      |false=>simp[g5]
      |true=>simp[ih (i+1) u0 (by omega) f4 g4,g5]
     ·cases f3
   exact key fs.toList 0 b (by simpa using h3) h4 he
  ·rename_i m e hu
   split at h
   ·rename_i m' se
    simp only[aan,ack]at h
    obtain⟨⟨⟨rfl,h2⟩,h3⟩,h4⟩:=h
    obtain⟨l,rfl,hl,_⟩:=hx.jX rfl
    obtain⟨l',rfl,nA,_⟩:=hy.jX rfl
    obtain⟨cs,rfl,_,hcs⟩:=Vf
    obtain⟨cs',rfl,_,hcs'⟩:=hvy
    obtain⟨inf,hi,hsz⟩:=yO h2
    have hco:P.cellsOf e=se.size:=by simp[Program.cellsOf,hi,hsz]
    rw[show d+(n+1)=(d+n)+1 from rfl,run_equalIn_array w (d+n) cs cs' hu hi,hco]
    simp only[zJ]at he
    simp[Sh.count]at hl nA
    have key:∀(k i:Nat) (b:Bool),i+k=m->DW (l.drop i) (l'.drop i)=some b->(Op.eqItems (d+n) e se.size cs cs' (List.range' i k)).run P w= .ok b w:=by
     intro k
     induction k with
     |zero=>
      intro i b hi hb
      rw[acJ (by omega),acJ (by omega)]at hb
      simp[DW]at hb
      subst hb
      simp[Op.eqItems]
     |succ k ih=>
      intro i b hi hb
      obtain⟨x0,y0,t0,u0,g1,g2,g3,g4,g5⟩:=Pv hb (by omega)
      have fK:(Sh.ar m se).sub i=some se:=by simp[Sh.sub];omega
      obtain⟨va,r1,r2,r3⟩:=HP hx hcs fK g1 h2 h3
      obtain⟨vb,r4,r5,r6⟩:=HP hy hcs' fK g2 h2 h3
      have r7:=yR n d h4 r3 r6 r2 r5 g3
      have e1:(Sh.ar m se).lP i=i*se.size:=rfl
      rw[e1]at r1 r4
      rw[List.range'_succ]
      simp only[Op.eqItems,Sem.run_bind,r1,r4,r7,Result.andThen_ok]
      cases t0 with
      |false=>simp[g5]
      |true=>simp[ih (i+1) u0 (by omega) g4,g5]
    rw[List.range_eq_range']
    exact key m 0 b (by omega) he
   ·cases h
  ·rename_i k hu
   have hk:s= .leaf (.int k):=by simpa using h
   exact vu he (Vf.Bz (hx.qY (by rw[hk];rfl))) (hvy.Bz (hy.qY (by rw[hk];rfl))) hx (.inl ⟨k,hu,hk⟩) (d+n)
  ·rename_i hu
   have hk:s= .leaf .bool:=by simpa using h
   exact vu he (Vf.Bz (hx.qY (by rw[hk];rfl))) (hvy.Bz (hy.qY (by rw[hk];rfl))) hx (.inr (.inl ⟨hu,hk⟩)) (d+n)
  ·rename_i hu
   have hk:s= .leaf .str:=by simpa using h
   exact vu he (Vf.Bz (hx.qY (by rw[hk];rfl))) (hvy.Bz (hy.qY (by rw[hk];rfl))) hx (.inr (.inr ⟨hu,hk⟩)) (d+n)
  ·cases h
theorem BG:∀(m t:Nat) (acc:Array Value),∃l:List (BitVec 8),(Extern.BytealgMakeNoZero.digits m t acc).toList=acc.toList++l.map (λb=>Value.int .u8 (b.toNat:Int))/\l.length=m
 |0,_,acc=>⟨[],by simp[Extern.BytealgMakeNoZero.digits],rfl⟩
 |m+1,t,acc=>by
  obtain⟨l,h1,h2⟩:=BG m (t/256) (acc.push (.int .u8 (Int.ofNat (t %256))))
  refine⟨BitVec.ofNat 8 t::l,?_,by simp[h2]⟩
  rw[Extern.BytealgMakeNoZero.digits,h1]
  simp
theorem run_mnz{t e:TypeId}(ht:P.underlying t=some (.slice e))(ps:Array TypeId)(m:Nat)(hm:m<=most)(w:World):
  ∃(cs:Array Value) (l:List (BitVec 8)),(Extern.BytealgMakeNoZero.makeNoZero ps #[t] #[.int .i64 m]).run P w= .ok (.slice (some ⟨w.heap.size,0,none⟩) m cs.size) (w.drew.drew.alloc (.cells cs e))/\m<=cs.size/\cs.toList=l.map λb=>Value.int .u8 (b.toNat:Int):=by
 have e0:∃(q:Question) (s1 s2:String),q.forced=false/\Extern.BytealgMakeNoZero.makeNoZero ps #[t] #[.int .i64 m]=(do
   let .slice el<-underlying t|stuck s1
   if(m:Int)<0||(m:Int)>2^48 then runtimePanic (.error s2)
   let c<-choose (.appendCap (m:Int).toNat 0 el)
   askRoom c
   let bytes<-choose q
   let ad<-newRow el (Extern.BytealgMakeNoZero.digits c bytes #[])
   pure (.slice (some ad) (m:Int).toNat c)):=by
  refine⟨_,_,_,?_,rfl⟩
  rfl
 obtain⟨q,s1,s2,hq,e0⟩:=e0
 obtain⟨l,h1,h2⟩:=BG (grownCap w m 0 e) (q.cut (w.tape (w.drawn+1) q)) #[]
 have hsz:(Extern.BytealgMakeNoZero.digits (grownCap w m 0 e) (q.cut (w.tape (w.drawn+1) q)) #[]).size=grownCap w m 0 e:=by
  rw[<-abV,h1];simpa using h2
 refine⟨_,l,?_,?_,by simpa using h1⟩
 ·have g1:¬(m:Int)<0:=by omega
  have g2:¬(281474976710656:Int)<(m:Int):=by rw[nG]at hm;omega
  rw[hsz,e0]
  have f1:∀a b c,(Question.appendCap a b c).forced=false:=λ_ _ _=>rfl
  simp[run_underlying ht,g1,g2,f1,hq,newRow,grownCap]
 ·rw[hsz]
  simpa using grownCap_ge w m 0 e
theorem find_mnz{fn:Func}(h:yK fn.name=true):Extern.find fn=some (Extern.BytealgMakeNoZero.makeNoZero fn.params fn.resultTypes):=by
 obtain⟨⟩:=fn
 simp[yK,Extern.BytealgMakeNoZero.typedRows]at h
 subst h
 kernel_rfl
theorem BH{fn:Func}(h:yK fn.name=true)(h2:fn.origin= ""):Extern.findNext fn=none/\(fn.name== "runtime.NumGoroutine")=false:=by
 obtain⟨⟩:=fn
 simp[yK,Extern.BytealgMakeNoZero.typedRows]at h
 simp only at h2
 subst h
 subst h2
 exact⟨by kernel_rfl,by simp⟩
theorem run_idx{fn:Func}{f:FuncId}(hf:P.funcs[f]?=some fn)(hb:fn.body.isSome=false)(h:fn.name=By)(h2:fn.origin= "")(b:ByteArray)(c:Int)(w:World):
  (callFunc f #[.string b,.int .u8 c]).run P w= .ok (.value (.int .i64 (WZ c b))) w:=by
 have HI:fn.body.isNone=true:=by cases hq:fn.body<;>simp_all
 have e1:Extern.find fn=some Extern.BytealgIndexByte.indexByte:=by
  obtain⟨⟩:=fn;simp only at h h2;subst h;subst h2;kernel_rfl
 have e2:Extern.findNext fn=none/\(fn.name== "runtime.NumGoroutine")=false:=by
  obtain⟨⟩:=fn;simp only at h h2;subst h;subst h2;exact⟨by kernel_rfl,by simp[By,Extern.BytealgIndexByte.rows]⟩
 have e3:Extern.BytealgIndexByte.indexByte #[.string b,.int .u8 c]=(match(List.range b.size).find? λi=>b[i]! ==c.toNat.toUInt8 with
  |some i=>pure (goInt i)
  |none=>pure (goInt (-1))):=rfl
 rw[run_callFunc_extern hf e2.2 HI e2.1 e1,e3]
 unfold WZ
 generalize (List.range b.size).find? _=o
 cases o<;>simp[goInt]
section ops
variable (hs:eQ n ρ T env rows a w) (hG:wQ C ρ w T) {o:Oper} {k:D->Rows->Prop}
include hs hG
theorem Na{neg:Bool}{op:BinOp}{t u:TypeId}{s:Sh}{x y:Operand}{x' y':X}(ho:o.op= .binOp op t x y u)(hop:op=bif neg then .neq else .eql)(hsh:sh P t=some s)(hok:D0 P 40 t s=true)(hg:P.eqGuardType P.depth t=false)
  (h1:cX x=some x')(h2:cX y=some y')(h:dX C env rows (.eqa s neg x' y') k):bV P n o ρ T env rows a w k:=by
 obtain⟨d,he,k1⟩:=au h
 have Vf:=bH h1 he hs hG
 split at k1
 ·rename_i s1 l
  obtain⟨d2,xq,k2⟩:=au k1
  clear k1
  have hvy:=bH h2 xq hs hG
  split at k2
  ·rename_i s2 l'
   obtain⟨rfl,rfl,k3⟩:=k2
   obtain⟨b,hb,hk⟩:=au k3
   clear k3
   obtain⟨cs,hx,g1,g2⟩:=id Vf
   obtain⟨cs',hy,g3,g4⟩:=id hvy
   refine .here hs hk (VR.raw rfl) ?_
   have hq:=yR (P:=P) (w:=w) 40 9960 hok g1 g3 Vf hvy (show zJ (.agg _ l) (.agg _ l')=some b from hb)
   rw[hx,hy]at hq
   have hgd:=λq=>run_eqGuard_agg (P:=P) w q t x y cs cs' hg
   cases neg with
   |false=>
    simp at hop
    subst hop
    simp only[execOp,ho,hx,hy,Sem.run_bind,hgd,Result.andThen_ok,run_eql_struct]
    rw[show(10000:Nat)=9960+40 from rfl,hq]
    simp
   |true=>
    simp at hop
    subst hop
    simp only[execOp,ho,hx,hy,Sem.run_bind,hgd,Result.andThen_ok,run_neq_struct]
    rw[show(10000:Nat)=9960+40 from rfl,hq]
    simp
  ·exact k2.elim
 ·exact k1.elim
theorem Xd{t:TypeId}{x:Operand}{lo hi:Option Operand}{x':X}{lo' hi':Option X}(ho:o.op= .slice t x lo hi none)(hu:P.underlying t=some .string)
  (h1:cX x=some x')(h2:Pc lo=some lo')(h3:Pc hi=some hi')(h:dX C env rows (.DZ x' lo' hi') k):bV P n o ρ T env rows a w k:=by
 obtain⟨d,he,k1⟩:=au h
 split at k1
 ·rename_i b
  obtain⟨l,hl,k2⟩:=au k1
  obtain⟨hh,Vc,k3⟩:=au k2
  obtain⟨b1,b2,b3,b4,hk⟩:=k3
  clear k1 k2
  have hx:=fh h1 he hs hG
  refine .here hs hk (VR.raw rfl) ?_
  have:=qb (P:=P) (isSlice:=false) (len:=b.size) (cap:=b.size) (mx:=none) (m:=none) (L:=(l.getD 0).toNat) (H:=(hh.getD b.size).toNat) (M:=b.size)
   (mX h2 hl hs hG) (mX h3 Vc hs hG) (.inl ⟨rfl,rfl⟩) (by simp) (by omega) (by omega) rfl (by omega) (by omega) (by omega) w
  simp[execOp,ho,hx,Instr.sliceAt,Instr.slice,run_underlying hu,this]
 ·exact k1.elim
theorem Lz{c:Call}{mx:Bool}{l':List X}(ho:o.op= .call c)(hc:c.callee= .builtin (bif mx then .max else .min))(h1:ZV c.args.toList=some l')(h:dX C env rows (.xg mx l') k):bV P n o ρ T env rows a w k:=by
 obtain⟨ds,he,k1⟩:=au h
 obtain⟨⟨kd,m⟩,hm,hk⟩:=au k1
 clear k1
 have bW:=tX hs hG h1 he
 unfold Bs at hm
 split at hm
 ·rename_i k0 i0 l
  split at hm
  ·rename_i m' hf
   cases hm
   refine .here hs hk (VR.raw rfl) ?_
   rw[iD ho hc]
   cases hv:c.args.toList.map a.eval with
   |nil=>rw[hv]at bW;have:=bW.len;simp at this
   |cons v vs=>
    rw[hv]at bW
    have e1:=VR.ofRaw bW.head
    subst e1
    have hr:=BF (P:=P) hf bW.tail
    cases mx with
    |true=>simp only[abR]at hr;simp[builtin,Builtin.max_,hv,hr]
    |false=>simp only[ade,abP]at hr;simp[builtin,Builtin.min_,hv,hr]
  ·cases hm
 ·cases hm
theorem op_b2s{s t e:TypeId}{x:Operand}{x':X}(ho:o.op= .convert s t x)(hsrc:P.underlying s=some (.slice e))(he':P.underlying e=some (.int .u8))(ht:P.underlying t=some .string)(h1:cX x=some x')
  (h:dX C env rows (.ZS x') k):bV P n o ρ T env rows a w k:=by
 obtain⟨d,he,k1⟩:=au h
 obtain⟨Sx,k2⟩:=k1
 obtain⟨l,hl,k3⟩:=au k2
 obtain⟨N,hN,hlen,k4⟩:=au k3
 obtain⟨bs,RY,hk⟩:=au k4
 clear k2 k3 k4
 have hv:=(bH h1 he hs hG).Bz (vt hl)
 obtain⟨ad,cap,cs,hH⟩:=hs.bF.holds hv hl hN hlen Sx
 obtain⟨ns,rfl,rfl,Zx⟩:=Lx RY hH.hcs
 refine .here hs hk (VR.raw rfl) ?_
 have hx:=hH.hv
 cases Zw:ad with
 |none=>
  have h0:=hH.nil Zw
  have hc0:=hH.hcap
  have:ns=[]:=aaF (by omega)
  subst this
  simp only[execOp,ho,hx,Zw,Sem.run_bind,run_convert_bytes_string w s t e _ _ _ hsrc he' ht]
  simp[Conv.bytesToString]
  rfl
 |some q=>
  have hf:=hH.first (P:=P) (w':=w) rfl N (aax _)
  rw[<-hH.HF,aa8,hx,Zw]at hf
  simp only[Builtin.firstCells,Sh.size,Nat.mul_one]at hf
  simp only[execOp,ho,hx,Zw,Sem.run_bind,run_convert_bytes_string w s t e _ _ _ hsrc he' ht,run_bytesToString w q N cap ns hf,Result.andThen_ok]
  rw[foldl_push]
  simp
theorem op_s2b{s t e:TypeId}{x:Operand}{x':X}(ho:o.op= .convert s t x)(hsrc:P.underlying s=some .string)(ht:P.underlying t=some (.slice e))(he':P.underlying e=some (.int .u8))(h1:cX x=some x')
  (h:dX C env rows (.s2b x') k):bV P n o ρ T env rows a w k:=by
 obtain⟨d,he,k1⟩:=au h
 split at k1
 ·rename_i b
  have hx:=fh h1 he hs hG
  have hb:(Lib.bytesWorld w e b).heap=w.heap.push (.cells (Lib.bytesCells w e b) e ((Lib.bytesCells w e b).size,(Lib.bytesCells w e b).size+1)):=by
   apply Array.ext_getElem?
   intro i
   rw[ac2]
   split
   ·rename_i h;rw[h];exact Lib.bytesWorld_at_new w e b
   ·rename_i h
    rcases adG i w.heap.size with h2|h2|h2
    ·exact Lib.bytesWorld_at_old w e b i h2
    ·exact absurd h2 h
    ·rw[acK (by rw[Lib.bytesWorld_size];omega),acK (by omega)]
  obtain⟨g1,g2⟩:=hs.grow (w':=Lib.bytesWorld w e b) _ hb rfl rfl rfl
  obtain⟨q1,q2⟩:=FF (ρ:=ρ) (w:=Lib.bytesWorld w e b) (T:=λq=>T q\/q=w.heap.size) b
  have hl:(ofBytes b).length=b.size:=by simp[ofBytes]
  refine qD (v:= .slice (some ⟨w.heap.size,0,none⟩) b.size (grownCap w b.size 0 e)) k1 g1 g2 ?_ (λ_=>⟨λb' HI=> .inl (Lib.bytesWorld_at_old w e b b' HI),λq hq=>hq.imp_right (λe=>by omega)⟩) ?_
  ·have:=LR.Pm (ρ:=ρ) (w:=Lib.bytesWorld w e b) (T:=λq=>T q\/q=w.heap.size) (b:=w.heap.size) (o:=0) (cap:=grownCap w b.size 0 e) (ex:=false) q1 (.inr rfl) q2 (λj x hx=>?_) (by rw[hl];exact grownCap_ge w b.size 0 e) (by simp)
   ·rw[hl]at this;exact VR.bE this
   ·have hj:=dj hx
    simp at hj
    rw[abk,Lib.bytesWorld_cell w e b j hj]
    simp only[abl]at hx
    rw[<-hx]
    simp[List.getD,hj]
  ·simp only[execOp,ho,hx,Sem.run_bind,Lib.run_convert_string_bytes w s t e b hsrc ht he',Result.andThen_ok]
   rfl
 ·exact k1.elim
theorem Pw{neg:Bool}{op:BinOp}{t u e:TypeId}{x y:Operand}{x' y':X}(ho:o.op= .binOp op t x y u)(hop:op=bif neg then .neq else .eql)(ht:P.underlying t=some (.pointer e))(h1:cX x=some x')(h2:cX y=some y')
  (h:dX C env rows (.Br neg x' y') k):bV P n o ρ T env rows a w k:=by
 obtain⟨dx,he,hk⟩:=au h
 obtain⟨dy,xq,hk⟩:=au hk
 have Vf:=bH h1 he hs hG
 split at hk
 ·have hy:=fh h2 xq hs hG
  have e0:Op.maxDepth=9999+1:=rfl
  have hsome:∀ad,(Op.equal t (.pointer (some ad)) (.pointer none)).run P w= .ok false w:=by
   intro ad
   rw[Op.equal,e0,Op.equalIn]
   simp only[Sem.run_bind,run_underlying ht,Result.andThen_ok,Sem.run_pure]
  have hnone:(Op.equal t (.pointer none) (.pointer none)).run P w= .ok true w:=by
   rw[Op.equal,e0,Op.equalIn]
   simp only[Sem.run_bind,run_underlying ht,Result.andThen_ok,Sem.run_pure]
   rfl
  have fin:∀ad,a.eval x= .pointer (some ad)->k (.raw (.bool neg)) rows->bV P n o ρ T env rows a w k:=by
   intro ad hx hk
   refine .here hs hk (VR.raw rfl) ?_
   cases neg<;>simp at hop<;>subst hop<;>simp only[execOp,ho,hx,hy,binOp]<;>simp[eqGuard,hsome]
  split at hk
  ·have hx:=fh h1 he hs hG
   refine .here hs hk (VR.raw rfl) ?_
   cases neg<;>simp at hop<;>subst hop<;>simp only[execOp,ho,hx,hy,binOp]<;>simp[eqGuard,hnone]
  ·have mW:LR ρ w T _ _:=Vf
   generalize hx:a.eval x=v at mW
   cases mW with
   |ptr=>exact fin _ hx hk
  ·have mW:LR ρ w T _ _:=Vf
   generalize hx:a.eval x=v at mW
   cases mW with
   |cb=>exact fin _ hx hk
  ·exact hk.elim
 ·exact hk.elim
theorem Vg{neg:Bool}{op:BinOp}{t u e:TypeId}{x y:Operand}{x' y':X}(ho:o.op= .binOp op t x y u)(hop:op=bif neg then .neq else .eql)(ht:P.underlying t=some (.slice e))(h1:cX x=some x')(h2:cX y=some y')
  (h:dX C env rows (.O9 neg x' y') k):bV P n o ρ T env rows a w k:=by
 obtain⟨dx,he,hk⟩:=au h
 obtain⟨dy,xq,hk⟩:=au hk
 have Vf:=bH h1 he hs hG
 split at hk
 ·have hy:=fh h2 xq hs hG
  have e0:Op.maxDepth=9999+1:=rfl
  have hsome:∀ad len cap,(Op.equal t (.slice (some ad) len cap) (.slice none 0 0)).run P w= .ok false w:=by
   intro ad len cap
   rw[Op.equal,e0,Op.equalIn]
   simp only[Sem.run_bind,run_underlying ht,Result.andThen_ok,Sem.run_pure]
  have hnone:∀len cap,(Op.equal t (.slice none len cap) (.slice none 0 0)).run P w= .ok true w:=by
   intro len cap
   rw[Op.equal,e0,Op.equalIn]
   simp only[Sem.run_bind,run_underlying ht,Result.andThen_ok,Sem.run_pure]
   rfl
  have fin1:∀ad len cap,a.eval x= .slice (some ad) len cap->k (.raw (.bool neg)) rows->bV P n o ρ T env rows a w k:=by
   intro ad len cap hx hk
   refine .here hs hk (VR.raw rfl) ?_
   cases neg<;>simp at hop<;>subst hop<;>simp only[execOp,ho,hx,hy,binOp]<;>simp[eqGuard,hsome]
  have fin0:∀len cap,a.eval x= .slice none len cap->k (.raw (.bool (!neg))) rows->bV P n o ρ T env rows a w k:=by
   intro len cap hx hk
   refine .here hs hk (VR.raw rfl) ?_
   cases neg<;>simp at hop<;>subst hop<;>simp only[execOp,ho,hx,hy,binOp]<;>simp[eqGuard,hnone]
  split at hk
  ·exact fin0 0 0 (fh h1 he hs hG) hk
  ·have mW:LR ρ w T _ _:=Vf
   generalize hx:a.eval x=v at mW
   cases mW with
   |qC _ _ ad cap=>
    cases ad with
    |none=>exact fin0 _ _ hx (hk.1 rfl)
    |some ad=>exact fin1 _ _ _ hx hk.2
   |dh=>exact fin1 _ _ _ hx hk.2
  ·have mW:LR ρ w T _ _:=Vf
   generalize hx:a.eval x=v at mW
   cases mW with
   |Bm _ _ _ _ _ ad=>
    cases ad with
    |none=>exact fin0 _ _ hx (hk.1 rfl)
    |some ad=>exact fin1 _ _ _ hx hk.2
   |sl=>exact fin1 _ _ _ hx hk.2
  ·exact hk.elim
 ·exact hk.elim
theorem op_mnz{c:Call}{f:FuncId}{fn:Func}{x:Operand}{x':X}{t e:TypeId}(ho:o.op= .call c)(hc:c.callee= .value (.func f))(hf:P.funcs[f]?=some fn)(hb:fn.body.isSome=false)
  (hn:yK fn.name=true)(hn2:fn.origin= "")(ha:c.args.toList=[x])(hr:fn.resultTypes.toList=[t])(ht:P.underlying t=some (.slice e))(hsh:sh P e=some (.leaf u5))(h1:cX x=some x')
  (h:dX C env rows (.mnz x') k):bV P n o ρ T env rows a w k:=by
 obtain⟨d,he,hk⟩:=au h
 split at hk
 ·rename_i kd m
  have hx:=fh h1 he hs hG
  obtain⟨rfl,b1,b2,hk⟩:=hk
  obtain⟨m0,rfl⟩:=aaH b1
  have Ku:m0<=most:=by have:=b2;omega
  obtain⟨cs,l,r1,r2,r3⟩:=run_mnz (P:=P) ht fn.params m0 Ku w
  have hl:m0<=l.length:=by
   have:cs.toList.length=l.length:=by rw[r3];simp
   simp at this;omega
  have hargs:c.args=#[x]:=by apply ace;simpa using ha
  have hres:fn.resultTypes=#[t]:=by apply ace;simpa using hr
  have Ps:=hk (l.take m0) (by simp;omega)
  have gR:∀d∈(l.take m0).map (λb=>D.raw (.int .u8 (b.toNat:Int))),aL L8 d:=λd hd=>by
   obtain⟨b,_,rfl⟩:=acL.1 hd
   exact .leaf _ _ rfl
  have qj:∀l:List (BitVec 8),ak (l.map λb=>D.raw (.int .u8 (b.toNat:Int)))=l.map λb=>D.raw (.int .u8 (b.toNat:Int)):=by
   intro l
   induction l with
   |nil=>rfl
   |cons b l ih=>simp[ak,D.flat,ih]
  have bW:∀l:List (BitVec 8),aW (LR ρ w T) (l.map λb=>D.raw (.int .u8 (b.toNat:Int))) (l.map λb=>Value.int .u8 (b.toNat:Int)):=by
   intro l
   induction l with
   |nil=>exact .nil
   |cons b l ih=>exact .cons (.raw _ rfl) ih
  obtain⟨q1,q2⟩:=(hs.heap (w':=w.drew.drew) rfl).push (w':=w.drew.drew.alloc (.cells cs e)) ⟨L8,(l.take m0).map λb=>D.raw (.int .u8 (b.toNat:Int))⟩ cs e rfl rfl rfl rfl gR (by rw[qj];simp;omega) (by
   rw[qj,r3]
   have e1:((l.take m0).map λb=>D.raw (.int .u8 (b.toNat:Int))).length=m0:=by simp;omega
   rw[e1,<-List.map_take]
   exact(bW (l.take m0)).mono λa b h=>h.mono (λ_ _ h=>h) (λ_ _=>rfl) (λ_ h=>h))
  refine qD (v:= .slice (some ⟨w.heap.size,0,none⟩) m0 cs.size) Ps q1 ⟨q2.pl,q2.tt,q2.vn,q2.size,q2.keep,q2.fresh,q2.os,q2.tape,q2.output,q2.len,q2.same⟩ ?_ (λ_=>⟨λb hb=> .inl (tW (w:=w.drew.drew) hb),λ_ h=> .inl h⟩) ?_
  ·have:=LR.sl (ρ:=u6 ρ rows.length ⟨w.heap.size,L8,cs.size,false⟩) (w:=w.drew.drew.alloc (.cells cs e)) (T:=T) L8 rows.length [] 0 m0 false ⟨w.heap.size,L8,cs.size,false⟩ cs.size (by simp[u6]) r2 (by simp) (.inl ⟨rfl,rfl,rfl,by simp[Sh.size]⟩)
   simpa[Loc.off]using VR.bE this
  ·have HI:fn.body.isNone=true:=by cases hq:fn.body<;>simp_all
   have hx':c.args.map a.eval=#[Value.int .i64 m0]:=by rw[hargs];simp[hx]
   have he:=find_mnz hn
   rw[hres]at he
   have:=run_callFunc_extern hf (BH hn hn2).2 HI (BH hn hn2).1 he #[.int .i64 m0] w
   rw[r1]at this
   simp[execOp,ho,resolve,hc,Act.eval,Deferred.ofValue,invoke]
   rw[hx',this]
   rfl
 ·exact hk.elim
theorem op_idxb{c:Call}{f:FuncId}{fn:Func}{x y:Operand}{x' y':X}(ho:o.op= .call c)(hc:c.callee= .value (.func f))(hf:P.funcs[f]?=some fn)(hb:fn.body.isSome=false)
  (hn:fn.name=By)(hn2:fn.origin= "")(ha:c.args.toList=[x,y])(h1:cX x=some x')(h2:cX y=some y')(h:dX C env rows (.Sk x' y') k):bV P n o ρ T env rows a w k:=by
 obtain⟨d,he,hk⟩:=au h
 split at hk
 ·rename_i b
  obtain⟨d2,xq,hk⟩:=au hk
  split at hk
  ·rename_i ch
   have hx:=fh h1 he hs hG
   have hy:=fh h2 xq hs hG
   have hargs:c.args=#[x,y]:=by apply ace;simpa using ha
   refine .here hs hk (VR.raw rfl) (v:= .int .i64 (WZ ch b)) ?_
   have:=run_idx hf hb hn hn2 b ch w
   have hx':c.args.map a.eval=#[.string b,.int .u8 ch]:=by rw[hargs];simp[hx,hy]
   simp[execOp,ho,resolve,hc,Act.eval,Deferred.ofValue,invoke]
   rw[hx',this]
  ·exact hk.elim
 ·exact hk.elim
theorem op_mkf{f:Nat}{first cap:Array Operand}{x:Operand}{x':X}(ho:o.op= .makeFunc (.func f) first cap)(hf:first.isEmpty=true)(hc:cap.toList=[x])(h1:cX x=some x')(h:dX C env rows (.mkf f x') k):bV P n o ρ T env rows a w k:=by
 obtain⟨d,he,hk⟩:=au h
 have hv:=bH h1 he hs hG
 split at hk
 ·rename_i s r p
  have mW:LR ρ w T (.ptr s r p) _:=hv
  generalize hx:a.eval x=v at mW
  have e1:first=#[]:=by simpa using hf
  have e2:cap=#[x]:=by apply ace;simpa using hc
  cases mW with
  |ptr _ _ _ L hL hp=>
   refine .here hs hk (VR.bE (.Fx f s r p L hL hp)) ?_
   simp[execOp,ho,e1,e2,hx,Instr.makeFunc]
 ·exact hk.elim
theorem op_s2a{t e:TypeId}{m:Nat}{x:Operand}{x':X}{s:Sh}(ho:o.op= .sliceToArrayPointer t x)(ht:P.underlying t=some (.array m e))(h1:cX x=some x')
  (h:dX C env rows (.s2a m s x') k):bV P n o ρ T env rows a w k:=by
 obtain⟨d,he,hk⟩:=au h
 have hv:=bH h1 he hs hG
 have hrun:∀ad len cap,m<=len->(Instr.arrayAt t (.slice ad len cap)).run P w= .ok (.pointer ad) w:=by
  intro ad len cap hlen
  simp[Instr.arrayAt,run_underlying ht,Nat.not_lt.2 hlen]
 split at hk
 ·rename_i t' r p off len ex
  obtain⟨rfl,hn,h0,hk⟩:=hk
  have mW:LR ρ w T (.sl t' r p off len ex) _:=hv
  generalize hx:a.eval x=v at mW
  cases mW with
  |Bm=>omega
  | sl _ _ _ _ _ _ L cap hL g1 g2 g3 =>
   refine .here hs hk (VR.bE (.nX m t' r p off L hL ?_)) (v:= .pointer (some ⟨L.b,L.off p+off*t'.size,none⟩)) ?_
   ·rcases g3 with⟨q1,q2,q3⟩|⟨q,q1,q2⟩
    ·exact .inl ⟨q1,q2,q3.1,aa3 (abB _ (by omega)) q3.2⟩
    ·exact .inr ⟨q,q1,by omega⟩
   ·simp[execOp,ho,hx,hrun _ _ _ hn]
 ·rename_i t' l ex
  obtain⟨rfl,hn,h0,hk⟩:=hk
  have mW:LR ρ w T (.dh t' l ex) _:=hv
  generalize hx:a.eval x=v at mW
  cases mW with
  |qC=>simp at hn;omega
  | dh _ _ _ b o' cap f c1 hb c2 c3 c4 c5 =>
   obtain⟨q1,q2⟩:=BB (d:=default) c2 c3
   have fK:ak (l.take m)=(ak l).take (ak (l.take m)).length:=by
    have:ak l=ak (l.take m)++ak (l.drop m):=by rw[<-ei,abj]
    rw[this,aaW]
   have gR:∀d∈l.take m,aL t' d:=λd hd=>c1 d (aaY hd)
   have hsh:aL (.ar m t') (.agg (.ar m t') (l.take m)):= .agg _ _ rfl (by simp[Sh.count];omega) (λi e d hi hd=>by
    simp only[Sh.sub]at hi
    split at hi
    ·cases hi;exact gR d (bQ hd)
    ·cases hi)
   have q3:=q1.take (ak (l.take m)).length
   rw[<-fK]at q3
   refine .here hs hk (VR.bE (LR.AE hsh hb (by simpa[D.flat]using q3) (q2.take _))) ?_
   simp[execOp,ho,hx,hrun _ _ _ hn]
 ·exact hk.elim
end ops
end Go.Am

/- 'TopShut' returns true for every input: a proof of the given card; its condition: the listed package variables hold what the program's text lays (tied by the card). -/
import Derived.Test.YtcmafnfakehjgaaGreatDoorKi13
import Derived.Test.YtcmafnfakehjgaaGreatDoorCards
import Derived.Test.YtcmafnfakehjgaaGreatDoorTie
import Derived.WalkKit
import Derived.ProofKit
import Derived.OpenShut
import Derived.Deep.DeepHandedRow
set_option linter.unusedSimpArgs false
set_option linter.unusedVariables false
set_option maxHeartbeats 4000000
namespace Go.Proofs.YtcmafnfakehjgaaGreatDoor.shut
open Go.Am Go.Am.kj Go.Am.F
open Go.ChangeShapes Go.WideShapes Go.ChangeAt Go.RowKit
def K:XE:= .cons (.arr 32 (.int .u8)) (.cons (.slice (.int .u8)) (.cons (.int .u8) (.cons (.int .u32) (.cons (.bool) .nil))))
noncomputable def Zr(g:Nat):TypeId:=(Tryz.prog.globals[g]?.map (·.type)).getD 0
noncomputable def Zs(g:Nat):TypeId:=match Tryz.prog.underlying (Zr g)with|some (.array _ e)=>e| _=>0
noncomputable def recF(g:Nat):Array Field:=match Tryz.prog.underlying (Zs g)with|some (.struct fs)=>fs| _=>#[]
theorem own:ownKnob Tryz.prog.godebug=none:=by kernel_rfl
theorem laid:laidOutB Tryz.prog=true:=by kernel_rfl
theorem law(dd:List D)(h:DNs K dd):aB CM 5 pg pf dd [] (λd _=>d= .raw (.bool true)):=by
 rcases dd with _|⟨d0,_|⟨d1,_|⟨d2,_|⟨d3,_|⟨d4,_|⟨d5,l⟩⟩⟩⟩⟩⟩
 ·exact h.elim
 ·exact h.2.elim
 ·exact h.2.2.elim
 ·exact h.2.2.2.elim
 ·exact h.2.2.2.2.elim
 ·obtain⟨h1,h2,h3,h4,h5,-⟩:=h
  unfold DN DK at h3 h4 h5
  obtain⟨aM,rfl,ri⟩:=dk_arr8 h1
  obtain⟨p,rfl,hp,-⟩:=dn_bs h2
  unfold maxLen at hp
  obtain⟨tk,rfl⟩:=h3
  obtain⟨x,rfl⟩:=h4
  obtain⟨w,rfl⟩:=h5
  exact shut_run CM shM aM ri (.inr ⟨false,rfl⟩) (by omega) tk x w
 ·exact h.2.2.2.2.2.elim
theorem globs{W:World}(hL:laidMetH Tryz.prog Rows.topShutRow.laid W)(g:Nat)(d:D)(h:CM.aZ g=some d):LR fB W (old W) (.cb d) (.pointer (some ⟨g,0,none⟩)):=by
 have M5:laidMet Tryz.prog Rows.topShutRow.laid W:=(show laidMetH Tryz.prog Rows.topShutRow.laid W=laidMet Tryz.prog Rows.topShutRow.laid W by kernel_rfl)▸hL
 by_cases h0:g=5
 ·subst h0
  have e:xG .u8 tzZ=d:=abd ((CM_tz:CM.aZ 5=some (xG .u8 tzZ)).symm.trans h)
  subst e
  exact Eo (P:=Tryz.prog) (t:=Zr 5) (e:=Zs 5) (n:=tzZ.length) (name:=(Rows.topShutRow.laid.getD 0 ("",.nil)).1) M5 (aaG (i:=0) rfl) (by kernel_rfl) (by kernel_rfl) (by kernel_rfl) (by kernel_rfl) (by kernel_rfl) (by kernel_rfl) (by decide)
 by_cases h2:g=3
 ·subst h2
  have e:xG .u32 Kq=d:=abd ((CM_first:CM.aZ 3=some (xG .u32 Kq)).symm.trans h)
  subst e
  exact Eo (P:=Tryz.prog) (t:=Zr 3) (e:=Zs 3) (n:=Kq.length) (name:=(Rows.topShutRow.laid.getD 2 ("",.nil)).1) M5 (aaG (i:=2) rfl) (by kernel_rfl) (by kernel_rfl) (by kernel_rfl) (by kernel_rfl) (by kernel_rfl) (by kernel_rfl) (by decide)
 by_cases h3:g=4
 ·subst h3
  have e:xG .u32 DV=d:=abd ((Zq:CM.aZ 4=some (xG .u32 DV)).symm.trans h)
  subst e
  exact Eo (P:=Tryz.prog) (t:=Zr 4) (e:=Zs 4) (n:=DV.length) (name:=(Rows.topShutRow.laid.getD 3 ("",.nil)).1) M5 (aaG (i:=3) rfl) (by kernel_rfl) (by kernel_rfl) (by kernel_rfl) (by kernel_rfl) (by kernel_rfl) (by kernel_rfl) (by decide)
 by_cases h4:g=0
 ·subst h4
  have e:D.agg (.ar vZ.length (sH [.i64,.i64,.i64])) (vZ.map (G7 [.i64,.i64,.i64]))=d:=abd ((CM_types:CM.aZ 0=some (D.agg (.ar vZ.length (sH [.i64,.i64,.i64])) (vZ.map (G7 [.i64,.i64,.i64])))).symm.trans h)
  subst e
  exact M0 (P:=Tryz.prog) (t:=Zr 0) (e:=Zs 0) (n:=vZ.length) (fs:=recF 0) (zs:=vZ) (ks:=[.i64,.i64,.i64]) (name:=(Rows.topShutRow.laid.getD 4 ("",.nil)).1) M5 (aaG (i:=4) rfl) ⟨by kernel_rfl,by kernel_rfl,by kernel_rfl,λr h=>match r,h with|0,_=>⟨by kernel_rfl,by kernel_rfl,by kernel_rfl⟩|1,_=>⟨by kernel_rfl,by kernel_rfl,by kernel_rfl⟩|2,_=>⟨by kernel_rfl,by kernel_rfl,by kernel_rfl⟩|n+3,h=>absurd h (Nat.not_lt.2 (Nat.le_add_left _ _)),by kernel_rfl,by kernel_rfl⟩ (by decide) (by kernel_rfl) (by kernel_rfl) (by decide)
 by_cases h5:g=2
 ·subst h5
  have e:D.agg (.ar v5.length (sH [.u32,.i64])) (v5.map (G7 [.u32,.i64]))=d:=abd ((CM_spans:CM.aZ 2=some (D.agg (.ar v5.length (sH [.u32,.i64])) (v5.map (G7 [.u32,.i64])))).symm.trans h)
  subst e
  exact M0 (P:=Tryz.prog) (t:=Zr 2) (e:=Zs 2) (n:=v5.length) (fs:=recF 2) (zs:=v5) (ks:=[.u32,.i64]) (name:=(Rows.topShutRow.laid.getD 5 ("",.nil)).1) M5 (aaG (i:=5) rfl) ⟨by kernel_rfl,by kernel_rfl,by kernel_rfl,λr h=>match r,h with|0,_=>⟨by kernel_rfl,by kernel_rfl,by kernel_rfl⟩|1,_=>⟨by kernel_rfl,by kernel_rfl,by kernel_rfl⟩|n+2,h=>absurd h (Nat.not_lt.2 (Nat.le_add_left _ _)),by kernel_rfl,by kernel_rfl⟩ (by decide) (by kernel_rfl) (by kernel_rfl) (by decide)
 ·exact absurd h (by rw[OY g h4 h2 h3 h0 h5];exact nofun)
def lay0:Obj->Obj
 | .cells _ t frozen=> .cells (tzZ.map λz=>Value.int .u8 z).toArray t frozen
 |o=>o
def lay1(b:Nat):Obj->Obj
 | .cells _ t frozen=> .cells #[.iface 439 (.pointer (some ⟨b,0,none⟩))] t frozen
 |o=>o
def lay2:Obj->Obj
 | .cells _ t frozen=> .cells (Kq.map λz=>Value.int .u32 z).toArray t frozen
 |o=>o
def lay3:Obj->Obj
 | .cells _ t frozen=> .cells (DV.map λz=>Value.int .u32 z).toArray t frozen
 |o=>o
def lay4:Obj->Obj
 | .cells _ t frozen=> .cells (gY [.i64,.i64,.i64] vZ).toArray t frozen
 |o=>o
def lay5:Obj->Obj
 | .cells _ t frozen=> .cells (gY [.u32,.i64] v5).toArray t frozen
 |o=>o
noncomputable def Fw(os:Os):World:={World.holding Tryz.prog os ⟨#[.cells #[.string ⟨#[98,121,116,101,115,46,66,117,102,102,101,114,58,32,116,111,111,32,108,97,114,103,101]⟩] 455 (0,0)],#[],[]⟩with heap:=(((((((World.holding Tryz.prog os ⟨#[.cells #[.string ⟨#[98,121,116,101,115,46,66,117,102,102,101,114,58,32,116,111,111,32,108,97,114,103,101]⟩] 455 (0,0)],#[],[]⟩).heap.modify 5 lay0).modify 6 (lay1 (World.settled Tryz.prog os).heap.size)).modify 3 lay2).modify 4 lay3).modify 0 lay4).modify 2 lay5)}
theorem laid_met(os:Os):laidMet Tryz.prog Rows.topShutRow.laid ((Fw os).forCall (λ_ _=>0) ⟨#[],#[.agg (Array.replicate 32 (Value.int .u8 0)),.slice none 0 0,.int .u8 0,.int .u32 0,.bool false],[]⟩).memory:=
 laidMet_of_run' 8 (by as_aux_lemma=>kernel_rfl) (by as_aux_lemma=>kernel_rfl)
theorem reads(os:Os){H:Type}(enc:TypeId×Value->H):∃places,DataW.whole enc Tryz.prog ((Fw os).forCall (λ_ _=>0) ⟨#[],#[.agg (Array.replicate 32 (Value.int .u8 0)),.slice none 0 0,.int .u8 0,.int .u32 0,.bool false],[]⟩).memory Tryz.f3.params.toList Rows.topShutSpec.vars false #[.agg (Array.replicate 32 (Value.int .u8 0)),.slice none 0 0,.int .u8 0,.int .u32 0,.bool false].toList 8=some ([.agg (List.replicate 32 (.lit (.int .u8 0))),.nil,.lit (.int .u8 0),.lit (.int .u32 0),.lit (.bool false)],[],places):=
 ⟨[],by as_aux_lemma=>kernel_rfl⟩
set_option maxRecDepth 100000 in
theorem lifted(os:Os)(started:os.Started)(H:Type)(enc:TypeId×Value->H)(F:Stop.Interp):
  ReturnsInHanded {} Tryz.checked os 3 .any ((OpenSpec.ofChange Rows.topShutSpec).preRow enc Tryz.prog Tryz.f3 Rows.topShutRow.domain false Rows.topShutRow.laid) (((OpenSpec.ofChange Rows.topShutSpec).at F).post enc Tryz.prog Tryz.f3 false true false false):=by
 obtain⟨places,hx⟩:=reads os enc
 refine returnsInHanded_of_row (C:=Tryz.checked) (s:=(OpenSpec.ofChange Rows.topShutSpec)) own started (by as_aux_lemma=>kernel_rfl) Tryz.func3
  (witness_row_at (enc:=enc) (C:=Tryz.checked) false (Fw os) #[.agg (Array.replicate 32 (Value.int .u8 0)),.slice none 0 0,.int .u8 0,.int .u32 0,.bool false] rfl (by as_aux_lemma=>kernel_rfl) (by as_aux_lemma=>kernel_rfl) (by as_aux_lemma=>kernel_rfl)
   (OpenSpec.preRow_of_cond 8 hx (by as_aux_lemma=>kernel_rfl) (λk hk=>by cases hk) (by as_aux_lemma=>kernel_rfl) (laid_met os))) ?_
 intro W base args ds gs before hval hW _ _ _ hL _ _
 exact row_law (KK CM ctxM) laid (n:=9) (ks:=K) (tb:=Tryz.f3.resultTypes.getD 0 0) (by as_aux_lemma=>kernel_rfl) (by as_aux_lemma=>kernel_rfl) rfl (by as_aux_lemma=>kernel_rfl) (by as_aux_lemma=>kernel_rfl) (λds h=>by match ds,h with|[_,_,_,_,_],_=>rfl) (λdd h _=>law dd h) hval hW (λg d h=>globs hL g d h)
theorem and_t{a b:Bool}(h1:a=true)(h2:b=true):(a&&b)=true:=by rw[h1,h2];rfl
theorem closed3:joinedFacts Tryz.pinned.checked.prog 3 Tryz.f3 (OpenSpec.ofChange Rows.topShutSpec).bare Rows.topShutRow=true:=by
 unfold joinedFacts
 iterate 31 refine and_t ?_ ?_
 all_goals as_aux_lemma=>kernel_rfl
theorem over:Rows.TopShutSaid:=
 OpenClaim.holds_of_cond 3 Tryz.f3 rfl rfl rfl rfl rfl rfl rfl ⟨rfl,rfl,rfl,rfl,rfl⟩ rfl rfl rfl rfl rfl (by as_aux_lemma=>kernel_rfl) Tryz.func3 closed3
  (acs (by as_aux_lemma=>kernel_rfl)) (by as_aux_lemma=>unfold Func.isWrapper;first|(rw[aaJ (by decide+kernel)];kernel_rfl)|(rw[aaC (by decide+kernel)];exact⟨rfl,rfl⟩))
  (λos started H enc _ F=>by rw[OpenClaim.pre_eq_preRow];exact lifted os started H enc F)
theorem plain(f:FuncId)(fn:Func)(hf:Tryz.pinned.checked.prog.funcNamed Rows.topShutRow.func=some f)(hfn:Tryz.pinned.checked.prog.funcs[f]?=some fn):
  false=Tryz.pinned.checked.prog.looks []/\∀(j:Nat) t,fn.params[j]?=some t->Tryz.pinned.checked.prog.wantsStandIn t=false:=by
 obtain rfl:f=3:=(abd ((show Tryz.prog.funcNamed Rows.topShutRow.func=some 3 by kernel_rfl).symm.trans hf)).symm
 obtain rfl:fn=Tryz.f3:=(abd (Tryz.func3.symm.trans hfn)).symm
 refine⟨by as_aux_lemma=>kernel_rfl,λj t ht=>?_⟩
 have bW:(Tryz.f3.params.toList.all λt=>!Tryz.prog.wantsStandIn t)=true:=by as_aux_lemma=>kernel_rfl
 have:=aa4.1 bW t (by simpa using Array.mem_of_getElem? ht)
 exact(by simpa using this:Tryz.prog.wantsStandIn t=false)
theorem proved:Rows.TopShutCardSaid:=
 Claim7.holds_tied_plain_at .later [] _ _ _ _ over (λ_ h=>by cases h) (by as_aux_lemma=>kernel_rfl) (λ_ h=>by cases h) topShut_row_tie rfl ⟨rfl,rfl⟩ (by as_aux_lemma=>kernel_rfl) rfl plain (by as_aux_lemma=>kernel_rfl)
end Go.Proofs.YtcmafnfakehjgaaGreatDoor.shut

import Derived.Test.YtgcejocgnfkciaaGreatDoorKc4
import Derived.Laws.StructEq
import Derived.ChangeKeysEq
import Derived.Laws.BytesString
import Derived.Lib.ConvBytes
import Derived.Laws.Externs
namespace Go.Am
set_option linter.unusedVariables false
set_option linter.unusedSimpArgs false
variable {C:be} {P:Program} {n:Nat} {ρ:Pl} {T:Nat→Prop} {env:Env} {rows:Rows} {a:Act} {w:World}
theorem rn(hs:dO n ρ T env rows a w)(hG:rj C ρ w T):∀{l:List Operand} {l':List X} {ds:List D},Vo l=some l'→KJ C env l'=some ds→aY (VR ρ w T) ds (l.map a.eval)
 |[],l',ds,h1,h2=>by
  simp[Vo]at h1;subst h1
  simp[KJ]at h2;subst h2
  exact .nil
 | x :: l, l', ds, h1, h2 => by
  simp only[Vo]at h1
  split at h1
  ·rename_i y hy
   split at h1
   ·rename_i r hr
    cases h1
    simp only[KJ]at h2
    split at h2
    ·rename_i d hd
     split at h2
     ·rename_i ds' hds
      cases h2
      exact .cons (bI hy hd hs hG) (rn hs hG hr hds)
     ·cases h2
    ·cases h2
   ·cases h1
  ·cases h1
theorem zd {mx : Bool} {kd : IntKind} : ∀ {l : List D} {x m : Int} {vs : List Value}, mF mx kd x l = some m → aY (VR ρ w T) l vs →
  (vs.foldlM (if mx then Builtin.max2 else Builtin.min2) (.int kd x)).run P w= .ok (.int kd m) w
 |[],x,m,vs,h,hv=>by
  have:vs=[]:=List.eq_nil_of_length_eq_zero hv.len.symm
  subst this
  simp[mF]at h
  subst h
  simp
 | d :: l, x, m, vs, h, hv => by
  cases vs with
  |nil=>have:=hv.len;simp at this
  | cons v vs =>
   cases d with
   | raw q =>
    cases q with
    | int k' y =>
     simp only[mF]at h
     cases hb:(kd==k')with
     |false=>rw[hb]at h;simp at h
     | true =>
      rw[hb]at h
      simp only[cond_true]at h
      have hk:kd=k':=by simpa using hb
      subst hk
      have hv0:=VR.ofRaw hv.head
      subst hv0
      have ih:=zd (vs:=vs) h hv.tail
      cases mx with
      | true =>
       simp only[if_true,cond_true]at ih h⊢
       have e:(if x<y then y else x)=max x y:=by
        rw[Int.max_def];split<;>split<;>omega
       simp[List.foldlM_cons,Builtin.max2,e,ih]
      | false =>
       simp only[Bool.false_eq_true,if_false,cond_false]at ih h⊢
       have e:(if y<x then y else x)=min x y:=by
        rw[Int.min_def];split<;>split<;>omega
       simp[List.foldlM_cons,Builtin.min2,e,ih]
    | _=>simp[mF]at h
   | _=>simp[mF]at h
theorem I8{d:D}{u:UInt8}(h:toByte d=some u):∃i,d= .raw (.int .u8 i)∧u=UInt8.ofNat i.toNat:=by
 unfold toByte at h
 split at h
 ·rename_i i;exact⟨i,rfl,by simpa using h.symm⟩
 ·cases h
theorem HM:∀{l:List D} {bs:List UInt8} {cs:List Value},cW toByte l=some bs→aY (LR ρ w T) (au l) cs→∃ns:List Int,cs=ns.map (Value.int .u8)∧bs=ns.map (fun i=>UInt8.ofNat i.toNat)∧l.length=ns.length
 |[],bs,cs,h,hc=>by
  simp[cW]at h;subst h
  have:cs=[]:=List.eq_nil_of_length_eq_zero (by simpa[au]using hc.len.symm)
  subst this
  exact⟨[],rfl,rfl,rfl⟩
 | d :: l, bs, cs, h, hc => by
  simp only[cW]at h
  split at h
  ·rename_i u hu
   split at h
   ·rename_i us hus
    cases h
    obtain⟨i,rfl,rfl⟩:=I8 hu
    simp only[au,D.flat,List.singleton_append]at hc
    cases cs with
    |nil=>have:=hc.len;simp at this
    |cons c cs=>
     have hv:=VR.ofRaw (VR.bG hc.head)
     obtain⟨ns,rfl,rfl,h3⟩:=HM hus hc.tail
     subst hv
     exact⟨i::ns,rfl,rfl,by simp[h3]⟩
   ·cases h
  ·cases h
theorem foldl_push(ns:List Int):∀(acc:ByteArray),ns.foldl (fun r i=>r.push (UInt8.ofNat i.toNat)) acc=⟨acc.data++(ns.map fun i=>UInt8.ofNat i.toNat).toArray⟩:=by
 induction ns with
 |nil=>intro acc;simp
 |cons i ns ih=>
  intro acc
  simp only[List.foldl_cons,ih]
  congr 1
  apply Array.ext'
  simp[ByteArray.push]
theorem lL{k:Sc}{x:D}(h:aK (.leaf k) x):∃v,x= .raw v∧mE v k=true:=by
 cases h with
 |leaf _ v hv=>exact⟨v,rfl,hv⟩
 |agg _ _ h _ _=>simp[Sh.isAgg]at h
theorem sQ{x y:D}{b:Bool}{vx vy:Value}{t:TypeId}{s:Sh}(h:sK x y=some b)(hx:LR ρ w T x vx)(hy:LR ρ w T y vy)(hsx:aK s x)
  (ht:(∃k,P.underlying t=some (.int k)∧s= .leaf (.int k))∨(P.underlying t=some .bool∧s= .leaf .bool)∨(P.underlying t=some .string∧s= .leaf .str))(d:Nat):
  (Op.equalIn (d+1) t vx vy).run P w= .ok b w:=by
 rcases ht with⟨k,ht,rfl⟩|⟨ht,rfl⟩|⟨ht,rfl⟩
 ·obtain⟨v,rfl,hv⟩:=lL hsx
  have e1:=VR.ofRaw (VR.bG hx)
  cases v with
  | int k1 i =>
   cases y with
   | raw q =>
    have e2:=VR.ofRaw (VR.bG hy)
    cases q with
    | int k2 j =>
     simp only[sK,gW]at h
     split at h
     ·rename_i hk
      subst hk
      cases h
      rw[e1,e2,run_equalIn_int w d t _ _ _ _ ht]
      rfl
     ·cases h
    | _=>simp[sK,gW]at h
   | _=>simp[sK,gW]at h
  | _=>simp[mE]at hv
 ·obtain⟨v,rfl,hv⟩:=lL hsx
  have e1:=VR.ofRaw (VR.bG hx)
  cases v with
  | bool i =>
   cases y with
   | raw q =>
    have e2:=VR.ofRaw (VR.bG hy)
    cases q with
    |bool j=>
     simp only[sK,gW]at h
     cases h
     rw[e1,e2,run_equalIn_bool' w d t _ _ ht]
    | _=>simp[sK,gW]at h
   | _=>simp[sK,gW]at h
  | _=>simp[mE]at hv
 ·obtain⟨v,rfl,hv⟩:=lL hsx
  have e1:=VR.ofRaw (VR.bG hx)
  cases v with
  | string i =>
   cases y with
   | raw q =>
    have e2:=VR.ofRaw (VR.bG hy)
    cases q with
    |string j=>
     simp only[sK,gW]at h
     cases h
     rw[e1,e2,run_equalIn_string w d t _ _ ht]
    | _=>simp[sK,gW]at h
   | _=>simp[sK,gW]at h
  | _=>simp[mE]at hv
theorem EL{s e:Sh}{l:List D}{cs:Array Value}{i:Nat}{d:D}{t:TypeId}(hsh:aK s (.agg s l))(hc:aY (LR ρ w T) (au l) cs.toList)(he:s.sub i=some e)(hd:l[i]?=some d)(ht:sh P t=some e)(hl:kj P t e=true):
  ∃v,(part t cs (s.ju i)).run P w= .ok v w∧VR ρ w T d v∧aK e d:=by
 obtain⟨_,ha⟩:=nM hsh
 obtain⟨d',je,qX,mH⟩:=hsh.part ha he
 rw[hd]at je
 cases je
 rw[fu hd]at hc
 have g3:=(hc.drop (au (List.take i l)).length).take d.flat.length
 rw[List.drop_left,List.take_left,mH]at g3
 have hlen:=g3.len
 exact⟨_,EE (w:=w) (o':=s.ju i) (ms:=(cs.toList.drop (s.ju i)).take d.flat.length) ht hl (by rw[←hlen,qX.len]) (oS qX g3) (by rw[←hlen]),VR.gf qX g3,qX⟩
theorem Li{l l':List D}{b:Bool}{i:Nat}(h:yV (l.drop i) (l'.drop i)=some b)(hi:i<l.length):∃x y t u,l[i]?=some x∧l'[i]?=some y∧sK x y=some t∧yV (l.drop (i+1)) (l'.drop (i+1))=some u∧b=(t&&u):=by
 rw[List.drop_eq_getElem_cons hi]at h
 cases hd:l'.drop i with
 |nil=>rw[hd]at h;simp[yV]at h
 | cons y r =>
  rw[hd]at h
  simp only[yV]at h
  split at h
  ·rename_i t ht
   split at h
   ·rename_i u hu
    have hy:l'[i]?=some y:=by
     have:=congrArg (fun q=>q[0]?) hd
     simpa using this
    have hr:l'.drop (i+1)=r:=by
     have:=congrArg List.tail hd
     simpa using this
    exact⟨l[i],y,t,u,List.getElem?_eq_getElem hi,hy,ht,by rw[hr];exact hu,by simpa using h.symm⟩
   ·cases h
  ·cases h
theorem wm:∀(n:Nat) {t:TypeId} {s:Sh} {x y:D} {vx vy:Value} {b:Bool} (d:Nat),A2 P n t s=true→aK s x→aK s y→VR ρ w T x vx→VR ρ w T y vy→sK x y=some b→
  (Op.equalIn (d+n) t vx vy).run P w= .ok b w
 |0,t,s,x,y,vx,vy,b,d,h,_,_,_,_,_=>by simp[A2]at h
 | n + 1, t, s, x, y, vx, vy, b, d, h, hx, hy, Qk, hvy, he => by
  simp only[A2]at h
  split at h
  ·rename_i fs hu
   simp only[Bool.and_eq_true,beq_iff_eq,Bool.not_eq_true']at h
   obtain⟨⟨⟨h1,h2⟩,h3⟩,h4⟩:=h
   obtain⟨l,rfl,hl,_⟩:=hx.iJ h2
   obtain⟨l',rfl,mh,_⟩:=hy.iJ h2
   obtain⟨cs,rfl,_,hcs⟩:=Qk
   obtain⟨cs',rfl,_,hcs'⟩:=hvy
   have hfo:P.fieldsOf t=fs:=by simp[Program.fieldsOf,hu]
   rw[show d+(n+1)=(d+n)+1 from rfl,run_equalIn_struct w (d+n) t cs cs' (by rw[hfo];exact hu) h1,hfo]
   simp only[sK]at he
   have key:∀(gs:List Field) (i:Nat) (b:Bool),i+gs.length=s.count→NJ P (A2 P n) s i gs=true→yV (l.drop i) (l'.drop i)=some b→(Op.eqFields (d+n) cs cs' gs).run P w= .ok b w:=by
    intro gs
    induction gs with
    |nil=>
     intro i b hi _ hb
     simp at hi
     rw[List.drop_of_length_le (by omega),List.drop_of_length_le (by omega)]at hb
     simp[yV]at hb
     subst hb
     simp[Op.eqFields]
    | cons f gs ih =>
     intro i b hi hf hb
     simp only[NJ,Bool.and_eq_true]at hf
     obtain⟨⟨⟨f1,f2⟩,f3⟩,f4⟩:=hf
     simp only[List.length_cons]at hi
     obtain⟨x0,y0,t0,u0,g1,g2,g3,g4,g5⟩:=Li hb (by omega)
     split at f3
     ·rename_i e fh
      simp only[Bool.and_eq_true,beq_iff_eq]at f3
      obtain⟨⟨f5,f6⟩,f7⟩:=f3
      obtain⟨va,r1,r2,r3⟩:=EL hx hcs fh g1 f5 f6
      obtain⟨vb,r4,r5,r6⟩:=EL hy hcs' fh g2 f5 f6
      have r7:=wm n d f7 r3 r6 r2 r5 g3
      have f1':f.name≠ "_" :=by simpa using f1
      have f2':f.offset=s.ju i:=by simpa using f2
      simp only[Op.eqFields]
      rw[if_pos f1']
      simp only[f2',Sem.run_bind,r1,r4,r7,Result.andThen_ok]
      cases t0 with
      |false=>simp[g5]
      |true=>simp[ih (i+1) u0 (by omega) f4 g4,g5]
     ·cases f3
   exact key fs.toList 0 b (by simpa using h3) h4 he
  ·rename_i m e hu
   split at h
   ·rename_i m' se
    simp only[Bool.and_eq_true,beq_iff_eq]at h
    obtain⟨⟨⟨rfl,h2⟩,h3⟩,h4⟩:=h
    obtain⟨l,rfl,hl,_⟩:=hx.iJ rfl
    obtain⟨l',rfl,mh,_⟩:=hy.iJ rfl
    obtain⟨cs,rfl,_,hcs⟩:=Qk
    obtain⟨cs',rfl,_,hcs'⟩:=hvy
    obtain⟨inf,hi,hsz⟩:=wj h2
    have hco:P.cellsOf e=se.size:=by simp[Program.cellsOf,hi,hsz]
    rw[show d+(n+1)=(d+n)+1 from rfl,run_equalIn_array w (d+n) cs cs' hu hi,hco]
    simp only[sK]at he
    simp[Sh.count]at hl mh
    have key:∀(k i:Nat) (b:Bool),i+k=m→yV (l.drop i) (l'.drop i)=some b→(Op.eqItems (d+n) e se.size cs cs' (List.range' i k)).run P w= .ok b w:=by
     intro k
     induction k with
     |zero=>
      intro i b hi hb
      rw[List.drop_of_length_le (by omega),List.drop_of_length_le (by omega)]at hb
      simp[yV]at hb
      subst hb
      simp[Op.eqItems]
     |succ k ih=>
      intro i b hi hb
      obtain⟨x0,y0,t0,u0,g1,g2,g3,g4,g5⟩:=Li hb (by omega)
      have fh:(Sh.ar m se).sub i=some se:=by simp[Sh.sub];omega
      obtain⟨va,r1,r2,r3⟩:=EL hx hcs fh g1 h2 h3
      obtain⟨vb,r4,r5,r6⟩:=EL hy hcs' fh g2 h2 h3
      have r7:=wm n d h4 r3 r6 r2 r5 g3
      have e1:(Sh.ar m se).ju i=i*se.size:=rfl
      rw[e1]at r1 r4
      rw[List.range'_succ]
      simp only[Op.eqItems,Sem.run_bind,r1,r4,r7,Result.andThen_ok]
      cases t0 with
      |false=>simp[g5]
      |true=>simp[ih (i+1) u0 (by omega) g4,g5]
    rw[List.range_eq_range']
    exact key m 0 b (by omega) he
   ·cases h
  ·rename_i k hu
   have hk:s= .leaf (.int k):=by simpa using h
   exact sQ he (Qk.y7 (hx.oO (by rw[hk];rfl))) (hvy.y7 (hy.oO (by rw[hk];rfl))) hx (.inl ⟨k,hu,hk⟩) (d+n)
  ·rename_i hu
   have hk:s= .leaf .bool:=by simpa using h
   exact sQ he (Qk.y7 (hx.oO (by rw[hk];rfl))) (hvy.y7 (hy.oO (by rw[hk];rfl))) hx (.inr (.inl ⟨hu,hk⟩)) (d+n)
  ·rename_i hu
   have hk:s= .leaf .str:=by simpa using h
   exact sQ he (Qk.y7 (hx.oO (by rw[hk];rfl))) (hvy.y7 (hy.oO (by rw[hk];rfl))) hx (.inr (.inr ⟨hu,hk⟩)) (d+n)
  ·cases h
theorem ze:∀(m t:Nat) (acc:Array Value),∃l:List (BitVec 8),(Extern.BytealgMakeNoZero.digits m t acc).toList=acc.toList++l.map (fun b=>Value.int .u8 (b.toNat:Int))∧l.length=m
 |0,_,acc=>⟨[],by simp[Extern.BytealgMakeNoZero.digits],rfl⟩
 |m+1,t,acc=>by
  obtain⟨l,h1,h2⟩:=ze m (t/256) (acc.push (.int .u8 (Int.ofNat (t %256))))
  refine⟨BitVec.ofNat 8 t::l,?_,by simp[h2]⟩
  rw[Extern.BytealgMakeNoZero.digits,h1]
  simp
theorem run_mnz{t e:TypeId}(ht:P.underlying t=some (.slice e))(ps:Array TypeId)(m:Nat)(hm:m≤most)(w:World):
  ∃(cs:Array Value) (l:List (BitVec 8)),(Extern.BytealgMakeNoZero.makeNoZero ps #[t] #[.int .i64 m]).run P w= .ok (.slice (some ⟨w.heap.size,0,none⟩) m cs.size) (w.drew.drew.alloc (.cells cs e))∧m≤cs.size∧cs.toList=l.map fun b=>Value.int .u8 (b.toNat:Int):=by
 have e0:∃(q:Question) (s1 s2:String),q.forced=false∧Extern.BytealgMakeNoZero.makeNoZero ps #[t] #[.int .i64 m]=(do
   let .slice el←underlying t|stuck s1
   if(m:Int)<0||(m:Int)>2^48 then runtimePanic (.error s2)
   let c←choose (.appendCap (m:Int).toNat 0 el)
   askRoom c
   let bytes←choose q
   let ad←newRow el (Extern.BytealgMakeNoZero.digits c bytes #[])
   pure (.slice (some ad) (m:Int).toNat c)):=by
  refine⟨_,_,_,?_,rfl⟩
  rfl
 obtain⟨q,s1,s2,hq,e0⟩:=e0
 obtain⟨l,h1,h2⟩:=ze (grownCap w m 0 e) (q.cut (w.tape (w.drawn+1) q)) #[]
 have hsz:(Extern.BytealgMakeNoZero.digits (grownCap w m 0 e) (q.cut (w.tape (w.drawn+1) q)) #[]).size=grownCap w m 0 e:=by
  rw[←Array.length_toList,h1];simpa using h2
 refine⟨_,l,?_,?_,by simpa using h1⟩
 ·have g1:¬(m:Int)<0:=by omega
  have g2:¬(281474976710656:Int)<(m:Int):=by rw[lK]at hm;omega
  rw[hsz,e0]
  have f1:∀a b c,(Question.appendCap a b c).forced=false:=fun _ _ _=>rfl
  simp[run_underlying ht,g1,g2,f1,hq,newRow,grownCap]
 ·rw[hsz]
  simpa using grownCap_ge w m 0 e
theorem VW{fn:Func}(h:wc fn.name=true):Extern.find fn=some (Extern.BytealgMakeNoZero.makeNoZero fn.params fn.resultTypes):=by
 obtain⟨⟩:=fn
 simp[wc,Extern.BytealgMakeNoZero.typedRows]at h
 subst h
 kernel_rfl
theorem zf{fn:Func}(h:wc fn.name=true)(h2:fn.origin= ""):Extern.findNext fn=none∧(fn.name== "runtime.NumGoroutine")=false:=by
 obtain⟨⟩:=fn
 simp[wc,Extern.BytealgMakeNoZero.typedRows]at h
 simp only at h2
 subst h
 subst h2
 exact⟨by kernel_rfl,by simp⟩
theorem run_idx{fn:Func}{f:FuncId}(hf:P.funcs[f]?=some fn)(hb:fn.body.isSome=false)(h:fn.name=y6)(h2:fn.origin= "")(b:ByteArray)(c:Int)(w:World):
  (callFunc f #[.string b,.int .u8 c]).run P w= .ok (.value (.int .i64 (RW c b))) w:=by
 have EG:fn.body.isNone=true:=by cases hq:fn.body<;>simp_all
 have e1:Extern.find fn=some Extern.BytealgIndexByte.indexByte:=by
  obtain⟨⟩:=fn;simp only at h h2;subst h;subst h2;kernel_rfl
 have e2:Extern.findNext fn=none∧(fn.name== "runtime.NumGoroutine")=false:=by
  obtain⟨⟩:=fn;simp only at h h2;subst h;subst h2;exact⟨by kernel_rfl,by simp[y6,Extern.BytealgIndexByte.rows]⟩
 have e3:Extern.BytealgIndexByte.indexByte #[.string b,.int .u8 c]=(match(List.range b.size).find? fun i=>b[i]! ==c.toNat.toUInt8 with
  |some i=>pure (goInt i)
  |none=>pure (goInt (-1))):=rfl
 rw[run_callFunc_extern hf e2.2 EG e2.1 e1,e3]
 unfold RW
 generalize (List.range b.size).find? _=o
 cases o<;>simp[goInt]
section ops
variable (hs:dO n ρ T env rows a w) (hG:rj C ρ w T) {o:Oper} {k:D→Rows→Prop}
include hs hG
theorem I9{neg:Bool}{op:BinOp}{t u:TypeId}{s:Sh}{x y:Operand}{x' y':X}(ho:o.op= .binOp op t x y u)(hop:op=bif neg then .neq else .eql)(hsh:sh P t=some s)(hok:A2 P 40 t s=true)(hg:P.eqGuardType P.depth t=false)
  (h1:cX x=some x')(h2:cX y=some y')(h:df C env rows (.ZT s neg x' y') k):bU P n o ρ T env rows a w k:=by
 obtain⟨d,he,k1⟩:=ah h
 have Qk:=bI h1 he hs hG
 split at k1
 ·rename_i s1 l
  obtain⟨d2,uR,k2⟩:=ah k1
  clear k1
  have hvy:=bI h2 uR hs hG
  split at k2
  ·rename_i s2 l'
   obtain⟨rfl,rfl,k3⟩:=k2
   obtain⟨b,hb,hk⟩:=ah k3
   clear k3
   obtain⟨cs,hx,g1,g2⟩:=id Qk
   obtain⟨cs',hy,g3,g4⟩:=id hvy
   refine .here hs hk (VR.raw rfl) ?_
   have hq:=wm (P:=P) (w:=w) 40 9960 hok g1 g3 Qk hvy (show sK (.agg _ l) (.agg _ l')=some b from hb)
   rw[hx,hy]at hq
   have hgd:=fun q=>run_eqGuard_agg (P:=P) w q t x y cs cs' hg
   cases neg with
   |false=>
    simp at hop
    subst hop
    simp only[execOp,ho,hx,hy,Sem.run_bind,hgd,Result.andThen_ok,run_eql_struct]
    rw[show(10000:Nat)=9960+40 from rfl,hq]
    simp
   |true=>
    simp at hop
    subst hop
    simp only[execOp,ho,hx,hy,Sem.run_bind,hgd,Result.andThen_ok,run_neq_struct]
    rw[show(10000:Nat)=9960+40 from rfl,hq]
    simp
  ·exact k2.elim
 ·exact k1.elim
theorem Sn{t:TypeId}{x:Operand}{lo hi:Option Operand}{x':X}{lo' hi':Option X}(ho:o.op= .slice t x lo hi none)(hu:P.underlying t=some .string)
  (h1:cX x=some x')(h2:KY lo=some lo')(h3:KY hi=some hi')(h:df C env rows (.xS x' lo' hi') k):bU P n o ρ T env rows a w k:=by
 obtain⟨d,he,k1⟩:=ah h
 split at k1
 ·rename_i b
  obtain⟨l,hl,k2⟩:=ah k1
  obtain⟨hh,UW,k3⟩:=ah k2
  obtain⟨b1,b2,b3,b4,hk⟩:=k3
  clear k1 k2
  have hx:=eh h1 he hs hG
  refine .here hs hk (VR.raw rfl) ?_
  have:=nP (P:=P) (isSlice:=false) (len:=b.size) (cap:=b.size) (mx:=none) (m:=none) (L:=(l.getD 0).toNat) (H:=(hh.getD b.size).toNat) (M:=b.size)
   (kY h2 hl hs hG) (kY h3 UW hs hG) (.inl ⟨rfl,rfl⟩) (by simp) (by omega) (by omega) rfl (by omega) (by omega) (by omega) w
  simp[execOp,ho,hx,Instr.sliceAt,Instr.slice,run_underlying hu,this]
 ·exact k1.elim
theorem HN{c:Call}{mx:Bool}{l':List X}(ho:o.op= .call c)(hc:c.callee= .builtin (bif mx then .max else .min))(h1:Vo c.args.toList=some l')(h:df C env rows (.uK mx l') k):bU P n o ρ T env rows a w k:=by
 obtain⟨ds,he,k1⟩:=ah h
 obtain⟨⟨kd,m⟩,hm,hk⟩:=ah k1
 clear k1
 have bY:=rn hs hG h1 he
 unfold yW at hm
 split at hm
 ·rename_i k0 i0 l
  split at hm
  ·rename_i m' hf
   cases hm
   refine .here hs hk (VR.raw rfl) ?_
   rw[gB ho hc]
   cases hv:c.args.toList.map a.eval with
   |nil=>rw[hv]at bY;have:=bY.len;simp at this
   |cons v vs=>
    rw[hv]at bY
    have e1:=VR.ofRaw bY.head
    subst e1
    have hr:=zd (P:=P) hf bY.tail
    cases mx with
    |true=>simp only[if_true]at hr;simp[builtin,Builtin.max_,hv,hr]
    |false=>simp only[Bool.false_eq_true,if_false]at hr;simp[builtin,Builtin.min_,hv,hr]
  ·cases hm
 ·cases hm
theorem op_b2s{s t e:TypeId}{x:Operand}{x':X}(ho:o.op= .convert s t x)(hsrc:P.underlying s=some (.slice e))(he':P.underlying e=some (.int .u8))(ht:P.underlying t=some .string)(h1:cX x=some x')
  (h:df C env rows (.Vi x') k):bU P n o ρ T env rows a w k:=by
 obtain⟨d,he,k1⟩:=ah h
 obtain⟨Lb,k2⟩:=k1
 obtain⟨l,hl,k3⟩:=ah k2
 obtain⟨N,hN,hlen,k4⟩:=ah k3
 obtain⟨bs,Nw,hk⟩:=ah k4
 clear k2 k3 k4
 have hv:=(bI h1 he hs hG).y7 (sP hl)
 obtain⟨ad,cap,cs,hH⟩:=hs.bD.holds hv hl hN hlen Lb
 obtain⟨ns,rfl,rfl,NT⟩:=HM Nw hH.hcs
 refine .here hs hk (VR.raw rfl) ?_
 have hx:=hH.hv
 cases UT:ad with
 |none=>
  have h0:=hH.nil UT
  have hc0:=hH.hcap
  have:ns=[]:=List.eq_nil_of_length_eq_zero (by omega)
  subst this
  simp only[execOp,ho,hx,UT,Sem.run_bind,run_convert_bytes_string w s t e _ _ _ hsrc he' ht]
  simp[Conv.bytesToString]
  rfl
 |some q=>
  have hf:=hH.first (P:=P) (w':=w) rfl N (Nat.le_refl _)
  rw[←hH.ED,List.take_length,hx,UT]at hf
  simp only[Builtin.firstCells,Sh.size,Nat.mul_one]at hf
  simp only[execOp,ho,hx,UT,Sem.run_bind,run_convert_bytes_string w s t e _ _ _ hsrc he' ht,run_bytesToString w q N cap ns hf,Result.andThen_ok]
  rw[foldl_push]
  simp
theorem op_s2b{s t e:TypeId}{x:Operand}{x':X}(ho:o.op= .convert s t x)(hsrc:P.underlying s=some .string)(ht:P.underlying t=some (.slice e))(he':P.underlying e=some (.int .u8))(h1:cX x=some x')
  (h:df C env rows (.s2b x') k):bU P n o ρ T env rows a w k:=by
 obtain⟨d,he,k1⟩:=ah h
 split at k1
 ·rename_i b
  have hx:=eh h1 he hs hG
  have hb:(Lib.bytesWorld w e b).heap=w.heap.push (.cells (Lib.bytesCells w e b) e ((Lib.bytesCells w e b).size,(Lib.bytesCells w e b).size+1)):=by
   apply Array.ext_getElem?
   intro i
   rw[Array.getElem?_push]
   split
   ·rename_i h;rw[h];exact Lib.bytesWorld_at_new w e b
   ·rename_i h
    rcases Nat.lt_trichotomy i w.heap.size with h2|h2|h2
    ·exact Lib.bytesWorld_at_old w e b i h2
    ·exact absurd h2 h
    ·rw[Array.getElem?_eq_none (by rw[Lib.bytesWorld_size];omega),Array.getElem?_eq_none (by omega)]
  obtain⟨g1,g2⟩:=hs.grow (w':=Lib.bytesWorld w e b) _ hb rfl rfl rfl
  obtain⟨q1,q2⟩:=Cg (ρ:=ρ) (w:=Lib.bytesWorld w e b) (T:=fun q=>T q∨q=w.heap.size) b
  have hl:(ofBytes b).length=b.size:=by simp[ofBytes]
  refine ow (v:= .slice (some ⟨w.heap.size,0,none⟩) b.size (grownCap w b.size 0 e)) k1 g1 g2 ?_ (fun _=>⟨fun b' EG=> .inl (Lib.bytesWorld_at_old w e b b' EG),fun q hq=>hq.imp_right (fun e=>by omega)⟩) ?_
  ·have:=LR.K7 (ρ:=ρ) (w:=Lib.bytesWorld w e b) (T:=fun q=>T q∨q=w.heap.size) (b:=w.heap.size) (o:=0) (cap:=grownCap w b.size 0 e) (ex:=false) q1 (.inr rfl) q2 (fun j x hx=>?_) (by rw[hl];exact grownCap_ge w b.size 0 e) (by simp)
   ·rw[hl]at this;exact VR.bG this
   ·have hj:=cN hx
    simp at hj
    rw[Nat.zero_add,Lib.bytesWorld_cell w e b j hj]
    simp only[List.getElem?_map]at hx
    rw[←hx]
    simp[List.getD,hj]
  ·simp only[execOp,ho,hx,Sem.run_bind,Lib.run_convert_string_bytes w s t e b hsrc ht he',Result.andThen_ok]
   rfl
 ·exact k1.elim
theorem Lj{neg:Bool}{op:BinOp}{t u e:TypeId}{x y:Operand}{x' y':X}(ho:o.op= .binOp op t x y u)(hop:op=bif neg then .neq else .eql)(ht:P.underlying t=some (.pointer e))(h1:cX x=some x')(h2:cX y=some y')
  (h:df C env rows (.yU neg x' y') k):bU P n o ρ T env rows a w k:=by
 obtain⟨dx,he,hk⟩:=ah h
 obtain⟨dy,uR,hk⟩:=ah hk
 have Qk:=bI h1 he hs hG
 split at hk
 ·have hy:=eh h2 uR hs hG
  have e0:Op.maxDepth=9999+1:=rfl
  have hsome:∀ad,(Op.equal t (.pointer (some ad)) (.pointer none)).run P w= .ok false w:=by
   intro ad
   rw[Op.equal,e0,Op.equalIn]
   simp only[Sem.run_bind,run_underlying ht,Result.andThen_ok,Sem.run_pure]
  have hnone:(Op.equal t (.pointer none) (.pointer none)).run P w= .ok true w:=by
   rw[Op.equal,e0,Op.equalIn]
   simp only[Sem.run_bind,run_underlying ht,Result.andThen_ok,Sem.run_pure]
   rfl
  have fin:∀ad,a.eval x= .pointer (some ad)→k (.raw (.bool neg)) rows→bU P n o ρ T env rows a w k:=by
   intro ad hx hk
   refine .here hs hk (VR.raw rfl) ?_
   cases neg<;>simp at hop<;>subst hop<;>simp only[execOp,ho,hx,hy,binOp]<;>simp[eqGuard,hsome]
  split at hk
  ·have hx:=eh h1 he hs hG
   refine .here hs hk (VR.raw rfl) ?_
   cases neg<;>simp at hop<;>subst hop<;>simp only[execOp,ho,hx,hy,binOp]<;>simp[eqGuard,hnone]
  ·have kU:LR ρ w T _ _:=Qk
   generalize hx:a.eval x=v at kU
   cases kU with
   |ptr=>exact fin _ hx hk
  ·have kU:LR ρ w T _ _:=Qk
   generalize hx:a.eval x=v at kU
   cases kU with
   |b5=>exact fin _ hx hk
  ·exact hk.elim
 ·exact hk.elim
theorem Ql{neg:Bool}{op:BinOp}{t u e:TypeId}{x y:Operand}{x' y':X}(ho:o.op= .binOp op t x y u)(hop:op=bif neg then .neq else .eql)(ht:P.underlying t=some (.slice e))(h1:cX x=some x')(h2:cX y=some y')
  (h:df C env rows (.KU neg x' y') k):bU P n o ρ T env rows a w k:=by
 obtain⟨dx,he,hk⟩:=ah h
 obtain⟨dy,uR,hk⟩:=ah hk
 have Qk:=bI h1 he hs hG
 split at hk
 ·have hy:=eh h2 uR hs hG
  have e0:Op.maxDepth=9999+1:=rfl
  have hsome:∀ad len cap,(Op.equal t (.slice (some ad) len cap) (.slice none 0 0)).run P w= .ok false w:=by
   intro ad len cap
   rw[Op.equal,e0,Op.equalIn]
   simp only[Sem.run_bind,run_underlying ht,Result.andThen_ok,Sem.run_pure]
  have hnone:∀len cap,(Op.equal t (.slice none len cap) (.slice none 0 0)).run P w= .ok true w:=by
   intro len cap
   rw[Op.equal,e0,Op.equalIn]
   simp only[Sem.run_bind,run_underlying ht,Result.andThen_ok,Sem.run_pure]
   rfl
  have fin1:∀ad len cap,a.eval x= .slice (some ad) len cap→k (.raw (.bool neg)) rows→bU P n o ρ T env rows a w k:=by
   intro ad len cap hx hk
   refine .here hs hk (VR.raw rfl) ?_
   cases neg<;>simp at hop<;>subst hop<;>simp only[execOp,ho,hx,hy,binOp]<;>simp[eqGuard,hsome]
  have fin0:∀len cap,a.eval x= .slice none len cap→k (.raw (.bool (!neg))) rows→bU P n o ρ T env rows a w k:=by
   intro len cap hx hk
   refine .here hs hk (VR.raw rfl) ?_
   cases neg<;>simp at hop<;>subst hop<;>simp only[execOp,ho,hx,hy,binOp]<;>simp[eqGuard,hnone]
  split at hk
  ·exact fin0 0 0 (eh h1 he hs hG) hk
  ·have kU:LR ρ w T _ _:=Qk
   generalize hx:a.eval x=v at kU
   cases kU with
   |ou _ _ ad cap=>
    cases ad with
    |none=>exact fin0 _ _ hx (hk.1 rfl)
    |some ad=>exact fin1 _ _ _ hx hk.2
   |cF=>exact fin1 _ _ _ hx hk.2
  ·have kU:LR ρ w T _ _:=Qk
   generalize hx:a.eval x=v at kU
   cases kU with
   |yP _ _ _ _ _ ad=>
    cases ad with
    |none=>exact fin0 _ _ hx (hk.1 rfl)
    |some ad=>exact fin1 _ _ _ hx hk.2
   |sl=>exact fin1 _ _ _ hx hk.2
  ·exact hk.elim
 ·exact hk.elim
theorem op_mnz{c:Call}{f:FuncId}{fn:Func}{x:Operand}{x':X}{t e:TypeId}(ho:o.op= .call c)(hc:c.callee= .value (.func f))(hf:P.funcs[f]?=some fn)(hb:fn.body.isSome=false)
  (hn:wc fn.name=true)(hn2:fn.origin= "")(ha:c.args.toList=[x])(hr:fn.resultTypes.toList=[t])(ht:P.underlying t=some (.slice e))(hsh:sh P e=some (.leaf uE))(h1:cX x=some x')
  (h:df C env rows (.mnz x') k):bU P n o ρ T env rows a w k:=by
 obtain⟨d,he,hk⟩:=ah h
 split at hk
 ·rename_i kd m
  have hx:=eh h1 he hs hG
  obtain⟨rfl,b1,b2,hk⟩:=hk
  obtain⟨m0,rfl⟩:=Int.eq_ofNat_of_zero_le b1
  have I3:m0≤most:=by have:=b2;omega
  obtain⟨cs,l,r1,r2,r3⟩:=run_mnz (P:=P) ht fn.params m0 I3 w
  have hl:m0≤l.length:=by
   have:cs.toList.length=l.length:=by rw[r3];simp
   simp at this;omega
  have hargs:c.args=#[x]:=by apply Array.ext';simpa using ha
  have hres:fn.resultTypes=#[t]:=by apply Array.ext';simpa using hr
  have Lf:=hk (l.take m0) (by simp;omega)
  have fV:∀d∈(l.take m0).map (fun b=>D.raw (.int .u8 (b.toNat:Int))),aK L8 d:=fun d hd=>by
   obtain⟨b,_,rfl⟩:=List.mem_map.1 hd
   exact .leaf _ _ rfl
  have lz:∀l:List (BitVec 8),au (l.map fun b=>D.raw (.int .u8 (b.toNat:Int)))=l.map fun b=>D.raw (.int .u8 (b.toNat:Int)):=by
   intro l
   induction l with
   |nil=>rfl
   |cons b l ih=>simp[au,D.flat,ih]
  have bY:∀l:List (BitVec 8),aY (LR ρ w T) (l.map fun b=>D.raw (.int .u8 (b.toNat:Int))) (l.map fun b=>Value.int .u8 (b.toNat:Int)):=by
   intro l
   induction l with
   |nil=>exact .nil
   |cons b l ih=>exact .cons (.raw _ rfl) ih
  obtain⟨q1,q2⟩:=(hs.heap (w':=w.drew.drew) rfl).push (w':=w.drew.drew.alloc (.cells cs e)) ⟨L8,(l.take m0).map fun b=>D.raw (.int .u8 (b.toNat:Int))⟩ cs e rfl rfl rfl rfl fV (by rw[lz];simp;omega) (by
   rw[lz,r3]
   have e1:((l.take m0).map fun b=>D.raw (.int .u8 (b.toNat:Int))).length=m0:=by simp;omega
   rw[e1,←List.map_take]
   exact(bY (l.take m0)).mono fun a b h=>h.mono (fun _ _ h=>h) (fun _ _=>rfl) (fun _ h=>h))
  refine ow (v:= .slice (some ⟨w.heap.size,0,none⟩) m0 cs.size) Lf q1 ⟨q2.pl,q2.tt,q2.um,q2.size,q2.keep,q2.fresh,q2.os,q2.tape,q2.output,q2.len,q2.same⟩ ?_ (fun _=>⟨fun b hb=> .inl (rk (w:=w.drew.drew) hb),fun _ h=> .inl h⟩) ?_
  ·have:=LR.sl (ρ:=sE ρ rows.length ⟨w.heap.size,L8,cs.size,false⟩) (w:=w.drew.drew.alloc (.cells cs e)) (T:=T) L8 rows.length [] 0 m0 false ⟨w.heap.size,L8,cs.size,false⟩ cs.size (by simp[sE]) r2 (by simp) (.inl ⟨rfl,rfl,rfl,by simp[Sh.size]⟩)
   simpa[Loc.off]using VR.bG this
  ·have EG:fn.body.isNone=true:=by cases hq:fn.body<;>simp_all
   have hx':c.args.map a.eval=#[Value.int .i64 m0]:=by rw[hargs];simp[hx]
   have he:=VW hn
   rw[hres]at he
   have:=run_callFunc_extern hf (zf hn hn2).2 EG (zf hn hn2).1 he #[.int .i64 m0] w
   rw[r1]at this
   simp[execOp,ho,resolve,hc,Act.eval,Deferred.ofValue,invoke]
   rw[hx',this]
   rfl
 ·exact hk.elim
theorem op_idxb{c:Call}{f:FuncId}{fn:Func}{x y:Operand}{x' y':X}(ho:o.op= .call c)(hc:c.callee= .value (.func f))(hf:P.funcs[f]?=some fn)(hb:fn.body.isSome=false)
  (hn:fn.name=y6)(hn2:fn.origin= "")(ha:c.args.toList=[x,y])(h1:cX x=some x')(h2:cX y=some y')(h:df C env rows (.NH x' y') k):bU P n o ρ T env rows a w k:=by
 obtain⟨d,he,hk⟩:=ah h
 split at hk
 ·rename_i b
  obtain⟨d2,uR,hk⟩:=ah hk
  split at hk
  ·rename_i ch
   have hx:=eh h1 he hs hG
   have hy:=eh h2 uR hs hG
   have hargs:c.args=#[x,y]:=by apply Array.ext';simpa using ha
   refine .here hs hk (VR.raw rfl) (v:= .int .i64 (RW ch b)) ?_
   have:=run_idx hf hb hn hn2 b ch w
   have hx':c.args.map a.eval=#[.string b,.int .u8 ch]:=by rw[hargs];simp[hx,hy]
   simp[execOp,ho,resolve,hc,Act.eval,Deferred.ofValue,invoke]
   rw[hx',this]
  ·exact hk.elim
 ·exact hk.elim
theorem op_mkf{f:Nat}{first cap:Array Operand}{x:Operand}{x':X}(ho:o.op= .makeFunc (.func f) first cap)(hf:first.isEmpty=true)(hc:cap.toList=[x])(h1:cX x=some x')(h:df C env rows (.mkf f x') k):bU P n o ρ T env rows a w k:=by
 obtain⟨d,he,hk⟩:=ah h
 have hv:=bI h1 he hs hG
 split at hk
 ·rename_i s r p
  have kU:LR ρ w T (.ptr s r p) _:=hv
  generalize hx:a.eval x=v at kU
  have e1:first=#[]:=by simpa using hf
  have e2:cap=#[x]:=by apply Array.ext';simpa using hc
  cases kU with
  |ptr _ _ _ L hL hp=>
   refine .here hs hk (VR.bG (.A0 f s r p L hL hp)) ?_
   simp[execOp,ho,e1,e2,hx,Instr.makeFunc]
 ·exact hk.elim
theorem op_s2a{t e:TypeId}{m:Nat}{x:Operand}{x':X}{s:Sh}(ho:o.op= .sliceToArrayPointer t x)(ht:P.underlying t=some (.array m e))(h1:cX x=some x')
  (h:df C env rows (.s2a m s x') k):bU P n o ρ T env rows a w k:=by
 obtain⟨d,he,hk⟩:=ah h
 have hv:=bI h1 he hs hG
 have hrun:∀ad len cap,m≤len→(Instr.arrayAt t (.slice ad len cap)).run P w= .ok (.pointer ad) w:=by
  intro ad len cap hlen
  simp[Instr.arrayAt,run_underlying ht,Nat.not_lt.2 hlen]
 split at hk
 ·rename_i t' r p off len ex
  obtain⟨rfl,hn,h0,hk⟩:=hk
  have kU:LR ρ w T (.sl t' r p off len ex) _:=hv
  generalize hx:a.eval x=v at kU
  cases kU with
  |yP=>omega
  | sl _ _ _ _ _ _ L cap hL g1 g2 g3 =>
   refine .here hs hk (VR.bG (.lF m t' r p off L hL ?_)) (v:= .pointer (some ⟨L.b,L.off p+off*t'.size,none⟩)) ?_
   ·rcases g3 with⟨q1,q2,q3⟩|⟨q,q1,q2⟩
    ·exact .inl ⟨q1,q2,q3.1,Nat.le_trans (Nat.mul_le_mul_right _ (by omega)) q3.2⟩
    ·exact .inr ⟨q,q1,by omega⟩
   ·simp[execOp,ho,hx,hrun _ _ _ hn]
 ·rename_i t' l ex
  obtain⟨rfl,hn,h0,hk⟩:=hk
  have kU:LR ρ w T (.cF t' l ex) _:=hv
  generalize hx:a.eval x=v at kU
  cases kU with
  |ou=>simp at hn;omega
  | cF _ _ _ b o' cap f c1 hb c2 c3 c4 c5 =>
   obtain⟨q1,q2⟩:=y9 (d:=default) c2 c3
   have fh:au (l.take m)=(au l).take (au (l.take m)).length:=by
    have:au l=au (l.take m)++au (l.drop m):=by rw[←du,List.take_append_drop]
    rw[this,List.take_left]
   have fV:∀d∈l.take m,aK t' d:=fun d hd=>c1 d (List.mem_of_mem_take hd)
   have hsh:aK (.ar m t') (.agg (.ar m t') (l.take m)):= .agg _ _ rfl (by simp[Sh.count];omega) (fun i e d hi hd=>by
    simp only[Sh.sub]at hi
    split at hi
    ·cases hi;exact fV d (bN hd)
    ·cases hi)
   have q3:=q1.take (au (l.take m)).length
   rw[←fh]at q3
   refine .here hs hk (VR.bG (LR.xW hsh hb (by simpa[D.flat]using q3) (q2.take _))) ?_
   simp[execOp,ho,hx,hrun _ _ _ hn]
 ·exact hk.elim
end ops
end Go.Am
namespace Go.Am
set_option linter.unusedVariables false
set_option linter.unusedSimpArgs false
variable {C:be} {P:Program} {n:Nat} {ρ:Pl} {T:Nat→Prop} {env:Env} {rows:Rows} {a:Act} {w:World}
def eT:Pl:=fun _=>none
theorem oE{s:Sh}{d:D}(h:aK s d)(hp:s.pure=true):∀x∈d.flat,∃v,x= .raw v:=by
 induction h with
 |leaf k v hv=>intro x hx;simp[D.flat]at hx;exact⟨v,hx⟩
 |ref d hd=>simp[Sh.pure]at hp
 | agg s l ha hl fh ih =>
  intro x hx
  simp only[D.flat]at hx
  have key:∀(s:Sh) (l:List D),s.isAgg=true→s.pure=true→l.length=s.count→(∀i e d,s.sub i=some e→l[i]?=some d→e.pure=true→∀x∈d.flat,∃v,x= .raw v)→∀x∈au l,∃v,x= .raw v:=by
   intro s
   induction s with
   |leaf _=>intro l h;simp[Sh.isAgg]at h
   |ref=>intro l h;simp[Sh.isAgg]at h
   |nil=>intro l _ _ hl _ x hx;simp[Sh.count]at hl;subst hl;simp[au]at hx
   | cons a b _ ihb =>
    intro l ha hp hl h x hx
    cases l with
    |nil=>simp[au]at hx
    |cons d l=>
     simp only[Sh.pure,Bool.and_eq_true]at hp
     simp only[au,List.mem_append]at hx
     rcases hx with hx|hx
     ·exact h 0 a d rfl rfl hp.1 x hx
     ·exact ihb l (by simpa[Sh.isAgg]using ha) hp.2 (by simpa[Sh.count]using hl) (fun i e d' h1 h2=>h (i+1) e d' (by simpa[Sh.sub]using h1) (by simpa using h2)) x hx
   | ar m e _ =>
    intro l _ hp hl h x hx
    simp[Sh.count]at hl
    clear ih
    have:∀(l:List D) (k:Nat),(∀(i:Nat) (d:D),l[i]?=some d→∀x∈d.flat,∃v,x=D.raw v)→∀x∈au l,∃v,x=D.raw v:=by
     intro l
     induction l with
     |nil=>intro _ _ x hx;simp[au]at hx
     |cons d l ih=>
      intro k h x hx
      simp only[au,List.mem_append]at hx
      rcases hx with hx|hx
      ·exact h 0 d rfl x hx
      ·exact ih k (fun i d' je=>h (i+1) d' (by simpa using je)) x hx
    exact this l 0 (fun i d hd=>h i e d (by simp[Sh.sub];have:=cN hd;omega) hd (by simpa[Sh.pure]using hp)) x hx
  exact key s l ha hp hl (fun i e d h1 h2 h3=>ih i e d h1 h2 h3) x hx
theorem jh{s:Sh}{l:List D}(h:∀d∈l,aK s d)(hp:s.pure=true):∀x∈au l,∃v,x= .raw v:=by
 induction l with
 |nil=>intro x hx;simp[au]at hx
 |cons d l ih=>
  intro x hx
  simp only[au,List.mem_append]at hx
  rcases hx with hx|hx
  ·exact oE (h d (by simp)) hp x hx
  ·exact ih (fun e he=>h e (by simp[he])) x hx
theorem LR.ofRaw{ρ':Pl}{w':World}{T':Nat→Prop}{d:D}{v:Value}(h:LR ρ w T d v)(hr:∃x,d= .raw x):LR ρ' w' T' d v:=by
 obtain⟨x,rfl⟩:=hr
 cases h
 rename_i h
 exact .raw _ h
theorem aY.ofRaw{ρ':Pl}{w':World}{T':Nat→Prop}{l:List D}{cs:List Value}(h:aY (LR ρ w T) l cs)(hr:∀x∈l,∃v,x= .raw v):aY (LR ρ' w' T') l cs:=
 ⟨h.len,fun i x y hx hy=>(h.at_ i x y hx hy).ofRaw (hr x (bN hx))⟩
theorem eI:∀{l:List D},aN l=false→∀d∈l,aQ d=false
 |[],_,d,hd=>by simp at hd
 |x::l,h,d,hd=>by
  simp[aN]at h
  rcases List.mem_cons.1 hd with rfl|hd
  ·exact h.1
  ·exact eI h.2 d hd
theorem nh{s:Sh}{d:D}(h:aK s d)(hr:aQ d=false):∀x∈d.flat,aQ x=false:=by
 induction h with
 |leaf k v hv=>intro x hx;simp[D.flat]at hx;subst hx;rfl
 |ref d hd=>rw[cj hd];intro x hx;simp at hx;subst hx;exact hr
 | agg s l ha hl fh ih =>
  simp only[aQ]at hr
  cases hp:s.pure with
  |true=>
   intro x hx
   obtain⟨v,rfl⟩:=oE (aK.agg s l ha hl fh) hp x hx
   rfl
  | false =>
   simp[hp]at hr
   intro x hx
   simp only[D.flat]at hx
   have hm:=eI hr
   have:∀(l:List D),(∀d∈l,∀x∈d.flat,aQ x=false)→∀x∈au l,aQ x=false:=by
    intro l
    induction l with
    |nil=>intro _ x hx;simp[au]at hx
    |cons d l ih=>
     intro h x hx
     simp only[au,List.mem_append]at hx
     rcases hx with hx|hx
     ·exact h d (by simp) x hx
     ·exact ih (fun e he=>h e (by simp[he])) x hx
   refine this l (fun d hd=>?_) x hx
   obtain⟨i,hi,rfl⟩:=List.mem_iff_getElem.1 hd
   obtain⟨e,he⟩:=kz (s:=s) (i:=i) (by omega)
   exact ih i e _ he (List.getElem?_eq_getElem hi) (hm _ hd)
theorem Ja{s:Sh}{l:List D}(h:∀d∈l,aK s d)(hr:aN l=false):∀x∈au l,aQ x=false:=by
 induction l with
 |nil=>intro x hx;simp[au]at hx
 |cons d l ih=>
  simp[aN]at hr
  intro x hx
  simp only[au,List.mem_append]at hx
  rcases hx with hx|hx
  ·exact nh (h d (by simp)) hr.1 x hx
  ·exact ih (fun e he=>h e (by simp[he])) hr.2 x hx
theorem LR.closed{d:D}{v:Value}(h:LR ρ w T d v)(hr:aQ d=false):LR eT w T d v:=by
 induction h with
 |raw v hv=>exact .raw v hv
 |ptr=>simp[aQ]at hr
 |sl=>simp[aQ]at hr
 |yP=>simp[aQ]at hr
 |lF=>simp[aQ]at hr
 |mp=>simp[aQ]at hr
 |A0=>simp[aQ]at hr
 |om s l b es clock h1 h2 h3 h4=>exact .om s l b es clock h1 h2 h3 h4
 |ou s ex a cap h1 h2=>exact .ou s ex a cap h1 h2
 | cF s l ex b o cap f h1 hb h2 h3 h4 h5 ih =>
  refine .cF s l ex b o cap f h1 hb h2 (fun i d hd=>?_) h4 h5
  simp only[aQ]at hr
  cases hp:s.pure with
  |true=>exact(h3 i d hd).ofRaw (jh h1 hp d (bN hd))
  |false=>
   simp[hp]at hr
   exact ih i d hd (Ja h1 hr d (bN hd))
 |b5 s d b o f h1 hb h2 h3 ih=>
  simp only[aQ]at hr
  exact .b5 s d b o f h1 hb h2 (fun i x hx=>ih i x hx (nh h1 hr x (bN hx)))
theorem pQ.closed{d:D}{v:Value}(h:pQ ρ w T d v)(hr:aQ d=false):pQ eT w T d v:=by
 cases d with
 |agg s l=>
  obtain⟨cs,rfl,h1,h2⟩:=h
  have:=nh h1 hr
  simp only[D.flat]at this
  exact⟨cs,rfl,h1,h2.len,fun i x y hx hy=>(h2.at_ i x y hx hy).closed (this x (bN hx))⟩
 | _=>exact LR.closed h hr
theorem VR.closed{d:D}{v:Value}(h:VR ρ w T d v)(hr:aQ d=false):VR eT w T d v:=by
 cases d with
 |cA l=>
  obtain⟨vs,rfl,h1⟩:=h
  simp only[aQ]at hr
  exact⟨vs,rfl,h1.len,fun i x y hx hy=>(h1.at_ i x y hx hy).closed (eI hr x (bN hx))⟩
 |agg s l=>exact pQ.closed (d:= .agg s l) h hr
 | _=>exact LR.closed h hr
theorem x6:∀{l:List D},fI l=true→∀d∈l,bZ d=true
 |[],_,d,hd=>by simp at hd
 |x::l,h,d,hd=>by
  simp[fI]at h
  rcases List.mem_cons.1 hd with rfl|hd
  ·exact h.1
  ·exact x6 h.2 d hd
theorem LR.bZ{T':Nat→Prop}{w':World}{d:D}{v:Value}(h:LR ρ w T d v)(hr:bZ d=true):LR ρ w' T' d v:=by
 cases h with
 |raw v hv=>exact .raw v hv
 |ptr s r p L h1 h2=>exact .ptr s r p L h1 h2
 |sl s r p off len ex L cap h1 h2 h3 h4=>exact .sl s r p off len ex L cap h1 h2 h3 h4
 |yP s r p off ex a=>exact .yP s r p off ex a
 |lF n s r p off L h1 h2=>exact .lF n s r p off L h1 h2
 |mp r L h1 h2=>exact .mp r L h1 h2
 |A0 f s r p L h1 h2=>exact .A0 f s r p L h1 h2
 |om=>simp[Am.bZ]at hr
 |ou=>simp[Am.bZ]at hr
 |cF=>simp[Am.bZ]at hr
 |b5=>simp[Am.bZ]at hr
theorem NW{s:Sh}{d:D}(h:aK s d)(hr:bZ d=true):∀x∈d.flat,bZ x=true:=by
 induction h with
 |leaf k v hv=>intro x hx;simp[D.flat]at hx;subst hx;rfl
 |ref d hd=>rw[cj hd];intro x hx;simp at hx;subst hx;exact hr
 | agg s l ha hl fh ih =>
  simp only[bZ]at hr
  cases hp:s.pure with
  |true=>
   intro x hx
   obtain⟨v,rfl⟩:=oE (aK.agg s l ha hl fh) hp x hx
   rfl
  | false =>
   simp[hp]at hr
   intro x hx
   simp only[D.flat]at hx
   have hm:=x6 hr
   have:∀(l:List D),(∀d∈l,∀x∈d.flat,bZ x=true)→∀x∈au l,bZ x=true:=by
    intro l
    induction l with
    |nil=>intro _ x hx;simp[au]at hx
    |cons d l ih=>
     intro h x hx
     simp only[au,List.mem_append]at hx
     rcases hx with hx|hx
     ·exact h d (by simp) x hx
     ·exact ih (fun e he=>h e (by simp[he])) x hx
   refine this l (fun d hd=>?_) x hx
   obtain⟨i,hi,rfl⟩:=List.mem_iff_getElem.1 hd
   obtain⟨e,he⟩:=kz (s:=s) (i:=i) (by omega)
   exact ih i e _ he (List.getElem?_eq_getElem hi) (hm _ hd)
theorem pQ.bZ{T':Nat→Prop}{w':World}{d:D}{v:Value}(h:pQ ρ w T d v)(hr:bZ d=true):pQ ρ w' T' d v:=by
 cases d with
 |agg s l=>
  obtain⟨cs,rfl,h1,h2⟩:=h
  have:=NW h1 hr
  simp only[D.flat]at this
  exact⟨cs,rfl,h1,h2.len,fun i x y hx hy=>(h2.at_ i x y hx hy).bZ (this x (bN hx))⟩
 | _=>exact LR.bZ h hr
theorem VR.bZ{T':Nat→Prop}{w':World}{d:D}{v:Value}(h:VR ρ w T d v)(hr:bZ d=true):VR ρ w' T' d v:=by
 cases d with
 |cA l=>
  obtain⟨vs,rfl,h1⟩:=h
  simp only[Am.bZ]at hr
  exact⟨vs,rfl,h1.len,fun i x y hx hy=>(h1.at_ i x y hx hy).bZ (x6 hr x (bN hx))⟩
 |agg s l=>exact pQ.bZ (d:= .agg s l) h hr
 | _=>exact LR.bZ h hr
theorem EM{k:Nat}{d:D}(h:d.ee=true):(shift k d).ee=true:=by
 cases d with
 |cF s l e=>simp only[shift];cases s.pure<;>rfl
 |raw v=>exact h
 |agg=>simp[D.ee]at h
 |cA=>simp[D.ee]at h
 | _=>rfl
theorem sU(k:Nat):∀(l:List D),(bh k l).length=l.length
 |[]=>rfl
 |d::l=>by simp[bh,sU k l]
theorem x7(k:Nat):∀(l:List D) (i:Nat),(bh k l)[i]?=(l[i]?).map (shift k)
 |[],i=>by simp[bh]
 |d::l,0=>by simp[bh]
 |d::l,i+1=>by simp[bh,x7 k l i]
theorem NX{k:Nat}{l:List D}(h:∀x∈l,∃v,x= .raw v):l.map (shift k)=l:=by
 have:l.map (shift k)=l.map id:=by
  apply List.map_congr_left
  intro x hx
  obtain⟨v,rfl⟩:=h x hx
  simp[shift]
 rw[this,List.map_id]
theorem EN{k:Nat}{s:Sh}{d:D}(h:aK s d):aK s (shift k d)∧(shift k d).flat=d.flat.map (shift k):=by
 induction h with
 |leaf j v hv=>exact⟨by simp only[shift];exact .leaf j v hv,by simp[shift,D.flat]⟩
 |ref d hd=>exact⟨.ref _ (EM hd),by rw[cj hd,cj (EM hd)];rfl⟩
 | agg s l ha hl fh ih =>
  simp only[shift]
  cases hp:s.pure with
  |true=>
   have hr:=oE (aK.agg s l ha hl fh) hp
   simp only[cond_true]
   exact⟨.agg s l ha hl fh,(NX hr).symm⟩
  | false =>
   simp only[cond_false]
   refine⟨.agg s _ ha (by rw[sU];exact hl) (fun i e d hi hd=>?_),?_⟩
   ·rw[x7]at hd
    cases hx:l[i]? with
    |none=>simp[hx]at hd
    |some x=>
     simp[hx]at hd
     subst hd
     exact(ih i e x hi hx).1
   ·simp only[D.flat]
    have:∀(l:List D),(∀d∈l,(shift k d).flat=d.flat.map (shift k))→au (bh k l)=(au l).map (shift k):=by
     intro l
     induction l with
     |nil=>intro _;simp[bh,au]
     |cons d l ih=>
      intro h
      simp only[bh,au,List.map_append]
      rw[h d (by simp),ih (fun e he=>h e (by simp[he]))]
    refine this l (fun d hd=>?_)
    obtain⟨i,hi,rfl⟩:=List.mem_iff_getElem.1 hd
    obtain⟨e,he⟩:=kz (s:=s) (i:=i) (by omega)
    exact(ih i e _ he (List.getElem?_eq_getElem hi)).2
theorem Bb{k:Nat}{s:Sh}:∀{l:List D},(∀d∈l,aK s d)→(∀d∈bh k l,aK s d)∧au (bh k l)=(au l).map (shift k)
 |[],_=>⟨by simp[bh],by simp[bh,au]⟩
 |d::l,h=>by
  obtain⟨h1,h2⟩:=Bb (k:=k) (l:=l) (fun e he=>h e (by simp[he]))
  obtain⟨h3,h4⟩:=EN (k:=k) (h d (by simp))
  refine⟨fun x hx=>?_,by simp[bh,au,h2,h4]⟩
  simp only[bh,List.mem_cons]at hx
  rcases hx with rfl|hx
  ·exact h3
  ·exact h1 x hx
def gu(k:Nat)(ρ ρ':Pl):Pl:=fun r=>if r<k then ρ r else ρ' (r-k)
theorem LR.shift{ρ':Pl}{d:D}{v:Value}(k:Nat)(jj:Pl)(h:LR ρ' w T d v):LR (gu k jj ρ') w T (Am.shift k d) v:=by
 induction h with
 |raw v hv=>exact .raw v hv
 |ptr s r p L h1 h2=>exact .ptr s (r+k) p L (by simp[gu,show¬(r+k<k) by omega,h1]) h2
 |sl s r p off len ex L cap h1 h2 h3 h4=>exact .sl s (r+k) p off len ex L cap (by simp[gu,show¬(r+k<k) by omega,h1]) h2 h3 h4
 |yP s r p off ex a=>exact .yP s (r+k) p off ex a
 |lF n s r p off L h1 h2=>exact .lF n s (r+k) p off L (by simp[gu,show¬(r+k<k) by omega,h1]) h2
 |mp r L h1 h2=>exact .mp (r+k) L (by simp[gu,show¬(r+k<k) by omega,h1]) h2
 |A0 f s r p L h1 h2=>exact .A0 f s (r+k) p L (by simp[gu,show¬(r+k<k) by omega,h1]) h2
 |om s l b es clock h1 h2 h3 h4=>exact .om s l b es clock h1 h2 h3 h4
 |ou s ex a cap h1 h2=>
  simp only[Am.shift,bh]
  cases s.pure<;>exact .ou s ex a cap h1 h2
 | cF s l ex b o cap f h1 hb h2 h3 h4 h5 ih =>
  simp only[Am.shift]
  cases hp:s.pure with
  |true=>exact .cF s l ex b o cap f h1 hb h2 (fun i d hd=>(h3 i d hd).ofRaw (jh h1 hp d (bN hd))) h4 h5
  | false =>
   simp only[cond_false]
   obtain⟨g1,g2⟩:=Bb (k:=k) h1
   have hl:=sU k l
   have:LR (gu k jj ρ') w T (.cF s (bh k l) ex) (.slice (some ⟨b,o,none⟩) (bh k l).length cap):=by
    refine .cF s _ ex b o cap f g1 hb (fun i d hd=>?_) (fun i d hd=>?_) (by omega) (by rw[hl];exact h5)
    ·rw[g2,List.getElem?_map]at hd
     cases hx:(au l)[i]? with
     |none=>simp[hx]at hd
     |some x=>exact h2 i x hx
    ·rw[g2,List.getElem?_map]at hd
     cases hx:(au l)[i]? with
     |none=>simp[hx]at hd
     |some x=>
      simp[hx]at hd
      subst hd
      exact ih i x hx
   rwa [hl]at this
 | b5 s d b o f h1 hb h2 h3 ih =>
  obtain⟨g1,g2⟩:=EN (k:=k) h1
  simp only[Am.shift]
  refine .b5 s _ b o f g1 hb (fun i x hx=>?_) (fun i x hx=>?_)
  ·rw[g2,List.getElem?_map]at hx
   cases hy:d.flat[i]? with
   |none=>simp[hy]at hx
   |some y=>exact h2 i y hy
  ·rw[g2,List.getElem?_map]at hx
   cases hy:d.flat[i]? with
   |none=>simp[hy]at hx
   |some y=>
    simp[hy]at hx
    subst hx
    exact ih i y hy
theorem aY.shift{ρ':Pl}{l:List D}{cs:List Value}(k:Nat)(jj:Pl)(h:aY (LR ρ' w T) l cs):aY (LR (gu k jj ρ') w T) (l.map (Am.shift k)) cs:=by
 refine⟨by simp[h.len],fun i x y hx hy=>?_⟩
 rw[List.getElem?_map]at hx
 cases hz:l[i]? with
 |none=>simp[hz]at hx
 |some z=>
  simp[hz]at hx
  subst hx
  exact(h.at_ i z y hz hy).shift k jj
theorem pQ.shift{ρ':Pl}{d:D}{v:Value}(k:Nat)(jj:Pl)(h:pQ ρ' w T d v):pQ (gu k jj ρ') w T (Am.shift k d) v:=by
 cases d with
 |agg s l=>
  obtain⟨cs,rfl,h1,h2⟩:=h
  obtain⟨g1,g2⟩:=EN (k:=k) h1
  have h3:aY (LR ρ' w T) (D.agg s l).flat cs.toList:=by simpa[D.flat]using h2
  have h4:=h3.shift k jj
  rw[←g2]at h4
  have ha:=(nM h1).2
  exact pQ.K6 g1 ha h4
 |cA l=>cases h
 | _=>exact pQ.bG (LR.shift k jj h)
theorem VR.shift{ρ':Pl}{d:D}{v:Value}(k:Nat)(jj:Pl)(h:VR ρ' w T d v):VR (gu k jj ρ') w T (Am.shift k d) v:=by
 cases d with
 | cA l =>
  obtain⟨vs,rfl,h1⟩:=h
  refine⟨vs,rfl,by rw[sU];exact h1.len,fun i x y hx hy=>?_⟩
  rw[x7]at hx
  cases hz:l[i]? with
  |none=>simp[hz]at hx
  |some z=>
   simp[hz]at hx
   subst hx
   exact(h1.at_ i z y hz hy).shift k jj
 |agg s l=>exact VR.xg (pQ.shift (d:= .agg s l) k jj h)
 | _=>exact VR.bG (LR.shift k jj h)
theorem op_frzb(hs:dO n ρ T env rows a w)(hG:rj C ρ w T){o:Oper}{k:D→Rows→Prop}{t e:TypeId}{x:Operand}{x':X}{s:Sh}(ho:o.op= .convert t t x)(ht:P.underlying t=some (.slice e))(he8:P.underlying e=some (.int .u8))(h1:cX x=some x')
  (h:df C env rows (.NG s x') k):bU P n o ρ T env rows a w k:=by
 obtain⟨d,he,hk⟩:=ah h
 have hv:=bI h1 he hs hG
 split at hk
 ·rename_i t' r off len ex
  obtain⟨rfl,h0,hk⟩:=hk
  obtain⟨row,hl,hk⟩:=ah hk
  obtain⟨hle,hk⟩:=hk
  have kU:LR ρ w T (.sl t' r [] off len ex) _:=hv
  generalize hx:a.eval x=v at kU
  cases kU with
  |yP=>omega
  | sl _ _ _ _ _ _ L cap hL g1 g2 g3 =>
   have hr:=hs.bD.row r row L hl hL
   obtain⟨cur,tt,⟨fr,c1,c0⟩,c2,c3,c4⟩:=hr.cells (LR.Ew g3)
   let w':World:=w.freeze ⟨L.b,cur.size,none⟩ 1
   have hw':∀b,b≠L.b→w'.heap[b]?=w.heap[b]?:=by
    intro b hb
    show(w.freeze ⟨L.b,cur.size,none⟩ 1).heap[b]?=_
    simp only[World.freeze,Nat.succ_ne_zero,if_false,Array.getElem?_modify]
    rw[if_neg (fun e=>hb e.symm)]
   have oD:qK w w' L.b:=by
    refine⟨cur,tt,fr,(if fr.1==fr.2 then(cur.size,cur.size+1)else(min fr.1 cur.size,max fr.2 (cur.size+1))),c1,?_,?_⟩
    ·show(w.freeze ⟨L.b,cur.size,none⟩ 1).heap[L.b]?=_
     simp only[World.freeze,Nat.succ_ne_zero,if_false,Array.getElem?_modify,c1]
     simp
    ·split
     ·exact .inr (Nat.le_refl _)
     ·rename_i hne
      rcases c0 with c0|c0
      ·rw[c0]at hne;simp at hne
      ·exact .inr (by simp;omega)
   have hsz:w'.heap.size=w.heap.size:=by
    show(w.freeze ⟨L.b,cur.size,none⟩ 1).heap.size=_
    simp[World.freeze]
   obtain⟨g4,g5⟩:=hs.mark (w':=w') hl hL hsz hw' oD rfl rfl rfl
   refine ow (v:= .slice (some ⟨L.b,L.off []+off*t'.size,none⟩) len cap) hk g4 g5 (VR.bG (.sl _ _ _ _ _ _ L cap hL g1 g2 g3)) (fun _=>⟨fun b hb=>?_,fun _ h=> .inl h⟩) ?_
   ·by_cases e:b=L.b
    ·exact .inr ⟨e▸oD,r,row,L,hl,hL,e.symm⟩
    ·exact .inl (hw' b e)
   ·have hshape:w.shape? L.b=some (tt,cur.size):=by simp[World.shape?,c1]
    simp only[execOp,ho,hx,Sem.run_bind,convert,run_underlying ht,run_underlying he8,Result.andThen_ok,beq_self_eq_true,markStringish]
    simp[shape,freeze,Sem.run,Sem.bind,hshape]
    rfl
 ·exact hk.elim
end Go.Am

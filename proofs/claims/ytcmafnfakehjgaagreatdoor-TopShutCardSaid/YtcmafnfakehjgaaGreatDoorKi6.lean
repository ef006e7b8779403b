import Derived.Test.YtcmafnfakehjgaaGreatDoorKi5
import Derived.Test.YtcmafnfakehjgaaGreatDoorProg
set_option linter.unusedSimpArgs false
set_option linter.unusedVariables false
set_option maxRecDepth 10000
namespace Go.Am.F
set_option maxRecDepth 100000
set_option maxHeartbeats 0
set_option linter.defProp false
abbrev ji(d:Nat)(o:nY):aS:=⟨some d,o,none⟩
abbrev jv(d x:Nat):aS:=⟨some d,.mv (.tmp x),none⟩
noncomputable def codeOf(P:Program)(k:Nat):aj:=match P.funcs[k]? with
 |some f=>match f.body with
  |some c=>(comp P f.ntmps c).getD .skip
  |none=> .skip
 |none=> .skip
abbrev CO(k:Nat):={c:aj//codeOf Go.Proofs.Tryz.prog k=c}
theorem cf8{n:Int}(h:0<=n)(h1:n<256):Value.int .u8 n=u8 (BitVec.ofInt 8 n):=by
 obtain⟨m,rfl⟩:=aaH h
 unfold u8
 congr 1
 simp
 omega
theorem cf16{n:Int}(h:0<=n)(h1:n<65536):Value.int .u16 n=u16 (BitVec.ofInt 16 n):=by
 obtain⟨m,rfl⟩:=aaH h
 unfold u16
 congr 1
 simp
 omega
theorem cf32{n:Int}(h:0<=n)(h1:n<4294967296):Value.int .u32 n=u32 (BitVec.ofInt 32 n):=by
 obtain⟨m,rfl⟩:=aaH h
 unfold u32
 congr 1
 simp
 omega
theorem cf64{n:Int}(h:0<=n)(h1:n<18446744073709551616):Value.int .u64 n=u64 (BitVec.ofInt 64 n):=by
 obtain⟨m,rfl⟩:=aaH h
 unfold u64
 congr 1
 simp
 omega
theorem cfi(n:Int):Value.int .i64 n=it n:=rfl
theorem cfa2{e:Sh}{x:D}:D.agg (.ar 2 e) [x,x]= .agg (.ar 2 e) (List.replicate 2 x):=rfl
theorem cfb2{e:Sh}{x:D}{p:List (Nat×X)}:nY.build (.ar 2 e) [x,x] p= .build (.ar 2 e) (List.replicate 2 x) p:=rfl
theorem cfa4{e:Sh}{x:D}:D.agg (.ar 4 e) [x,x,x,x]= .agg (.ar 4 e) (List.replicate 4 x):=rfl
theorem cfb4{e:Sh}{x:D}{p:List (Nat×X)}:nY.build (.ar 4 e) [x,x,x,x] p= .build (.ar 4 e) (List.replicate 4 x) p:=rfl
theorem cfa8{e:Sh}{x:D}:D.agg (.ar 8 e) [x,x,x,x,x,x,x,x]= .agg (.ar 8 e) (List.replicate 8 x):=rfl
theorem cfb8{e:Sh}{x:D}{p:List (Nat×X)}:nY.build (.ar 8 e) [x,x,x,x,x,x,x,x] p= .build (.ar 8 e) (List.replicate 8 x) p:=rfl
theorem cfa16{e:Sh}{x:D}:D.agg (.ar 16 e) [x,x,x,x,x,x,x,x,x,x,x,x,x,x,x,x]= .agg (.ar 16 e) (List.replicate 16 x):=rfl
theorem cfb16{e:Sh}{x:D}{p:List (Nat×X)}:nY.build (.ar 16 e) [x,x,x,x,x,x,x,x,x,x,x,x,x,x,x,x] p= .build (.ar 16 e) (List.replicate 16 x) p:=rfl
theorem cfa32{e:Sh}{x:D}:D.agg (.ar 32 e) [x,x,x,x,x,x,x,x,x,x,x,x,x,x,x,x,x,x,x,x,x,x,x,x,x,x,x,x,x,x,x,x]= .agg (.ar 32 e) (List.replicate 32 x):=rfl
theorem cfb32{e:Sh}{x:D}{p:List (Nat×X)}:nY.build (.ar 32 e) [x,x,x,x,x,x,x,x,x,x,x,x,x,x,x,x,x,x,x,x,x,x,x,x,x,x,x,x,x,x,x,x] p= .build (.ar 32 e) (List.replicate 32 x) p:=rfl
theorem cfa64{e:Sh}{x:D}:D.agg (.ar 64 e) [x,x,x,x,x,x,x,x,x,x,x,x,x,x,x,x,x,x,x,x,x,x,x,x,x,x,x,x,x,x,x,x,x,x,x,x,x,x,x,x,x,x,x,x,x,x,x,x,x,x,x,x,x,x,x,x,x,x,x,x,x,x,x,x]= .agg (.ar 64 e) (List.replicate 64 x):=rfl
theorem cfb64{e:Sh}{x:D}{p:List (Nat×X)}:nY.build (.ar 64 e) [x,x,x,x,x,x,x,x,x,x,x,x,x,x,x,x,x,x,x,x,x,x,x,x,x,x,x,x,x,x,x,x,x,x,x,x,x,x,x,x,x,x,x,x,x,x,x,x,x,x,x,x,x,x,x,x,x,x,x,x,x,x,x,x] p= .build (.ar 64 e) (List.replicate 64 x) p:=rfl
def cr:=(And.intro (And.intro (And.intro (And.intro @cf8 @cf16) (And.intro @cf32 @cf64)) (And.intro (And.intro @cfi @cfa2) (And.intro @cfa4 @cfa8))) (And.intro (And.intro (And.intro @cfa16 @cfa32) (And.intro @cfa64 @cfb2)) (And.intro (And.intro @cfb4 @cfb8) (And.intro @cfb16 (And.intro @cfb32 @cfb64)))))
abbrev MT(f n:Nat)(r:List aN)(a:aj):Prop:=∀C:aU,aI C Go.Proofs.Tryz.prog->aQ C.aZ Go.Proofs.Tryz.prog f (aB C n r a)
theorem mM{f n:Nat}{r:List aN}{a:aj}{g:Func}(hf:Go.Proofs.Tryz.prog.funcs[f]?=some g)(hb:o2 g.body (comp Go.Proofs.Tryz.prog g.ntmps)=some a)(hr:LN Go.Proofs.Tryz.prog g.results.toList=some r)(hn:Nat.ble n g.ntmps=true):MT f n r a:=λ_ hC=>PT hC hf hb hr (abE hn)
abbrev S1:Sh:= .cons L8 (.cons LI (.cons cN (.cons .ref .nil)))
abbrev S2:Sh:= .cons cN (.cons cN (.cons cN (.cons cN (.cons cN (.cons cN (.cons cN (.cons cN .nil)))))))
abbrev S3:Sh:= .cons (.ar 32 cN) (.cons cN (.cons S2 (.cons LB .nil)))
abbrev S4:Sh:= .cons .ref (.cons .ref (.cons S3 (.cons .ref .nil)))
abbrev S5:Sh:= .cons L8 (.cons L8 (.cons L8 (.cons L8 (.cons cN (.cons L16 .nil)))))
abbrev S6:Sh:= .cons LB (.cons cN (.cons S5 (.cons cN (.cons .ref .nil))))
abbrev S7:Sh:= .cons LI (.cons LI (.cons .ref .nil))
abbrev S8:Sh:= .cons .ref (.cons LI .nil)
abbrev S9:Sh:= .cons LI (.cons cN (.cons (.ar 16 L8) .nil))
abbrev S10:Sh:= .cons .ref (.cons .ref (.cons .ref (.cons .ref (.cons .ref (.cons .ref (.cons .ref (.cons cN (.cons LI .nil))))))))
abbrev S11:Sh:= .cons LI (.cons LI (.cons LI (.cons (.ar 32 L8) .nil)))
abbrev S12:Sh:= .cons LI (.cons S11 (.cons .ref .nil))
abbrev S13:Sh:= .cons LI (.cons LI (.cons S11 (.cons LB (.cons LI (.cons LI (.cons LI (.cons LI (.cons .ref (.cons (.ar 2 S12) (.cons .ref (.cons LI (.cons LI .nil))))))))))))
abbrev vG:Sh:= .cons LI (.cons LI (.cons LI .nil))
abbrev S15:Sh:= .cons cN (.cons LI .nil)
abbrev Sb:Sh:= .cons cN (.cons cN (.cons (.ar 16 L8) (.cons (.ar 32 L8) (.cons .ref (.cons cN (.cons .ref (.cons .ref (.cons .ref .nil))))))))
abbrev S17:Sh:= .cons .ref .nil
abbrev S18:Sh:= .cons .ref (.cons LB .nil)
abbrev S19:Sh:= .cons LI (.cons cN .nil)
abbrev S20:Sh:= .cons LS (.cons (.ar 32 L8) .nil)
abbrev S21:Sh:= .cons L8 (.cons LI (.cons LI (.cons .ref (.cons LI (.cons cN .nil)))))
abbrev S23:Sh:= .cons LI (.cons (.ar 8192 L8) (.cons (.ar 64 L8) (.cons .ref (.cons .ref .nil))))
abbrev S24:Sh:= .cons LI (.cons LI (.cons cN (.cons LI (.cons LB (.cons LB .nil)))))
abbrev sM:Sh:= .cons cN (.cons cN (.cons cN .nil))
abbrev S26:Sh:= .cons .ref (.cons .ref (.cons cN .nil))
abbrev S27:Sh:= .cons (.ar 16 L8) (.cons cN .nil)
abbrev S28:Sh:= .cons cN (.cons LB .nil)
abbrev sX:Sh:= .cons cN (.cons LI (.cons LI (.cons LI .nil)))
abbrev S30:Sh:= .cons (.ar 4 (.ar 32 L8)) .nil
abbrev S31:Sh:= .cons .ref (.cons S30 (.cons (.ar 32 L8) (.cons LI .nil)))
abbrev O4:Sh:= .cons (.ar 8 cN) (.cons (.ar 64 L8) (.cons L64 .nil))
abbrev S35:Sh:= .cons L8 (.cons LI (.cons (.ar 32 L8) .nil))
abbrev S36:Sh:= .cons LI (.cons (.ar 32 L8) .nil)
abbrev S37:Sh:= .cons (.ar 8 S36) (.cons LB (.cons LB .nil))
abbrev zU:Sh:= .cons LS .nil
abbrev P4:Sh:= .cons LI (.cons sX (.cons LB (.cons LB (.cons LI .nil))))
abbrev S40:Sh:= .cons cN (.cons cN (.cons (.ar 16 L8) (.cons (.ar 32 L8) .nil)))
abbrev S41:Sh:= .cons O4 (.cons O4 .nil)
noncomputable def pf:aj:=(⟨_,by conv=>lhs;reduce;simp only[cr,simprocAttr,-List.reduceReplicate]⟩:CO 3).1
def pg:List aN:=[(.tmp 10)]
theorem KK:MT 3 5 pg pf:=mM Go.Proofs.Tryz.func3 (by kernel_rfl) (by kernel_rfl) (by kernel_rfl)
noncomputable def pD:aj:=(⟨_,by conv=>lhs;reduce;simp only[cr,simprocAttr,-List.reduceReplicate]⟩:CO 4).1
def pE:List aN:=[(.tmp 0)]
theorem P5:MT 4 0 pE pD:=mM Go.Proofs.Tryz.func4 (by kernel_rfl) (by kernel_rfl) (by kernel_rfl)
noncomputable def oJ:aj:=(⟨_,by conv=>lhs;reduce;simp only[cr,simprocAttr,-List.reduceReplicate]⟩:CO 5).1
def oK:List aN:=[(.tmp 2)]
theorem Tc:MT 5 1 oK oJ:=mM Go.Proofs.Tryz.func5 (by kernel_rfl) (by kernel_rfl) (by kernel_rfl)
noncomputable def gJ:aj:=(⟨_,by conv=>lhs;reduce;simp only[cr,simprocAttr,-List.reduceReplicate]⟩:CO 6).1
def gK:List aN:=[(.tmp 8)]
theorem Ep:MT 6 4 gK gJ:=mM Go.Proofs.Tryz.func6 (by kernel_rfl) (by kernel_rfl) (by kernel_rfl)
noncomputable def iF:aj:=(⟨_,by conv=>lhs;reduce;simp only[cr,simprocAttr,-List.reduceReplicate]⟩:CO 7).1
def iG:List aN:=[(.tmp 6)]
theorem BW:MT 7 3 iG iF:=mM Go.Proofs.Tryz.func7 (by kernel_rfl) (by kernel_rfl) (by kernel_rfl)
noncomputable def dF:aj:=(⟨_,by conv=>lhs;reduce;simp only[cr,simprocAttr,-List.reduceReplicate]⟩:CO 8).1
def dG:List aN:=[(.cell 4 S7)]
theorem Nv:MT 8 2 dG dF:=mM Go.Proofs.Tryz.func8 (by kernel_rfl) (by kernel_rfl) (by kernel_rfl)
noncomputable def ee:aj:=(⟨_,by conv=>lhs;reduce;simp only[cr,simprocAttr,-List.reduceReplicate]⟩:CO 9).1
def eh:List aN:=[(.tmp 2)]
theorem Gy:MT 9 1 eh ee:=mM Go.Proofs.Tryz.func9 (by kernel_rfl) (by kernel_rfl) (by kernel_rfl)
noncomputable def iH:aj:=(⟨_,by conv=>lhs;reduce;simp only[cr,simprocAttr,-List.reduceReplicate]⟩:CO 10).1
def iI:List aN:=[(.tmp 2)]
theorem BX:MT 10 1 iI iH:=mM Go.Proofs.Tryz.func10 (by kernel_rfl) (by kernel_rfl) (by kernel_rfl)
noncomputable def Im:aj:=(⟨_,by conv=>lhs;reduce;simp only[cr,simprocAttr,-List.reduceReplicate]⟩:CO 11).1
def Io:List aN:=[(.cell 2 S3)]
theorem Td:MT 11 1 Io Im:=mM Go.Proofs.Tryz.func11 (by kernel_rfl) (by kernel_rfl) (by kernel_rfl)
noncomputable def dL:aj:=(⟨_,by conv=>lhs;reduce;simp only[cr,simprocAttr,-List.reduceReplicate]⟩:CO 12).1
def dM:List aN:=[(.cell 6 S3),(.cell 7 S6)]
theorem Er:MT 12 3 dM dL:=mM Go.Proofs.Tryz.func12 (by kernel_rfl) (by kernel_rfl) (by kernel_rfl)
noncomputable def ky:aj:=(⟨_,by conv=>lhs;reduce;simp only[cr,simprocAttr,-List.reduceReplicate]⟩:CO 13).1
def kz:List aN:=[(.tmp 2)]
theorem KL:MT 13 1 kz ky:=mM Go.Proofs.Tryz.func13 (by kernel_rfl) (by kernel_rfl) (by kernel_rfl)
noncomputable def jY:aj:=(⟨_,by conv=>lhs;reduce;simp only[cr,simprocAttr,-List.reduceReplicate]⟩:CO 14).1
def jZ:List aN:=[(.tmp 2)]
theorem Gz:MT 14 1 jZ jY:=mM Go.Proofs.Tryz.func14 (by kernel_rfl) (by kernel_rfl) (by kernel_rfl)
noncomputable def pF:aj:=(⟨_,by conv=>lhs;reduce;simp only[cr,simprocAttr,-List.reduceReplicate]⟩:CO 15).1
def pG:List aN:=[(.tmp 0)]
theorem P6:MT 15 0 pG pF:=mM Go.Proofs.Tryz.func15 (by kernel_rfl) (by kernel_rfl) (by kernel_rfl)
def qP:aj:=(.seq (.region false [ji 6 (.box (.ar 16 L8) (.tmp 2)),ji 7 (.box (.ar 32 L8) (.tmp 3)),ji 8 (.mv (.const (.pointer none))),ji 9 (.mv (.const (it 0)))]) (.seq (.region false [jv 20 0,ji 21 (.call 48 [.tmp 20]),jv 19 21,ji 22 (.ext (.tmp 19) 0),ji 23 (.ext (.tmp 19) 1),jv 10 22,jv 11 23]) (.seq (.seq (.region false [jv 25 1,ji 26 (.call 49 [.tmp 25]),jv 24 26,ji 27 (.ext (.tmp 24) 0),ji 28 (.ext (.tmp 24) 1),ji 12 (.alloc vG (.agg vG [(.raw (it 0)),(.raw (it 0)),(.raw (it 0))])),⟨none,.store vG (.tmp 12) (.tmp 27),none⟩,jv 13 28]) (.seq (.region false [jv 29 11,ji 30 (.un .not (.tmp 29)),jv 31 30,⟨some 32,.mv (.tmp 13),some (31,false)⟩,⟨some 33,.un .not (.tmp 32),some (31,false)⟩,ji 34 (.pick (.tmp 31) (.const (.bool true)) (.tmp 33)),jv 35 34,⟨some 36,.mv (.tmp 10),some (35,false)⟩,⟨some 37,.bin .gtr (.tmp 36) (.const (it 10)),some (35,false)⟩,ji 38 (.pick (.tmp 35) (.const (.bool true)) (.tmp 37))]) (.cond (.tmp 38) (.seq (.region false [ji 8 (.mv (.const (.pointer none))),ji 9 (.mv (.const (it 6)))]) .ret) .skip))) (.seq (.region true [jv 39 0,jv 40 1,ji 41 (.load (.ar 16 L8) (.tmp 6)),ji 42 (.load (.ar 32 L8) (.tmp 7)),jv 43 10,ji 44 (.bin .shl (.const (it 2)) (.tmp 43)),ji 45 (.mks (.ar 32 L8) 32 (.agg (.ar 32 L8) (List.replicate 32 (.raw (u8 0#8)))) (.tmp 44) (.tmp 44)),ji 46 (.Zt LS LB),ji 47 (.Zt S15 LI),ji 48 (.build Sb [(.raw (u32 0#32)),(.raw (u32 0#32)),(.agg (.ar 16 L8) (List.replicate 16 (.raw (u8 0#8)))),(.agg (.ar 32 L8) (List.replicate 32 (.raw (u8 0#8)))),(.raw (.slice none 0 0)),(.raw (u32 0#32)),(.raw (.map none)),(.raw (.map none)),(.raw (.slice none 0 0))] [(0,.tmp 39),(1,.tmp 40),(2,.tmp 41),(3,.tmp 42),(4,.tmp 45),(6,.tmp 46),(7,.tmp 47)]),ji 49 (.box Sb (.tmp 48)),jv 14 49]) (.seq (.seq (.region false [jv 50 14,ji 51 (.qA (.tmp 50)),ji 52 (.fx Sb (.tmp 51) 4),ji 53 (.load .ref (.tmp 52)),ji 54 (.len (.tmp 53)),ji 55 (.bin .sub (.tmp 54) (.const (it 1))),jv 15 55]) (.block 0 (.loop (.seq (.seq (.region false [jv 56 15,ji 57 (.bin .gtr (.tmp 56) (.const (it 0)))]) (.cond (.tmp 57) .skip (.exit 0))) (.seq (.block 1 (.seq (.region false [jv 60 15,jv 61 14,ji 62 (.call 50 [.tmp 61]),ji 63 (.bin .sub (.tmp 60) (.tmp 62)),jv 16 63]) (.seq (.region false [jv 64 16,ji 65 (.bin .geq (.tmp 64) (.const (it 0)))]) (.cond (.tmp 65) (.seq (.draw [jv 67 1,jv 68 14,jv 69 16,ji 70 (.conv .u32 (.tmp 69)),ji 71 (.call 52 [.tmp 68,.tmp 70]),ji 72 (.load (.ar 32 L8) (.tmp 7)),ji 73 (.call 51 [.tmp 67,.tmp 71,.tmp 72]),jv 66 73,ji 74 (.ext (.tmp 66) 0),ji 75 (.ext (.tmp 66) 1),ji 17 (.alloc (.ar 32 L8) (.agg (.ar 32 L8) (List.replicate 32 (.raw (u8 0#8)))))] [ji 75 (.ext (.tmp 66) 1)] [(⟨none,.store (.ar 32 L8) (.tmp 17) (.tmp 74),none⟩,[ji 75 (.ext (.tmp 66) 1)]),(jv 18 75,[])]) (.region true [jv 76 14,ji 77 (.qA (.tmp 76)),ji 78 (.fx Sb (.tmp 77) 4),ji 79 (.load .ref (.tmp 78)),jv 80 15,ji 81 (.load (.ar 16 L8) (.tmp 6)),jv 82 15,ji 83 (.conv .u32 (.tmp 82)),ji 84 (.load (.ar 32 L8) (.tmp 17)),ji 85 (.call 53 [.tmp 81,.tmp 83,.tmp 84]),ji 86 (.js (.ar 32 L8) (.tmp 79) (.tmp 80)),⟨none,.store (.ar 32 L8) (.tmp 86) (.tmp 85),none⟩])) (.region true [jv 87 14,ji 88 (.qA (.tmp 87)),ji 89 (.fx Sb (.tmp 88) 4),ji 90 (.load .ref (.tmp 89)),jv 91 15,ji 92 (.load (.ar 16 L8) (.tmp 6)),jv 93 15,ji 94 (.conv .u32 (.tmp 93)),jv 95 14,ji 96 (.qA (.tmp 95)),ji 97 (.fx Sb (.tmp 96) 4),ji 98 (.load .ref (.tmp 97)),jv 99 15,ji 100 (.bin .mul (.const (it 2)) (.tmp 99)),ji 101 (.js (.ar 32 L8) (.tmp 98) (.tmp 100)),ji 102 (.load (.ar 32 L8) (.tmp 101)),jv 103 14,ji 104 (.qA (.tmp 103)),ji 105 (.fx Sb (.tmp 104) 4),ji 106 (.load .ref (.tmp 105)),jv 107 15,ji 108 (.bin .mul (.const (it 2)) (.tmp 107)),ji 109 (.bin .add (.tmp 108) (.const (it 1))),ji 110 (.js (.ar 32 L8) (.tmp 106) (.tmp 109)),ji 111 (.load (.ar 32 L8) (.tmp 110)),ji 112 (.call 54 [.tmp 92,.tmp 94,.tmp 102,.tmp 111]),ji 113 (.js (.ar 32 L8) (.tmp 90) (.tmp 91)),⟨none,.store (.ar 32 L8) (.tmp 113) (.tmp 112),none⟩]))))) (.region false [jv 58 15,ji 59 (.bin .sub (.tmp 58) (.const (it 1))),jv 15 59])))))) (.seq (.region false [jv 114 14,jv 8 114,ji 9 (.mv (.const (it 0)))]) .ret))))))
def qQ:List aN:=[(.tmp 8),(.tmp 9)]
theorem XG:MT 16 4 qQ qP:=mM Go.Proofs.Tryz.func16 (by kernel_rfl) (by kernel_rfl) (by kernel_rfl)
noncomputable def lG:aj:=(⟨_,by conv=>lhs;reduce;simp only[cr,simprocAttr,-List.reduceReplicate]⟩:CO 17).1
def lH:List aN:=[(.tmp 2),(.tmp 3)]
theorem P7:MT 17 1 lH lG:=mM Go.Proofs.Tryz.func17 (by kernel_rfl) (by kernel_rfl) (by kernel_rfl)
noncomputable def oL:aj:=(⟨_,by conv=>lhs;reduce;simp only[cr,simprocAttr,-List.reduceReplicate]⟩:CO 18).1
def oM:List aN:=[(.tmp 0)]
theorem XH:MT 18 0 oM oL:=mM Go.Proofs.Tryz.func18 (by kernel_rfl) (by kernel_rfl) (by kernel_rfl)
noncomputable def dN:aj:=(⟨_,by conv=>lhs;reduce;simp only[cr,simprocAttr,-List.reduceReplicate]⟩:CO 19).1
def dO:List aN:=[(.tmp 6)]
theorem zz:MT 19 3 dO dN:=mM Go.Proofs.Tryz.func19 (by kernel_rfl) (by kernel_rfl) (by kernel_rfl)
noncomputable def iJ:aj:=(⟨_,by conv=>lhs;reduce;simp only[cr,simprocAttr,-List.reduceReplicate]⟩:CO 20).1
def iK:List aN:=[(.tmp 6)]
theorem BY:MT 20 3 iK iJ:=mM Go.Proofs.Tryz.func20 (by kernel_rfl) (by kernel_rfl) (by kernel_rfl)
noncomputable def ui:aj:=(⟨_,by conv=>lhs;reduce;simp only[cr,simprocAttr,-List.reduceReplicate]⟩:CO 21).1
def uj:List aN:=[(.tmp 6),(.tmp 7)]
theorem Es:MT 21 3 uj ui:=mM Go.Proofs.Tryz.func21 (by kernel_rfl) (by kernel_rfl) (by kernel_rfl)
noncomputable def qp:aj:=(⟨_,by conv=>lhs;reduce;simp only[cr,simprocAttr,-List.reduceReplicate]⟩:CO 22).1
def qq:List aN:=[(.tmp 2)]
theorem zA:MT 22 1 qq qp:=mM Go.Proofs.Tryz.func22 (by kernel_rfl) (by kernel_rfl) (by kernel_rfl)
noncomputable def oN:aj:=(⟨_,by conv=>lhs;reduce;simp only[cr,simprocAttr,-List.reduceReplicate]⟩:CO 23).1
def oO:List aN:=[(.cell 0 (.ar 16 L8))]
theorem Te:MT 23 0 oO oN:=mM Go.Proofs.Tryz.func23 (by kernel_rfl) (by kernel_rfl) (by kernel_rfl)
noncomputable def kU:aj:=(⟨_,by conv=>lhs;reduce;simp only[cr,simprocAttr,-List.reduceReplicate]⟩:CO 24).1
def kY:List aN:=[(.tmp 4)]
theorem KM:MT 24 2 kY kU:=mM Go.Proofs.Tryz.func24 (by kernel_rfl) (by kernel_rfl) (by kernel_rfl)
noncomputable def sY:aj:=(⟨_,by conv=>lhs;reduce;simp only[cr,simprocAttr,-List.reduceReplicate]⟩:CO 25).1
def sZ:List aN:=[(.tmp 4),(.tmp 5)]
theorem BZ:MT 25 2 sZ sY:=mM Go.Proofs.Tryz.func25 (by kernel_rfl) (by kernel_rfl) (by kernel_rfl)
noncomputable def xH:aj:=(⟨_,by conv=>lhs;reduce;simp only[cr,simprocAttr,-List.reduceReplicate]⟩:CO 26).1
def xI:List aN:=[(.tmp 4)]
theorem m_soc_Of:MT 26 2 xI xH:=mM Go.Proofs.Tryz.func26 (by kernel_rfl) (by kernel_rfl) (by kernel_rfl)
noncomputable def rA:aj:=(⟨_,by conv=>lhs;reduce;simp only[cr,simprocAttr,-List.reduceReplicate]⟩:CO 27).1
def rB:List aN:=[(.tmp 2),(.tmp 3)]
theorem AR:MT 27 1 rB rA:=mM Go.Proofs.Tryz.func27 (by kernel_rfl) (by kernel_rfl) (by kernel_rfl)
def fZ:aj:=(.seq (.region false [ji 4 (.box (.ar 32 L8) (.tmp 1)),ji 6 (.mv (.const (.slice none 0 0))),ji 7 (.mv (.const (it 0)))]) (.seq (.block 0 (.seq (.region false [jv 12 0,ji 13 (.Br false (.tmp 12) (.const (.pointer none))),jv 11 13]) (.cond (.tmp 11) (.seq (.region false [ji 6 (.mv (.const (.slice none 0 0))),ji 7 (.mv (.const (it 3)))]) .ret) (.seq (.region false [jv 15 0,ji 16 (.call 74 [.tmp 15]),ji 17 (.bin .eql (.tmp 16) (.const (it 0))),jv 14 17]) (.cond (.tmp 14) (.seq (.region false [ji 6 (.mv (.const (.slice none 0 0))),ji 7 (.mv (.const (it 7)))]) .ret) .skip))))) (.seq (.region false [jv 18 0,ji 19 (.qA (.tmp 18)),ji 20 (.fx Sb (.tmp 19) 5),ji 21 (.load cN (.tmp 20)),jv 8 21]) (.seq (.region false [jv 22 0,ji 23 (.qA (.tmp 22)),ji 24 (.fx Sb (.tmp 23) 5),ji 25 (.load cN (.tmp 24)),ji 26 (.bin .add (.tmp 25) (.const (u32 1#32))),ji 27 (.qA (.tmp 22)),ji 28 (.fx Sb (.tmp 27) 5),⟨none,.store cN (.tmp 28) (.tmp 26),none⟩]) (.seq (.region true [jv 29 0,ji 30 (.qA (.tmp 29)),ji 31 (.fx Sb (.tmp 30) 6),ji 32 (.load .ref (.tmp 31)),jv 33 2,ji 34 (.ZS (.tmp 33)),⟨none,.je LS LB (.tmp 32) (.tmp 34) (.const (.bool true)),none⟩]) (.seq (.draw [jv 35 0,jv 36 0,ji 37 (.qA (.tmp 36)),ji 38 (.fx Sb (.tmp 37) 8),ji 39 (.load .ref (.tmp 38)),jv 40 2,ji 41 (.ZS (.tmp 40)),ji 42 (.load (.ar 32 L8) (.tmp 4)),⟨some 43,.build S20 [(.raw (.string ⟨#[]⟩)),(.agg (.ar 32 L8) (List.replicate 32 (.raw (u8 0#8))))] [(0,.tmp 41),(1,.tmp 42)],none⟩,⟨some 44,.fw S20 1 (.agg S20 [(.raw (.string ⟨#[]⟩)),(.agg (.ar 32 L8) (List.replicate 32 (.raw (u8 0#8))))]) [(0,.tmp 43)],none⟩] [jv 35 0,jv 36 0,ji 37 (.qA (.tmp 36)),jv 40 2,ji 41 (.ZS (.tmp 40)),ji 42 (.load (.ar 32 L8) (.tmp 4))] [(ji 45 (.append S20 48 (.tmp 39) (.tmp 44)),[jv 35 0,jv 36 0,ji 37 (.qA (.tmp 36)),jv 40 2,ji 41 (.ZS (.tmp 40)),ji 42 (.load (.ar 32 L8) (.tmp 4))]),(ji 46 (.qA (.tmp 35)),[]),(ji 47 (.fx Sb (.tmp 46) 8),[]),(⟨none,.store .ref (.tmp 47) (.tmp 45),none⟩,[])]) (.seq (.seq (.region true [jv 48 0,ji 49 (.qA (.tmp 48)),ji 50 (.fx Sb (.tmp 49) 1),ji 51 (.load cN (.tmp 50)),jv 52 0,jv 53 8,ji 54 (.call 52 [.tmp 52,.tmp 53]),ji 55 (.load (.ar 32 L8) (.tmp 4)),jv 56 2,ji 57 (.call 76 [.tmp 54,.tmp 55,.tmp 56]),ji 58 (.call 75 [.tmp 51,.tmp 57]),ji 59 (.len (.tmp 58)),ji 60 (.mv (.const (it 0)))]) (.block 1 (.loop (.seq (.region false [ji 61 (.bin .lss (.tmp 60) (.tmp 59))]) (.seq (.cond (.tmp 61) .skip (.exit 1)) (.seq (.block 2 (.seq (.region false [jv 62 60,ji 63 (.js LI (.tmp 58) (.tmp 60)),ji 64 (.load LI (.tmp 63)),jv 9 62,jv 10 64]) (.region false [jv 65 0,ji 66 (.qA (.tmp 65)),ji 67 (.fx Sb (.tmp 66) 7),ji 68 (.load .ref (.tmp 67)),jv 69 8,jv 70 9,ji 71 (.build S15 [(.raw (u32 0#32)),(.raw (it 0))] [(0,.tmp 69),(1,.tmp 70)]),jv 72 10,⟨none,.je S15 LI (.tmp 68) (.tmp 71) (.tmp 72),none⟩]))) (.region false [ji 73 (.bin .add (.tmp 60) (.const (it 1))),jv 60 73]))))))) (.seq (.region false [jv 74 0,jv 75 8,ji 76 (.load (.ar 32 L8) (.tmp 4)),jv 77 2,ji 78 (.call 77 [.tmp 74,.tmp 75,.tmp 76,.tmp 77]),ji 79 (.ext (.tmp 78) 0),ji 80 (.ext (.tmp 78) 1),jv 6 79,jv 7 80]) .ret))))))))
def gf:List aN:=[(.tmp 6),(.tmp 7)]
theorem B0:MT 28 3 gf fZ:=mM Go.Proofs.Tryz.func28 (by kernel_rfl) (by kernel_rfl) (by kernel_rfl)
noncomputable def B2:aj:=(⟨_,by conv=>lhs;reduce;simp only[cr,simprocAttr,-List.reduceReplicate]⟩:CO 29).1
def B4:List aN:=[(.tmp 2)]
theorem Nw:MT 29 1 B4 B2:=mM Go.Proofs.Tryz.func29 (by kernel_rfl) (by kernel_rfl) (by kernel_rfl)
noncomputable def jR:aj:=(⟨_,by conv=>lhs;reduce;simp only[cr,simprocAttr,-List.reduceReplicate]⟩:CO 30).1
def jS:List aN:=[(.cell 2 S7)]
theorem Nx:MT 30 1 jS jR:=mM Go.Proofs.Tryz.func30 (by kernel_rfl) (by kernel_rfl) (by kernel_rfl)
noncomputable def cB:aj:=(⟨_,by conv=>lhs;reduce;simp only[cr,simprocAttr,-List.reduceReplicate]⟩:CO 32).1
def j6:List aN:=[(.cell 4 S7)]
theorem GA:MT 32 2 j6 cB:=mM Go.Proofs.Tryz.func32 (by kernel_rfl) (by kernel_rfl) (by kernel_rfl)
noncomputable def cZ:aj:=(⟨_,by conv=>lhs;reduce;simp only[cr,simprocAttr,-List.reduceReplicate]⟩:CO 37).1
def df:List aN:=[(.cell 4 S7)]
theorem GB:MT 37 2 df cZ:=mM Go.Proofs.Tryz.func37 (by kernel_rfl) (by kernel_rfl) (by kernel_rfl)
noncomputable def lW:aj:=(⟨_,by conv=>lhs;reduce;simp only[cr,simprocAttr,-List.reduceReplicate]⟩:CO 38).1
def lX:List aN:=[(.cell 6 S3),(.cell 7 S6)]
theorem Eu:MT 38 3 lX lW:=mM Go.Proofs.Tryz.func38 (by kernel_rfl) (by kernel_rfl) (by kernel_rfl)
noncomputable def dA:aj:=(⟨_,by conv=>lhs;reduce;simp only[cr,simprocAttr,-List.reduceReplicate]⟩:CO 39).1
def dB:List aN:=[(.tmp 4),(.tmp 5)]
theorem xJ:MT 39 2 dB dA:=mM Go.Proofs.Tryz.func39 (by kernel_rfl) (by kernel_rfl) (by kernel_rfl)
def FM:aj:=(.seq (.region false [ji 2 (.alloc S5 (.agg S5 [(.raw (u8 0#8)),(.raw (u8 0#8)),(.raw (u8 0#8)),(.raw (u8 0#8)),(.raw (u32 0#32)),(.raw (u16 0#16))])),ji 3 (.mv (.const (.bool false)))]) (.seq (.seq (.region false [jv 11 0,ji 12 (.call 97 [.tmp 11]),jv 4 12]) (.seq (.region false [jv 13 4,ji 14 (.bin .neq (.tmp 13) (.const (u8 0#8)))]) (.cond (.tmp 14) (.seq (.region false [jv 15 4,ji 16 (.build S5 [(.raw (u8 0#8)),(.raw (u8 0#8)),(.raw (u8 0#8)),(.raw (u8 0#8)),(.raw (u32 0#32)),(.raw (u16 0#16))] [(0,.tmp 15)]),⟨none,.store S5 (.tmp 2) (.tmp 16),none⟩,ji 3 (.mv (.const (.bool true)))]) .ret) .skip))) (.seq (.region false [jv 17 0,ji 18 (.call 98 [.tmp 17]),ji 5 (.alloc sM (.agg sM [(.raw (u32 0#32)),(.raw (u32 0#32)),(.raw (u32 0#32))])),⟨none,.store sM (.tmp 5) (.tmp 18),none⟩]) (.seq (.U2 [ji 20 (.load sM (.tmp 5))] [ji 20 (.load sM (.tmp 5))] [(ji 19 (.call 99 []),[ji 21 (.Gm sM L8 false (.raw (u8 0#8)) (.tmp 19) (.tmp 20)),jv 6 21],[ji 20 (.load sM (.tmp 5)),ji 21 (.Gm sM L8 false (.raw (u8 0#8)) (.tmp 19) (.tmp 20)),jv 6 21])]) (.seq (.seq (.region false [jv 22 6,ji 23 (.bin .eql (.tmp 22) (.const (u8 0#8)))]) (.cond (.tmp 23) (.seq (.region false [ji 24 (.build S5 [(.raw (u8 0#8)),(.raw (u8 0#8)),(.raw (u8 0#8)),(.raw (u8 0#8)),(.raw (u32 0#32)),(.raw (u16 0#16))] []),⟨none,.store S5 (.tmp 2) (.tmp 24),none⟩,ji 3 (.mv (.const (.bool false)))]) .ret) .skip)) (.seq (.region false [jv 25 0,ji 26 (.call 100 [.tmp 25,.const (it 7),.const (it 5)]),ji 27 (.conv .u8 (.tmp 26)),jv 28 0,ji 29 (.call 100 [.tmp 28,.const (it 15),.const (it 5)]),ji 30 (.conv .u8 (.tmp 29)),jv 31 0,ji 32 (.call 100 [.tmp 31,.const (it 20),.const (it 5)]),ji 33 (.conv .u8 (.tmp 32)),jv 7 27,jv 8 30,jv 9 33]) (.seq (.seq (.region false [ji 34 (.fx sM (.tmp 5) 0),ji 35 (.load cN (.tmp 34))]) (.block 0 (.seq (.seq (.region false [ji 37 (.bin .eql (.tmp 35) (.const (u32 55#32))),jv 36 37]) (.cond (.tmp 36) .skip (.region false [ji 38 (.bin .eql (.tmp 35) (.const (u32 23#32))),jv 36 38]))) (.cond (.tmp 36) (.seq (.region false [jv 39 6,jv 40 7,jv 41 0,ji 42 (.bin .andNot (.tmp 41) (.const (u32 4095#32))),ji 43 (.build S5 [(.raw (u8 0#8)),(.raw (u8 0#8)),(.raw (u8 0#8)),(.raw (u8 0#8)),(.raw (u32 0#32)),(.raw (u16 0#16))] [(0,.tmp 39),(1,.tmp 40),(4,.tmp 42)]),⟨none,.store S5 (.tmp 2) (.tmp 43),none⟩,ji 3 (.mv (.const (.bool true)))]) .ret) (.seq (.region false [ji 45 (.bin .eql (.tmp 35) (.const (u32 111#32))),jv 44 45]) (.cond (.tmp 44) (.seq (.region false [jv 46 6,jv 47 7,jv 48 0,ji 49 (.call 101 [.tmp 48]),ji 50 (.build S5 [(.raw (u8 0#8)),(.raw (u8 0#8)),(.raw (u8 0#8)),(.raw (u8 0#8)),(.raw (u32 0#32)),(.raw (u16 0#16))] [(0,.tmp 46),(1,.tmp 47),(4,.tmp 49)]),⟨none,.store S5 (.tmp 2) (.tmp 50),none⟩,ji 3 (.mv (.const (.bool true)))]) .ret) (.seq (.region false [ji 52 (.bin .eql (.tmp 35) (.const (u32 99#32))),jv 51 52]) (.cond (.tmp 51) (.seq (.region false [jv 53 6,jv 54 8,jv 55 9,jv 56 0,ji 57 (.call 102 [.tmp 56]),ji 58 (.build S5 [(.raw (u8 0#8)),(.raw (u8 0#8)),(.raw (u8 0#8)),(.raw (u8 0#8)),(.raw (u32 0#32)),(.raw (u16 0#16))] [(0,.tmp 53),(2,.tmp 54),(3,.tmp 55),(4,.tmp 57)]),⟨none,.store S5 (.tmp 2) (.tmp 58),none⟩,ji 3 (.mv (.const (.bool true)))]) .ret) (.seq (.region false [ji 60 (.bin .eql (.tmp 35) (.const (u32 35#32))),jv 59 60]) (.cond (.tmp 59) (.seq (.region false [jv 61 6,jv 62 8,jv 63 9,jv 64 0,ji 65 (.call 103 [.tmp 64]),ji 66 (.build S5 [(.raw (u8 0#8)),(.raw (u8 0#8)),(.raw (u8 0#8)),(.raw (u8 0#8)),(.raw (u32 0#32)),(.raw (u16 0#16))] [(0,.tmp 61),(2,.tmp 62),(3,.tmp 63),(4,.tmp 65)]),⟨none,.store S5 (.tmp 2) (.tmp 66),none⟩,ji 3 (.mv (.const (.bool true)))]) .ret) (.seq (.region false [ji 68 (.bin .eql (.tmp 35) (.const (u32 51#32))),jv 67 68]) (.cond (.tmp 67) (.seq (.region false [jv 69 6,jv 70 7,jv 71 8,jv 72 9,ji 73 (.build S5 [(.raw (u8 0#8)),(.raw (u8 0#8)),(.raw (u8 0#8)),(.raw (u8 0#8)),(.raw (u32 0#32)),(.raw (u16 0#16))] [(0,.tmp 69),(1,.tmp 70),(2,.tmp 71),(3,.tmp 72)]),⟨none,.store S5 (.tmp 2) (.tmp 73),none⟩,ji 3 (.mv (.const (.bool true)))]) .ret) (.seq (.region false [ji 75 (.bin .eql (.tmp 35) (.const (u32 15#32))),jv 74 75]) (.cond (.tmp 74) (.seq (.region false [jv 76 6,ji 77 (.build S5 [(.raw (u8 0#8)),(.raw (u8 0#8)),(.raw (u8 0#8)),(.raw (u8 0#8)),(.raw (u32 0#32)),(.raw (u16 0#16))] [(0,.tmp 76)]),⟨none,.store S5 (.tmp 2) (.tmp 77),none⟩,ji 3 (.mv (.const (.bool true)))]) .ret) (.seq (.region false [ji 79 (.bin .eql (.tmp 35) (.const (u32 115#32))),jv 78 79]) (.cond (.tmp 78) (.seq (.region false [jv 80 6,jv 81 7,jv 82 8,jv 83 0,ji 84 (.bin .shr (.tmp 83) (.const (u64 20#64))),ji 85 (.conv .u16 (.tmp 84)),ji 86 (.build S5 [(.raw (u8 0#8)),(.raw (u8 0#8)),(.raw (u8 0#8)),(.raw (u8 0#8)),(.raw (u32 0#32)),(.raw (u16 0#16))] [(0,.tmp 80),(1,.tmp 81),(2,.tmp 82),(5,.tmp 85)]),ji 10 (.alloc S5 (.agg S5 [(.raw (u8 0#8)),(.raw (u8 0#8)),(.raw (u8 0#8)),(.raw (u8 0#8)),(.raw (u32 0#32)),(.raw (u16 0#16))])),⟨none,.store S5 (.tmp 10) (.tmp 86),none⟩]) (.seq (.seq (.region false [jv 87 6,ji 88 (.bin .geq (.tmp 87) (.const (u8 46#8)))]) (.cond (.tmp 88) (.region false [jv 89 8,ji 90 (.conv .u32 (.tmp 89)),ji 91 (.fx S5 (.tmp 10) 2),⟨none,.store L8 (.tmp 91) (.const (u8 0#8)),none⟩,ji 92 (.fx S5 (.tmp 10) 4),⟨none,.store cN (.tmp 92) (.tmp 90),none⟩]) .skip)) (.seq (.region false [ji 93 (.load S5 (.tmp 10)),⟨none,.store S5 (.tmp 2) (.tmp 93),none⟩,ji 3 (.mv (.const (.bool true)))]) .ret))) .skip)))))))))))))))) (.seq (.seq (.region false [jv 94 6,ji 95 (.bin .eql (.tmp 94) (.const (u8 25#8))),jv 96 95,⟨some 97,.mv (.tmp 6),some (96,false)⟩,⟨some 98,.bin .eql (.tmp 97) (.const (u8 26#8)),some (96,false)⟩,ji 99 (.pick (.tmp 96) (.const (.bool true)) (.tmp 98)),jv 100 99,⟨some 101,.mv (.tmp 6),some (100,false)⟩,⟨some 102,.bin .eql (.tmp 101) (.const (u8 27#8)),some (100,false)⟩,ji 103 (.pick (.tmp 100) (.const (.bool true)) (.tmp 102))]) (.cond (.tmp 103) (.seq (.region false [jv 104 6,jv 105 7,jv 106 8,jv 107 9,ji 108 (.conv .u32 (.tmp 107)),ji 109 (.build S5 [(.raw (u8 0#8)),(.raw (u8 0#8)),(.raw (u8 0#8)),(.raw (u8 0#8)),(.raw (u32 0#32)),(.raw (u16 0#16))] [(0,.tmp 104),(1,.tmp 105),(2,.tmp 106),(4,.tmp 108)]),⟨none,.store S5 (.tmp 2) (.tmp 109),none⟩,ji 3 (.mv (.const (.bool true)))]) .ret) .skip)) (.seq (.region false [jv 110 6,jv 111 7,jv 112 8,jv 113 0,ji 114 (.call 104 [.tmp 113]),ji 115 (.build S5 [(.raw (u8 0#8)),(.raw (u8 0#8)),(.raw (u8 0#8)),(.raw (u8 0#8)),(.raw (u32 0#32)),(.raw (u16 0#16))] [(0,.tmp 110),(1,.tmp 111),(2,.tmp 112),(4,.tmp 114)]),⟨none,.store S5 (.tmp 2) (.tmp 115),none⟩,ji 3 (.mv (.const (.bool true)))]) .ret)))))))))
def FN:List aN:=[(.cell 2 S5),(.tmp 3)]
theorem P8:MT 40 1 FN FM:=mM Go.Proofs.Tryz.func40 (by kernel_rfl) (by kernel_rfl) (by kernel_rfl)
noncomputable def fN:aj:=(⟨_,by conv=>lhs;reduce;simp only[cr,simprocAttr,-List.reduceReplicate]⟩:CO 41).1
def fO:List aN:=[(.cell 8 S3),(.cell 9 S6)]
theorem Ip:MT 41 4 fO fN:=mM Go.Proofs.Tryz.func41 (by kernel_rfl) (by kernel_rfl) (by kernel_rfl)
noncomputable def iw:aj:=(⟨_,by conv=>lhs;reduce;simp only[cr,simprocAttr,-List.reduceReplicate]⟩:CO 42).1
def ix:List aN:=[(.tmp 2)]
theorem GC:MT 42 1 ix iw:=mM Go.Proofs.Tryz.func42 (by kernel_rfl) (by kernel_rfl) (by kernel_rfl)
noncomputable def B5:aj:=(⟨_,by conv=>lhs;reduce;simp only[cr,simprocAttr,-List.reduceReplicate]⟩:CO 43).1
def B6:List aN:=[(.tmp 2)]
theorem Ny:MT 43 1 B6 B5:=mM Go.Proofs.Tryz.func43 (by kernel_rfl) (by kernel_rfl) (by kernel_rfl)
noncomputable def uk:aj:=(⟨_,by conv=>lhs;reduce;simp only[cr,simprocAttr,-List.reduceReplicate]⟩:CO 44).1
def um:List aN:=[(.tmp 8)]
theorem XI:MT 44 4 um uk:=mM Go.Proofs.Tryz.func44 (by kernel_rfl) (by kernel_rfl) (by kernel_rfl)
noncomputable def pH:aj:=(⟨_,by conv=>lhs;reduce;simp only[cr,simprocAttr,-List.reduceReplicate]⟩:CO 45).1
def pI:List aN:=[(.tmp 8)]
theorem P9:MT 45 4 pI pH:=mM Go.Proofs.Tryz.func45 (by kernel_rfl) (by kernel_rfl) (by kernel_rfl)
noncomputable def oP:aj:=(⟨_,by conv=>lhs;reduce;simp only[cr,simprocAttr,-List.reduceReplicate]⟩:CO 46).1
def oQ:List aN:=[(.tmp 0)]
theorem Tf:MT 46 0 oQ oP:=mM Go.Proofs.Tryz.func46 (by kernel_rfl) (by kernel_rfl) (by kernel_rfl)
noncomputable def cC:aj:=(⟨_,by conv=>lhs;reduce;simp only[cr,simprocAttr,-List.reduceReplicate]⟩:CO 47).1
def j7:List aN:=[(.tmp 6)]
theorem GD:MT 47 3 j7 cC:=mM Go.Proofs.Tryz.func47 (by kernel_rfl) (by kernel_rfl) (by kernel_rfl)
noncomputable def B7:aj:=(⟨_,by conv=>lhs;reduce;simp only[cr,simprocAttr,-List.reduceReplicate]⟩:CO 48).1
def B8:List aN:=[(.tmp 2),(.tmp 3)]
theorem Nz:MT 48 1 B8 B7:=mM Go.Proofs.Tryz.func48 (by kernel_rfl) (by kernel_rfl) (by kernel_rfl)
noncomputable def B9:aj:=(⟨_,by conv=>lhs;reduce;simp only[cr,simprocAttr,-List.reduceReplicate]⟩:CO 49).1
def Ca:List aN:=[(.cell 2 vG),(.tmp 3)]
theorem NA:MT 49 1 Ca B9:=mM Go.Proofs.Tryz.func49 (by kernel_rfl) (by kernel_rfl) (by kernel_rfl)
noncomputable def qs:aj:=(⟨_,by conv=>lhs;reduce;simp only[cr,simprocAttr,-List.reduceReplicate]⟩:CO 50).1
def qt:List aN:=[(.tmp 2)]
theorem zB:MT 50 1 qt qs:=mM Go.Proofs.Tryz.func50 (by kernel_rfl) (by kernel_rfl) (by kernel_rfl)
noncomputable def vH:aj:=(⟨_,by conv=>lhs;reduce;simp only[cr,simprocAttr,-List.reduceReplicate]⟩:CO 51).1
def vI:List aN:=[(.cell 6 (.ar 32 L8)),(.tmp 7)]
theorem NB:MT 51 3 vI vH:=mM Go.Proofs.Tryz.func51 (by kernel_rfl) (by kernel_rfl) (by kernel_rfl)
noncomputable def s3:aj:=(⟨_,by conv=>lhs;reduce;simp only[cr,simprocAttr,-List.reduceReplicate]⟩:CO 52).1
def s5:List aN:=[(.cell 4 S27)]
theorem Cb:MT 52 2 s5 s3:=mM Go.Proofs.Tryz.func52 (by kernel_rfl) (by kernel_rfl) (by kernel_rfl)
noncomputable def Iq:aj:=(⟨_,by conv=>lhs;reduce;simp only[cr,simprocAttr,-List.reduceReplicate]⟩:CO 53).1
def Ir:List aN:=[(.cell 6 (.ar 32 L8))]
theorem Tg:MT 53 3 Ir Iq:=mM Go.Proofs.Tryz.func53 (by kernel_rfl) (by kernel_rfl) (by kernel_rfl)
noncomputable def Is:aj:=(⟨_,by conv=>lhs;reduce;simp only[cr,simprocAttr,-List.reduceReplicate]⟩:CO 54).1
def It:List aN:=[(.cell 8 (.ar 32 L8))]
theorem Th:MT 54 4 It Is:=mM Go.Proofs.Tryz.func54 (by kernel_rfl) (by kernel_rfl) (by kernel_rfl)
noncomputable def xK:aj:=(⟨_,by conv=>lhs;reduce;simp only[cr,simprocAttr,-List.reduceReplicate]⟩:CO 55).1
def xL:List aN:=[(.tmp 4)]
theorem Iu:MT 55 2 xL xK:=mM Go.Proofs.Tryz.func55 (by kernel_rfl) (by kernel_rfl) (by kernel_rfl)
noncomputable def gz:aj:=(⟨_,by conv=>lhs;reduce;simp only[cr,simprocAttr,-List.reduceReplicate]⟩:CO 56).1
def gA:List aN:=[(.tmp 2),(.tmp 3)]
theorem Ti:MT 56 1 gA gz:=mM Go.Proofs.Tryz.func56 (by kernel_rfl) (by kernel_rfl) (by kernel_rfl)
noncomputable def pJ:aj:=(⟨_,by conv=>lhs;reduce;simp only[cr,simprocAttr,-List.reduceReplicate]⟩:CO 57).1
def pK:List aN:=[(.tmp 6)]
theorem xM:MT 57 3 pK pJ:=mM Go.Proofs.Tryz.func57 (by kernel_rfl) (by kernel_rfl) (by kernel_rfl)
noncomputable def xN:aj:=(⟨_,by conv=>lhs;reduce;simp only[cr,simprocAttr,-List.reduceReplicate]⟩:CO 58).1
def xO:List aN:=[(.tmp 4)]
theorem Iv:MT 58 2 xO xN:=mM Go.Proofs.Tryz.func58 (by kernel_rfl) (by kernel_rfl) (by kernel_rfl)
noncomputable def FO:aj:=(⟨_,by conv=>lhs;reduce;simp only[cr,simprocAttr,-List.reduceReplicate]⟩:CO 59).1
def FP:List aN:=[(.tmp 4)]
theorem Qa:MT 59 2 FP FO:=mM Go.Proofs.Tryz.func59 (by kernel_rfl) (by kernel_rfl) (by kernel_rfl)
noncomputable def zV:aj:=(⟨_,by conv=>lhs;reduce;simp only[cr,simprocAttr,-List.reduceReplicate]⟩:CO 60).1
def zW:List aN:=[(.cell 6 S11)]
theorem KN:MT 60 3 zW zV:=mM Go.Proofs.Tryz.func60 (by kernel_rfl) (by kernel_rfl) (by kernel_rfl)
noncomputable def mA:aj:=(⟨_,by conv=>lhs;reduce;simp only[cr,simprocAttr,-List.reduceReplicate]⟩:CO 61).1
def mB:List aN:=[(.tmp 2),(.tmp 3)]
theorem tK:MT 61 1 mB mA:=mM Go.Proofs.Tryz.func61 (by kernel_rfl) (by kernel_rfl) (by kernel_rfl)
noncomputable def uo:aj:=(⟨_,by conv=>lhs;reduce;simp only[cr,simprocAttr,-List.reduceReplicate]⟩:CO 62).1
def ur:List aN:=[(.tmp 6),(.tmp 7)]
theorem Ew:MT 62 3 ur uo:=mM Go.Proofs.Tryz.func62 (by kernel_rfl) (by kernel_rfl) (by kernel_rfl)
noncomputable def wk:aj:=(⟨_,by conv=>lhs;reduce;simp only[cr,simprocAttr,-List.reduceReplicate]⟩:CO 63).1
def wl:List aN:=[(.tmp 2)]
theorem GG:MT 63 1 wl wk:=mM Go.Proofs.Tryz.func63 (by kernel_rfl) (by kernel_rfl) (by kernel_rfl)
noncomputable def Cc:aj:=(⟨_,by conv=>lhs;reduce;simp only[cr,simprocAttr,-List.reduceReplicate]⟩:CO 64).1
def Cd:List aN:=[(.tmp 2)]
theorem NC:MT 64 1 Cd Cc:=mM Go.Proofs.Tryz.func64 (by kernel_rfl) (by kernel_rfl) (by kernel_rfl)
end Go.Am.F
namespace Go.Am.F
set_option maxRecDepth 100000
set_option maxHeartbeats 0
noncomputable def xP:aj:=(⟨_,by conv=>lhs;reduce;simp only[cr,simprocAttr,-List.reduceReplicate]⟩:CO 65).1
def xQ:List aN:=[(.tmp 2)]
theorem Iw:MT 65 1 xQ xP:=mM Go.Proofs.Tryz.func65 (by kernel_rfl) (by kernel_rfl) (by kernel_rfl)
noncomputable def wm:aj:=(⟨_,by conv=>lhs;reduce;simp only[cr,simprocAttr,-List.reduceReplicate]⟩:CO 66).1
def wq:List aN:=[(.tmp 6)]
theorem GH:MT 66 3 wq wm:=mM Go.Proofs.Tryz.func66 (by kernel_rfl) (by kernel_rfl) (by kernel_rfl)
noncomputable def Ix:aj:=(⟨_,by conv=>lhs;reduce;simp only[cr,simprocAttr,-List.reduceReplicate]⟩:CO 67).1
def Iy:List aN:=[(.tmp 2)]
theorem Tj:MT 67 1 Iy Ix:=mM Go.Proofs.Tryz.func67 (by kernel_rfl) (by kernel_rfl) (by kernel_rfl)
noncomputable def fP:aj:=(⟨_,by conv=>lhs;reduce;simp only[cr,simprocAttr,-List.reduceReplicate]⟩:CO 68).1
def fQ:List aN:=[(.tmp 6)]
theorem xR:MT 68 3 fQ fP:=mM Go.Proofs.Tryz.func68 (by kernel_rfl) (by kernel_rfl) (by kernel_rfl)
noncomputable def fD:aj:=(⟨_,by conv=>lhs;reduce;simp only[cr,simprocAttr,-List.reduceReplicate]⟩:CO 69).1
def fE:List aN:=[(.tmp 2)]
theorem AS:MT 69 1 fE fD:=mM Go.Proofs.Tryz.func69 (by kernel_rfl) (by kernel_rfl) (by kernel_rfl)
noncomputable def oR:aj:=(⟨_,by conv=>lhs;reduce;simp only[cr,simprocAttr,-List.reduceReplicate]⟩:CO 70).1
def oS:List aN:=[(.tmp 0)]
theorem Tl:MT 70 0 oS oR:=mM Go.Proofs.Tryz.func70 (by kernel_rfl) (by kernel_rfl) (by kernel_rfl)
noncomputable def uu:aj:=(⟨_,by conv=>lhs;reduce;simp only[cr,simprocAttr,-List.reduceReplicate]⟩:CO 71).1
def uv:List aN:=[(.tmp 2),(.tmp 3)]
theorem m_otp_Of:MT 71 1 uv uu:=mM Go.Proofs.Tryz.func71 (by kernel_rfl) (by kernel_rfl) (by kernel_rfl)
noncomputable def rC:aj:=(⟨_,by conv=>lhs;reduce;simp only[cr,simprocAttr,-List.reduceReplicate]⟩:CO 72).1
def rD:List aN:=[(.tmp 2)]
theorem AT:MT 72 1 rD rC:=mM Go.Proofs.Tryz.func72 (by kernel_rfl) (by kernel_rfl) (by kernel_rfl)
noncomputable def zX:aj:=(⟨_,by conv=>lhs;reduce;simp only[cr,simprocAttr,-List.reduceReplicate]⟩:CO 73).1
def zY:List aN:=[(.tmp 2)]
theorem KO:MT 73 1 zY zX:=mM Go.Proofs.Tryz.func73 (by kernel_rfl) (by kernel_rfl) (by kernel_rfl)
noncomputable def s6:aj:=(⟨_,by conv=>lhs;reduce;simp only[cr,simprocAttr,-List.reduceReplicate]⟩:CO 74).1
def s7:List aN:=[(.tmp 2)]
theorem Ce:MT 74 1 s7 s6:=mM Go.Proofs.Tryz.func74 (by kernel_rfl) (by kernel_rfl) (by kernel_rfl)
noncomputable def Cf:aj:=(⟨_,by conv=>lhs;reduce;simp only[cr,simprocAttr,-List.reduceReplicate]⟩:CO 75).1
def Cg:List aN:=[(.tmp 4)]
theorem ND:MT 75 2 Cg Cf:=mM Go.Proofs.Tryz.func75 (by kernel_rfl) (by kernel_rfl) (by kernel_rfl)
noncomputable def Iz:aj:=(⟨_,by conv=>lhs;reduce;simp only[cr,simprocAttr,-List.reduceReplicate]⟩:CO 76).1
def IA:List aN:=[(.cell 6 (.ar 32 L8))]
theorem Tm:MT 76 3 IA Iz:=mM Go.Proofs.Tryz.func76 (by kernel_rfl) (by kernel_rfl) (by kernel_rfl)
noncomputable def rE:aj:=(⟨_,by conv=>lhs;reduce;simp only[cr,simprocAttr,-List.reduceReplicate]⟩:CO 77).1
def rF:List aN:=[(.tmp 8),(.tmp 9)]
theorem AU:MT 77 4 rF rE:=mM Go.Proofs.Tryz.func77 (by kernel_rfl) (by kernel_rfl) (by kernel_rfl)
noncomputable def iL:aj:=(⟨_,by conv=>lhs;reduce;simp only[cr,simprocAttr,-List.reduceReplicate]⟩:CO 78).1
def iM:List aN:=[]
theorem Ci:MT 78 1 iM iL:=mM Go.Proofs.Tryz.func78 (by kernel_rfl) (by kernel_rfl) (by kernel_rfl)
noncomputable def gh:aj:=(⟨_,by conv=>lhs;reduce;simp only[cr,simprocAttr,-List.reduceReplicate]⟩:CO 79).1
def gj:List aN:=[(.tmp 4)]
theorem Cj:MT 79 2 gj gh:=mM Go.Proofs.Tryz.func79 (by kernel_rfl) (by kernel_rfl) (by kernel_rfl)
noncomputable def fR:aj:=(⟨_,by conv=>lhs;reduce;simp only[cr,simprocAttr,-List.reduceReplicate]⟩:CO 82).1
def fS:List aN:=[]
theorem IB:MT 82 1 fS fR:=mM Go.Proofs.Tryz.func82 (by kernel_rfl) (by kernel_rfl) (by kernel_rfl)
noncomputable def eD:aj:=(⟨_,by conv=>lhs;reduce;simp only[cr,simprocAttr,-List.reduceReplicate]⟩:CO 92).1
def eE:List aN:=[(.tmp 8),(.tmp 9)]
theorem zC:MT 92 4 eE eD:=mM Go.Proofs.Tryz.func92 (by kernel_rfl) (by kernel_rfl) (by kernel_rfl)
noncomputable def b9:aj:=(⟨_,by conv=>lhs;reduce;simp only[cr,simprocAttr,-List.reduceReplicate]⟩:CO 93).1
def ca:List aN:=[(.tmp 8)]
theorem xS:MT 93 4 ca b9:=mM Go.Proofs.Tryz.func93 (by kernel_rfl) (by kernel_rfl) (by kernel_rfl)
noncomputable def zZ:aj:=(⟨_,by conv=>lhs;reduce;simp only[cr,simprocAttr,-List.reduceReplicate]⟩:CO 96).1
def z8:List aN:=[(.tmp 2),(.tmp 3),(.tmp 4)]
theorem KP:MT 96 1 z8 zZ:=mM Go.Proofs.Tryz.func96 (by kernel_rfl) (by kernel_rfl) (by kernel_rfl)
noncomputable def vJ:aj:=(⟨_,by conv=>lhs;reduce;simp only[cr,simprocAttr,-List.reduceReplicate]⟩:CO 97).1
def vK:List aN:=[(.tmp 2)]
theorem Tn:MT 97 1 vK vJ:=mM Go.Proofs.Tryz.func97 (by kernel_rfl) (by kernel_rfl) (by kernel_rfl)
noncomputable def yY:aj:=(⟨_,by conv=>lhs;reduce;simp only[cr,simprocAttr,-List.reduceReplicate]⟩:CO 98).1
def yZ:List aN:=[(.cell 2 sM)]
theorem XJ:MT 98 1 yZ yY:=mM Go.Proofs.Tryz.func98 (by kernel_rfl) (by kernel_rfl) (by kernel_rfl)
def lI:aj:=(.seq (.region false [ji 0 (.mv (.const (.map none)))]) (.seq (.drawn [(ji 14 (.Zt sM L8),[]),(ji 15 (.build sM [(.raw (u32 0#32)),(.raw (u32 0#32)),(.raw (u32 0#32))] [(0,.const (u32 55#32)),(1,.const (u32 0#32)),(2,.const (u32 0#32))]),[]),(⟨none,.je sM L8 (.tmp 14) (.tmp 15) (.const (u8 1#8)),none⟩,[0,1]),(ji 16 (.build sM [(.raw (u32 0#32)),(.raw (u32 0#32)),(.raw (u32 0#32))] [(0,.const (u32 23#32)),(1,.const (u32 0#32)),(2,.const (u32 0#32))]),[]),(⟨none,.je sM L8 (.tmp 14) (.tmp 16) (.const (u8 2#8)),none⟩,[0,3]),(ji 17 (.build sM [(.raw (u32 0#32)),(.raw (u32 0#32)),(.raw (u32 0#32))] [(0,.const (u32 111#32)),(1,.const (u32 0#32)),(2,.const (u32 0#32))]),[]),(⟨none,.je sM L8 (.tmp 14) (.tmp 17) (.const (u8 3#8)),none⟩,[0,5]),(ji 18 (.build sM [(.raw (u32 0#32)),(.raw (u32 0#32)),(.raw (u32 0#32))] [(0,.const (u32 103#32)),(1,.const (u32 0#32)),(2,.const (u32 0#32))]),[]),(⟨none,.je sM L8 (.tmp 14) (.tmp 18) (.const (u8 4#8)),none⟩,[0,7]),(ji 19 (.build sM [(.raw (u32 0#32)),(.raw (u32 0#32)),(.raw (u32 0#32))] [(0,.const (u32 15#32)),(1,.const (u32 0#32)),(2,.const (u32 0#32))]),[]),(⟨none,.je sM L8 (.tmp 14) (.tmp 19) (.const (u8 38#8)),none⟩,[0,9]),(ji 20 (.build sM [(.raw (u32 0#32)),(.raw (u32 0#32)),(.raw (u32 0#32))] [(0,.const (u32 19#32)),(1,.const (u32 1#32)),(2,.const (u32 0#32))]),[]),(⟨none,.je sM L8 (.tmp 14) (.tmp 20) (.const (u8 25#8)),none⟩,[0,11]),(ji 21 (.build sM [(.raw (u32 0#32)),(.raw (u32 0#32)),(.raw (u32 0#32))] [(0,.const (u32 19#32)),(1,.const (u32 5#32)),(2,.const (u32 0#32))]),[]),(⟨none,.je sM L8 (.tmp 14) (.tmp 21) (.const (u8 26#8)),none⟩,[0,13]),(ji 22 (.build sM [(.raw (u32 0#32)),(.raw (u32 0#32)),(.raw (u32 0#32))] [(0,.const (u32 19#32)),(1,.const (u32 5#32)),(2,.const (u32 32#32))]),[]),(⟨none,.je sM L8 (.tmp 14) (.tmp 22) (.const (u8 27#8)),none⟩,[0,15]),(ji 23 (.build sM [(.raw (u32 0#32)),(.raw (u32 0#32)),(.raw (u32 0#32))] [(0,.const (u32 51#32)),(1,.const (u32 0#32)),(2,.const (u32 32#32))]),[]),(⟨none,.je sM L8 (.tmp 14) (.tmp 23) (.const (u8 29#8)),none⟩,[0,17]),(ji 24 (.build sM [(.raw (u32 0#32)),(.raw (u32 0#32)),(.raw (u32 0#32))] [(0,.const (u32 51#32)),(1,.const (u32 5#32)),(2,.const (u32 32#32))]),[]),(⟨none,.je sM L8 (.tmp 14) (.tmp 24) (.const (u8 35#8)),none⟩,[0,19]),(jv 25 14,[0,1,2,3,4,5,6,7,8,9,10,11,12,13,14,15,16,17,18,19,20]),(jv 1 25,[21,0,1,2,3,4,5,6,7,8,9,10,11,12,13,14,15,16,17,18,19,20,21])]) (.seq (.seq (.region false [ji 26 (.fw L8 8 (.raw (u8 0#8)) [(0,.const (u8 5#8)),(1,.const (u8 6#8)),(2,.const (u8 0#8)),(3,.const (u8 0#8)),(4,.const (u8 7#8)),(5,.const (u8 8#8)),(6,.const (u8 9#8)),(7,.const (u8 10#8))]),ji 27 (.len (.tmp 26)),ji 28 (.mv (.const (it 0)))]) (.block 0 (.loop (.seq (.region false [ji 29 (.bin .lss (.tmp 28) (.tmp 27))]) (.seq (.cond (.tmp 29) .skip (.exit 0)) (.seq (.block 1 (.seq (.region false [jv 30 28,ji 31 (.js L8 (.tmp 26) (.tmp 28)),ji 32 (.load L8 (.tmp 31)),jv 2 30,jv 3 32]) (.region false [jv 33 1,jv 34 2,ji 35 (.conv .u32 (.tmp 34)),ji 36 (.build sM [(.raw (u32 0#32)),(.raw (u32 0#32)),(.raw (u32 0#32))] [(0,.const (u32 99#32)),(1,.tmp 35),(2,.const (u32 0#32))]),jv 37 3,⟨none,.je sM L8 (.tmp 33) (.tmp 36) (.tmp 37),none⟩]))) (.region false [ji 38 (.bin .add (.tmp 28) (.const (it 1))),jv 28 38]))))))) (.seq (.seq (.region false [ji 39 (.fw L8 6 (.raw (u8 0#8)) [(0,.const (u8 11#8)),(1,.const (u8 12#8)),(2,.const (u8 13#8)),(3,.const (u8 0#8)),(4,.const (u8 14#8)),(5,.const (u8 15#8))]),ji 40 (.len (.tmp 39)),ji 41 (.mv (.const (it 0)))]) (.block 2 (.loop (.seq (.region false [ji 42 (.bin .lss (.tmp 41) (.tmp 40))]) (.seq (.cond (.tmp 42) .skip (.exit 2)) (.seq (.block 3 (.seq (.region false [jv 43 41,ji 44 (.js L8 (.tmp 39) (.tmp 41)),ji 45 (.load L8 (.tmp 44)),jv 4 43,jv 5 45]) (.region false [jv 46 1,jv 47 4,ji 48 (.conv .u32 (.tmp 47)),ji 49 (.build sM [(.raw (u32 0#32)),(.raw (u32 0#32)),(.raw (u32 0#32))] [(0,.const (u32 3#32)),(1,.tmp 48),(2,.const (u32 0#32))]),jv 50 5,⟨none,.je sM L8 (.tmp 46) (.tmp 49) (.tmp 50),none⟩]))) (.region false [ji 51 (.bin .add (.tmp 41) (.const (it 1))),jv 41 51]))))))) (.seq (.seq (.region false [ji 52 (.fw L8 3 (.raw (u8 0#8)) [(0,.const (u8 16#8)),(1,.const (u8 17#8)),(2,.const (u8 18#8))]),ji 53 (.len (.tmp 52)),ji 54 (.mv (.const (it 0)))]) (.block 4 (.loop (.seq (.region false [ji 55 (.bin .lss (.tmp 54) (.tmp 53))]) (.seq (.cond (.tmp 55) .skip (.exit 4)) (.seq (.block 5 (.seq (.region false [jv 56 54,ji 57 (.js L8 (.tmp 52) (.tmp 54)),ji 58 (.load L8 (.tmp 57)),jv 6 56,jv 7 58]) (.region false [jv 59 1,jv 60 6,ji 61 (.conv .u32 (.tmp 60)),ji 62 (.build sM [(.raw (u32 0#32)),(.raw (u32 0#32)),(.raw (u32 0#32))] [(0,.const (u32 35#32)),(1,.tmp 61),(2,.const (u32 0#32))]),jv 63 7,⟨none,.je sM L8 (.tmp 59) (.tmp 62) (.tmp 63),none⟩]))) (.region false [ji 64 (.bin .add (.tmp 54) (.const (it 1))),jv 54 64]))))))) (.seq (.seq (.region false [ji 65 (.fw L8 8 (.raw (u8 0#8)) [(0,.const (u8 19#8)),(1,.const (u8 0#8)),(2,.const (u8 20#8)),(3,.const (u8 21#8)),(4,.const (u8 22#8)),(5,.const (u8 0#8)),(6,.const (u8 23#8)),(7,.const (u8 24#8))]),ji 66 (.len (.tmp 65)),ji 67 (.mv (.const (it 0)))]) (.block 6 (.loop (.seq (.region false [ji 68 (.bin .lss (.tmp 67) (.tmp 66))]) (.seq (.cond (.tmp 68) .skip (.exit 6)) (.seq (.block 7 (.seq (.region false [jv 69 67,ji 70 (.js L8 (.tmp 65) (.tmp 67)),ji 71 (.load L8 (.tmp 70)),jv 8 69,jv 9 71]) (.seq (.region false [jv 72 9,ji 73 (.bin .neq (.tmp 72) (.const (u8 0#8)))]) (.cond (.tmp 73) (.region false [jv 74 1,jv 75 8,ji 76 (.conv .u32 (.tmp 75)),ji 77 (.build sM [(.raw (u32 0#32)),(.raw (u32 0#32)),(.raw (u32 0#32))] [(0,.const (u32 19#32)),(1,.tmp 76),(2,.const (u32 0#32))]),jv 78 9,⟨none,.je sM L8 (.tmp 74) (.tmp 77) (.tmp 78),none⟩]) .skip)))) (.region false [ji 79 (.bin .add (.tmp 67) (.const (it 1))),jv 67 79]))))))) (.seq (.seq (.region false [ji 80 (.fw L8 8 (.raw (u8 0#8)) [(0,.const (u8 28#8)),(1,.const (u8 30#8)),(2,.const (u8 31#8)),(3,.const (u8 32#8)),(4,.const (u8 33#8)),(5,.const (u8 34#8)),(6,.const (u8 36#8)),(7,.const (u8 37#8))]),ji 81 (.len (.tmp 80)),ji 82 (.mv (.const (it 0)))]) (.block 8 (.loop (.seq (.region false [ji 83 (.bin .lss (.tmp 82) (.tmp 81))]) (.seq (.cond (.tmp 83) .skip (.exit 8)) (.seq (.block 9 (.seq (.region false [jv 84 82,ji 85 (.js L8 (.tmp 80) (.tmp 82)),ji 86 (.load L8 (.tmp 85)),jv 10 84,jv 11 86]) (.seq (.region false [jv 87 1,jv 88 10,ji 89 (.conv .u32 (.tmp 88)),ji 90 (.build sM [(.raw (u32 0#32)),(.raw (u32 0#32)),(.raw (u32 0#32))] [(0,.const (u32 51#32)),(1,.tmp 89),(2,.const (u32 0#32))]),jv 91 11,⟨none,.je sM L8 (.tmp 87) (.tmp 90) (.tmp 91),none⟩]) (.region false [jv 92 1,jv 93 10,ji 94 (.conv .u32 (.tmp 93)),ji 95 (.build sM [(.raw (u32 0#32)),(.raw (u32 0#32)),(.raw (u32 0#32))] [(0,.const (u32 51#32)),(1,.tmp 94),(2,.const (u32 1#32))]),jv 96 10,ji 97 (.conv .u8 (.tmp 96)),ji 98 (.bin .add (.const (u8 49#8)) (.tmp 97)),⟨none,.je sM L8 (.tmp 92) (.tmp 95) (.tmp 98),none⟩])))) (.region false [ji 99 (.bin .add (.tmp 82) (.const (it 1))),jv 82 99]))))))) (.seq (.seq (.region false [ji 100 (.fw L8 8 (.raw (u8 0#8)) [(0,.const (u8 0#8)),(1,.const (u8 43#8)),(2,.const (u8 44#8)),(3,.const (u8 45#8)),(4,.const (u8 0#8)),(5,.const (u8 46#8)),(6,.const (u8 47#8)),(7,.const (u8 48#8))]),ji 101 (.len (.tmp 100)),ji 102 (.mv (.const (it 0)))]) (.block 10 (.loop (.seq (.region false [ji 103 (.bin .lss (.tmp 102) (.tmp 101))]) (.seq (.cond (.tmp 103) .skip (.exit 10)) (.seq (.block 11 (.seq (.region false [jv 104 102,ji 105 (.js L8 (.tmp 100) (.tmp 102)),ji 106 (.load L8 (.tmp 105)),jv 12 104,jv 13 106]) (.region false [jv 107 1,jv 108 12,ji 109 (.conv .u32 (.tmp 108)),ji 110 (.build sM [(.raw (u32 0#32)),(.raw (u32 0#32)),(.raw (u32 0#32))] [(0,.const (u32 115#32)),(1,.tmp 109),(2,.const (u32 0#32))]),jv 111 13,⟨none,.je sM L8 (.tmp 107) (.tmp 110) (.tmp 111),none⟩]))) (.region false [ji 112 (.bin .add (.tmp 102) (.const (it 1))),jv 102 112]))))))) (.seq (.region false [jv 113 1,jv 0 113]) .ret)))))))))
def s9:List aN:=[(.tmp 0)]
theorem Qb:MT 99 0 s9 lI:=mM Go.Proofs.Tryz.func99 (by kernel_rfl) (by kernel_rfl) (by kernel_rfl)
noncomputable def m9:aj:=(⟨_,by conv=>lhs;reduce;simp only[cr,simprocAttr,-List.reduceReplicate]⟩:CO 100).1
def nc:List aN:=[(.tmp 6)]
theorem XK:MT 100 3 nc m9:=mM Go.Proofs.Tryz.func100 (by kernel_rfl) (by kernel_rfl) (by kernel_rfl)
noncomputable def y7:aj:=(⟨_,by conv=>lhs;reduce;simp only[cr,simprocAttr,-List.reduceReplicate]⟩:CO 101).1
def y8:List aN:=[(.tmp 2)]
theorem XL:MT 101 1 y8 y7:=mM Go.Proofs.Tryz.func101 (by kernel_rfl) (by kernel_rfl) (by kernel_rfl)
noncomputable def y9:aj:=(⟨_,by conv=>lhs;reduce;simp only[cr,simprocAttr,-List.reduceReplicate]⟩:CO 103).1
def za:List aN:=[(.tmp 2)]
theorem XM:MT 103 1 za y9:=mM Go.Proofs.Tryz.func103 (by kernel_rfl) (by kernel_rfl) (by kernel_rfl)
noncomputable def zb:aj:=(⟨_,by conv=>lhs;reduce;simp only[cr,simprocAttr,-List.reduceReplicate]⟩:CO 104).1
def zc:List aN:=[(.tmp 2)]
theorem XN:MT 104 1 zc zb:=mM Go.Proofs.Tryz.func104 (by kernel_rfl) (by kernel_rfl) (by kernel_rfl)
noncomputable def uw:aj:=(⟨_,by conv=>lhs;reduce;simp only[cr,simprocAttr,-List.reduceReplicate]⟩:CO 105).1
def ux:List aN:=[(.cell 6 S3)]
theorem Ey:MT 105 3 ux uw:=mM Go.Proofs.Tryz.func105 (by kernel_rfl) (by kernel_rfl) (by kernel_rfl)
noncomputable def uy:aj:=(⟨_,by conv=>lhs;reduce;simp only[cr,simprocAttr,-List.reduceReplicate]⟩:CO 106).1
def uz:List aN:=[(.cell 4 S3),(.cell 5 S6)]
theorem Ez:MT 106 2 uz uy:=mM Go.Proofs.Tryz.func106 (by kernel_rfl) (by kernel_rfl) (by kernel_rfl)
noncomputable def uA:aj:=(⟨_,by conv=>lhs;reduce;simp only[cr,simprocAttr,-List.reduceReplicate]⟩:CO 107).1
def uB:List aN:=[(.cell 6 S3),(.cell 7 S6)]
theorem EA:MT 107 3 uB uA:=mM Go.Proofs.Tryz.func107 (by kernel_rfl) (by kernel_rfl) (by kernel_rfl)
noncomputable def iN:aj:=(⟨_,by conv=>lhs;reduce;simp only[cr,simprocAttr,-List.reduceReplicate]⟩:CO 110).1
def iO:List aN:=[(.cell 6 S3),(.cell 7 S6)]
theorem Ck:MT 110 3 iO iN:=mM Go.Proofs.Tryz.func110 (by kernel_rfl) (by kernel_rfl) (by kernel_rfl)
noncomputable def xT:aj:=(⟨_,by conv=>lhs;reduce;simp only[cr,simprocAttr,-List.reduceReplicate]⟩:CO 113).1
def xU:List aN:=[(.tmp 6),(.tmp 7)]
theorem m_rv_Alu:MT 113 3 xU xT:=mM Go.Proofs.Tryz.func113 (by kernel_rfl) (by kernel_rfl) (by kernel_rfl)
noncomputable def z9:aj:=(⟨_,by conv=>lhs;reduce;simp only[cr,simprocAttr,-List.reduceReplicate]⟩:CO 114).1
def Aa:List aN:=[(.tmp 2)]
theorem KQ:MT 114 1 Aa z9:=mM Go.Proofs.Tryz.func114 (by kernel_rfl) (by kernel_rfl) (by kernel_rfl)
noncomputable def FQ:aj:=(⟨_,by conv=>lhs;reduce;simp only[cr,simprocAttr,-List.reduceReplicate]⟩:CO 115).1
def FR:List aN:=[(.tmp 4)]
theorem Qc:MT 115 2 FR FQ:=mM Go.Proofs.Tryz.func115 (by kernel_rfl) (by kernel_rfl) (by kernel_rfl)
noncomputable def pL:aj:=(⟨_,by conv=>lhs;reduce;simp only[cr,simprocAttr,-List.reduceReplicate]⟩:CO 116).1
def pM:List aN:=[(.tmp 4),(.tmp 5)]
theorem xV:MT 116 2 pM pL:=mM Go.Proofs.Tryz.func116 (by kernel_rfl) (by kernel_rfl) (by kernel_rfl)
noncomputable def cx:aj:=(⟨_,by conv=>lhs;reduce;simp only[cr,simprocAttr,-List.reduceReplicate]⟩:CO 117).1
def cz:List aN:=[(.tmp 4)]
theorem EB:MT 117 2 cz cx:=mM Go.Proofs.Tryz.func117 (by kernel_rfl) (by kernel_rfl) (by kernel_rfl)
noncomputable def FT:aj:=(⟨_,by conv=>lhs;reduce;simp only[cr,simprocAttr,-List.reduceReplicate]⟩:CO 118).1
def FU:List aN:=[(.cell 10 (.ar 32 L8))]
theorem Qd:MT 118 5 FU FT:=mM Go.Proofs.Tryz.func118 (by kernel_rfl) (by kernel_rfl) (by kernel_rfl)
noncomputable def wu:aj:=(⟨_,by conv=>lhs;reduce;simp only[cr,simprocAttr,-List.reduceReplicate]⟩:CO 119).1
def wv:List aN:=[(.tmp 2)]
theorem GI:MT 119 1 wv wu:=mM Go.Proofs.Tryz.func119 (by kernel_rfl) (by kernel_rfl) (by kernel_rfl)
noncomputable def Cl:aj:=(⟨_,by conv=>lhs;reduce;simp only[cr,simprocAttr,-List.reduceReplicate]⟩:CO 120).1
def Cm:List aN:=[(.cell 6 (.ar 32 L8))]
theorem NE:MT 120 3 Cm Cl:=mM Go.Proofs.Tryz.func120 (by kernel_rfl) (by kernel_rfl) (by kernel_rfl)
noncomputable def IC:aj:=(⟨_,by conv=>lhs;reduce;simp only[cr,simprocAttr,-List.reduceReplicate]⟩:CO 121).1
def ID:List aN:=[(.cell 4 (.ar 32 L8))]
theorem To:MT 121 2 ID IC:=mM Go.Proofs.Tryz.func121 (by kernel_rfl) (by kernel_rfl) (by kernel_rfl)
noncomputable def IE:aj:=(⟨_,by conv=>lhs;reduce;simp only[cr,simprocAttr,-List.reduceReplicate]⟩:CO 122).1
def IF:List aN:=[(.cell 8 (.ar 32 L8))]
theorem Tp:MT 122 4 IF IE:=mM Go.Proofs.Tryz.func122 (by kernel_rfl) (by kernel_rfl) (by kernel_rfl)
noncomputable def ww:aj:=(⟨_,by conv=>lhs;reduce;simp only[cr,simprocAttr,-List.reduceReplicate]⟩:CO 123).1
def wx:List aN:=[(.tmp 4),(.tmp 5)]
theorem GJ:MT 123 2 wx ww:=mM Go.Proofs.Tryz.func123 (by kernel_rfl) (by kernel_rfl) (by kernel_rfl)
noncomputable def LX:aj:=(⟨_,by conv=>lhs;reduce;simp only[cr,simprocAttr,-List.reduceReplicate]⟩:CO 125).1
def LY:List aN:=[(.cell 2 (.ar 32 L8))]
theorem XO:MT 125 1 LY LX:=mM Go.Proofs.Tryz.func125 (by kernel_rfl) (by kernel_rfl) (by kernel_rfl)
noncomputable def me:aj:=(⟨_,by conv=>lhs;reduce;simp only[cr,simprocAttr,-List.reduceReplicate]⟩:CO 126).1
def mg:List aN:=[(.tmp 2)]
theorem sN:MT 126 1 mg me:=mM Go.Proofs.Tryz.func126 (by kernel_rfl) (by kernel_rfl) (by kernel_rfl)
noncomputable def Cn:aj:=(⟨_,by conv=>lhs;reduce;simp only[cr,simprocAttr,-List.reduceReplicate]⟩:CO 127).1
def Co:List aN:=[(.tmp 4)]
theorem NF:MT 127 2 Co Cn:=mM Go.Proofs.Tryz.func127 (by kernel_rfl) (by kernel_rfl) (by kernel_rfl)
noncomputable def Qe:aj:=(⟨_,by conv=>lhs;reduce;simp only[cr,simprocAttr,-List.reduceReplicate]⟩:CO 128).1
def Qf:List aN:=[(.tmp 4)]
theorem m_otp_on:MT 128 2 Qf Qe:=mM Go.Proofs.Tryz.func128 (by kernel_rfl) (by kernel_rfl) (by kernel_rfl)
noncomputable def jz:aj:=(⟨_,by conv=>lhs;reduce;simp only[cr,simprocAttr,-List.reduceReplicate]⟩:CO 129).1
def jA:List aN:=[(.tmp 8)]
theorem EC:MT 129 4 jA jz:=mM Go.Proofs.Tryz.func129 (by kernel_rfl) (by kernel_rfl) (by kernel_rfl)
noncomputable def oT:aj:=(⟨_,by conv=>lhs;reduce;simp only[cr,simprocAttr,-List.reduceReplicate]⟩:CO 130).1
def oU:List aN:=[(.tmp 2),(.tmp 3)]
theorem XP:MT 130 1 oU oT:=mM Go.Proofs.Tryz.func130 (by kernel_rfl) (by kernel_rfl) (by kernel_rfl)
noncomputable def IG:aj:=(⟨_,by conv=>lhs;reduce;simp only[cr,simprocAttr,-List.reduceReplicate]⟩:CO 131).1
def II:List aN:=[(.tmp 6)]
theorem Tq:MT 131 3 II IG:=mM Go.Proofs.Tryz.func131 (by kernel_rfl) (by kernel_rfl) (by kernel_rfl)
noncomputable def LZ:aj:=(⟨_,by conv=>lhs;reduce;simp only[cr,simprocAttr,-List.reduceReplicate]⟩:CO 132).1
def L3:List aN:=[(.tmp 2)]
theorem XQ:MT 132 1 L3 LZ:=mM Go.Proofs.Tryz.func132 (by kernel_rfl) (by kernel_rfl) (by kernel_rfl)
noncomputable def FW:aj:=(⟨_,by conv=>lhs;reduce;simp only[cr,simprocAttr,-List.reduceReplicate]⟩:CO 133).1
def FX:List aN:=[(.cell 2 O4)]
theorem Qg:MT 133 1 FX FW:=mM Go.Proofs.Tryz.func133 (by kernel_rfl) (by kernel_rfl) (by kernel_rfl)
noncomputable def uC:aj:=(⟨_,by conv=>lhs;reduce;simp only[cr,simprocAttr,-List.reduceReplicate]⟩:CO 134).1
def uE:List aN:=[(.cell 4 O4)]
theorem ED:MT 134 2 uE uC:=mM Go.Proofs.Tryz.func134 (by kernel_rfl) (by kernel_rfl) (by kernel_rfl)
noncomputable def wy:aj:=(⟨_,by conv=>lhs;reduce;simp only[cr,simprocAttr,-List.reduceReplicate]⟩:CO 135).1
def wA:List aN:=[(.cell 2 (.ar 32 L8))]
theorem GK:MT 135 1 wA wy:=mM Go.Proofs.Tryz.func135 (by kernel_rfl) (by kernel_rfl) (by kernel_rfl)
noncomputable def AV:aj:=(⟨_,by conv=>lhs;reduce;simp only[cr,simprocAttr,-List.reduceReplicate]⟩:CO 136).1
def AW:List aN:=[(.tmp 10),(.tmp 11)]
theorem Tr:MT 136 5 AW AV:=mM Go.Proofs.Tryz.func136 (by kernel_rfl) (by kernel_rfl) (by kernel_rfl)
end Go.Am.F
namespace Go.Am.F
set_option maxRecDepth 100000
set_option maxHeartbeats 0
noncomputable def tc:aj:=(⟨_,by conv=>lhs;reduce;simp only[cr,simprocAttr,-List.reduceReplicate]⟩:CO 137).1
def td:List aN:=[(.tmp 4)]
theorem Cq:MT 137 2 td tc:=mM Go.Proofs.Tryz.func137 (by kernel_rfl) (by kernel_rfl) (by kernel_rfl)
def iP:aj:=(.seq (.region false [ji 4 (.mv (.const (.pointer none)))]) (.seq (.region false [jv 5 0,jv 6 1,ji 7 (.build S23 [(.raw (it 0)),(.agg (.ar 8192 L8) (List.replicate 8192 (.raw (u8 0#8)))),(.agg (.ar 64 L8) (List.replicate 64 (.raw (u8 0#8)))),(.raw (.pointer none)),(.raw (.pointer none))] [(3,.tmp 5),(4,.tmp 6)]),ji 8 (.box S23 (.tmp 7)),jv 4 8]) .ret))
def iQ:List aN:=[(.tmp 4)]
theorem Cr:MT 138 2 iQ iP:=mM Go.Proofs.Tryz.func138 (by kernel_rfl) (by kernel_rfl) (by kernel_rfl)
noncomputable def nI:aj:=(⟨_,by conv=>lhs;reduce;simp only[cr,simprocAttr,-List.reduceReplicate]⟩:CO 139).1
def nJ:List aN:=[(.tmp 0)]
theorem NG:MT 139 0 nJ nI:=mM Go.Proofs.Tryz.func139 (by kernel_rfl) (by kernel_rfl) (by kernel_rfl)
noncomputable def fT:aj:=(⟨_,by conv=>lhs;reduce;simp only[cr,simprocAttr,-List.reduceReplicate]⟩:CO 143).1
def fU:List aN:=[]
theorem IJ:MT 143 1 fU fT:=mM Go.Proofs.Tryz.func143 (by kernel_rfl) (by kernel_rfl) (by kernel_rfl)
noncomputable def iy:aj:=(⟨_,by conv=>lhs;reduce;simp only[cr,simprocAttr,-List.reduceReplicate]⟩:CO 144).1
def iz:List aN:=[]
theorem GL:MT 144 1 iz iy:=mM Go.Proofs.Tryz.func144 (by kernel_rfl) (by kernel_rfl) (by kernel_rfl)
noncomputable def xW:aj:=(⟨_,by conv=>lhs;reduce;simp only[cr,simprocAttr,-List.reduceReplicate]⟩:CO 149).1
def xX:List aN:=[(.cell 2 sX),(.tmp 3)]
theorem IK:MT 149 1 xX xW:=mM Go.Proofs.Tryz.func149 (by kernel_rfl) (by kernel_rfl) (by kernel_rfl)
noncomputable def cW:aj:=(⟨_,by conv=>lhs;reduce;simp only[cr,simprocAttr,-List.reduceReplicate]⟩:CO 151).1
def cY:List aN:=[(.tmp 10),(.tmp 11),(.tmp 12)]
theorem wR:MT 151 5 cY cW:=mM Go.Proofs.Tryz.func151 (by kernel_rfl) (by kernel_rfl) (by kernel_rfl)
noncomputable def rG:aj:=(⟨_,by conv=>lhs;reduce;simp only[cr,simprocAttr,-List.reduceReplicate]⟩:CO 152).1
def rH:List aN:=[(.tmp 6),(.tmp 7)]
theorem AX:MT 152 3 rH rG:=mM Go.Proofs.Tryz.func152 (by kernel_rfl) (by kernel_rfl) (by kernel_rfl)
noncomputable def eF:aj:=(⟨_,by conv=>lhs;reduce;simp only[cr,simprocAttr,-List.reduceReplicate]⟩:CO 154).1
def eG:List aN:=[(.tmp 4)]
theorem zD:MT 154 2 eG eF:=mM Go.Proofs.Tryz.func154 (by kernel_rfl) (by kernel_rfl) (by kernel_rfl)
noncomputable def xY:aj:=(⟨_,by conv=>lhs;reduce;simp only[cr,simprocAttr,-List.reduceReplicate]⟩:CO 159).1
def xZ:List aN:=[(.tmp 2)]
theorem IL:MT 159 1 xZ xY:=mM Go.Proofs.Tryz.func159 (by kernel_rfl) (by kernel_rfl) (by kernel_rfl)
noncomputable def gU:aj:=(⟨_,by conv=>lhs;reduce;simp only[cr,simprocAttr,-List.reduceReplicate]⟩:CO 162).1
def gV:List aN:=[]
theorem IM:MT 162 4 gV gU:=mM Go.Proofs.Tryz.func162 (by kernel_rfl) (by kernel_rfl) (by kernel_rfl)
noncomputable def ov:aj:=(⟨_,by conv=>lhs;reduce;simp only[cr,simprocAttr,-List.reduceReplicate]⟩:CO 164).1
def ow:List aN:=[(.tmp 2)]
theorem wS:MT 164 1 ow ov:=mM Go.Proofs.Tryz.func164 (by kernel_rfl) (by kernel_rfl) (by kernel_rfl)
noncomputable def Ab:aj:=(⟨_,by conv=>lhs;reduce;simp only[cr,simprocAttr,-List.reduceReplicate]⟩:CO 165).1
def Ad:List aN:=[(.tmp 2),(.tmp 3)]
theorem KR:MT 165 1 Ad Ab:=mM Go.Proofs.Tryz.func165 (by kernel_rfl) (by kernel_rfl) (by kernel_rfl)
noncomputable def rI:aj:=(⟨_,by conv=>lhs;reduce;simp only[cr,simprocAttr,-List.reduceReplicate]⟩:CO 166).1
def rJ:List aN:=[(.tmp 4)]
theorem AY:MT 166 2 rJ rI:=mM Go.Proofs.Tryz.func166 (by kernel_rfl) (by kernel_rfl) (by kernel_rfl)
def FY:aj:=(.seq (.region false [⟨some 6,.mv (.const (.string ⟨#[]⟩)),none⟩]) (.seq (.region false [ji 7 (.call 215 []),jv 8 0,jv 9 1,jv 10 2,ji 11 (.build vG [(.raw (it 0)),(.raw (it 0)),(.raw (it 0))] [(0,.tmp 8),(1,.tmp 9),(2,.tmp 10)]),⟨some 12,.Gm vG zU false (.agg zU [(.raw (.string ⟨#[]⟩))]) (.tmp 7) (.tmp 11),none⟩,ji 13 (.field zU (.tmp 12) 0),jv 6 13]) .ret))
def FZ:List aN:=[(.tmp 6)]
theorem Qh:MT 167 3 FZ FY:=mM Go.Proofs.Tryz.func167 (by kernel_rfl) (by kernel_rfl) (by kernel_rfl)
noncomputable def ox:aj:=(⟨_,by conv=>lhs;reduce;simp only[cr,simprocAttr,-List.reduceReplicate]⟩:CO 168).1
def oy:List aN:=[(.tmp 2)]
theorem wU:MT 168 1 oy ox:=mM Go.Proofs.Tryz.func168 (by kernel_rfl) (by kernel_rfl) (by kernel_rfl)
noncomputable def nf:aj:=(⟨_,by conv=>lhs;reduce;simp only[cr,simprocAttr,-List.reduceReplicate]⟩:CO 169).1
def ng:List aN:=[(.tmp 4)]
theorem Qi:MT 169 2 ng nf:=mM Go.Proofs.Tryz.func169 (by kernel_rfl) (by kernel_rfl) (by kernel_rfl)
noncomputable def F0:aj:=(⟨_,by conv=>lhs;reduce;simp only[cr,simprocAttr,-List.reduceReplicate]⟩:CO 170).1
def F3:List aN:=[(.tmp 2),(.tmp 3)]
theorem Qj:MT 170 1 F3 F0:=mM Go.Proofs.Tryz.func170 (by kernel_rfl) (by kernel_rfl) (by kernel_rfl)
noncomputable def uF:aj:=(⟨_,by conv=>lhs;reduce;simp only[cr,simprocAttr,-List.reduceReplicate]⟩:CO 174).1
def uG:List aN:=[(.tmp 2)]
theorem XR:MT 174 1 uG uF:=mM Go.Proofs.Tryz.func174 (by kernel_rfl) (by kernel_rfl) (by kernel_rfl)
noncomputable def rK:aj:=(⟨_,by conv=>lhs;reduce;simp only[cr,simprocAttr,-List.reduceReplicate]⟩:CO 176).1
def rL:List aN:=[(.tmp 2)]
theorem AZ:MT 176 1 rL rK:=mM Go.Proofs.Tryz.func176 (by kernel_rfl) (by kernel_rfl) (by kernel_rfl)
noncomputable def cg:aj:=(⟨_,by conv=>lhs;reduce;simp only[cr,simprocAttr,-List.reduceReplicate]⟩:CO 178).1
def eT:List aN:=[(.tmp 4)]
theorem A0:MT 178 2 eT cg:=mM Go.Proofs.Tryz.func178 (by kernel_rfl) (by kernel_rfl) (by kernel_rfl)
noncomputable def fj:aj:=(⟨_,by conv=>lhs;reduce;simp only[cr,simprocAttr,-List.reduceReplicate]⟩:CO 179).1
def fm:List aN:=[(.tmp 4)]
theorem Ct:MT 179 2 fm fj:=mM Go.Proofs.Tryz.func179 (by kernel_rfl) (by kernel_rfl) (by kernel_rfl)
noncomputable def cP:aj:=(⟨_,by conv=>lhs;reduce;simp only[cr,simprocAttr,-List.reduceReplicate]⟩:CO 180).1
def cQ:List aN:=[]
theorem A3:MT 180 2 cQ cP:=mM Go.Proofs.Tryz.func180 (by kernel_rfl) (by kernel_rfl) (by kernel_rfl)
noncomputable def eU:aj:=(⟨_,by conv=>lhs;reduce;simp only[cr,simprocAttr,-List.reduceReplicate]⟩:CO 181).1
def eV:List aN:=[(.tmp 4)]
theorem A4:MT 181 2 eV eU:=mM Go.Proofs.Tryz.func181 (by kernel_rfl) (by kernel_rfl) (by kernel_rfl)
noncomputable def eI:aj:=(⟨_,by conv=>lhs;reduce;simp only[cr,simprocAttr,-List.reduceReplicate]⟩:CO 182).1
def eJ:List aN:=[(.tmp 4)]
theorem zE:MT 182 2 eJ eI:=mM Go.Proofs.Tryz.func182 (by kernel_rfl) (by kernel_rfl) (by kernel_rfl)
noncomputable def br:aj:=(⟨_,by conv=>lhs;reduce;simp only[cr,simprocAttr,-List.reduceReplicate]⟩:CO 183).1
def eW:List aN:=[]
theorem A5:MT 183 2 eW br:=mM Go.Proofs.Tryz.func183 (by kernel_rfl) (by kernel_rfl) (by kernel_rfl)
noncomputable def IN:aj:=(⟨_,by conv=>lhs;reduce;simp only[cr,simprocAttr,-List.reduceReplicate]⟩:CO 184).1
def IP:List aN:=[(.cell 8 (.ar 32 L8))]
theorem Ts:MT 184 4 IP IN:=mM Go.Proofs.Tryz.func184 (by kernel_rfl) (by kernel_rfl) (by kernel_rfl)
noncomputable def L4:aj:=(⟨_,by conv=>lhs;reduce;simp only[cr,simprocAttr,-List.reduceReplicate]⟩:CO 185).1
def L5:List aN:=[(.cell 0 O4)]
theorem XS:MT 185 0 L5 L4:=mM Go.Proofs.Tryz.func185 (by kernel_rfl) (by kernel_rfl) (by kernel_rfl)
noncomputable def tf:aj:=(⟨_,by conv=>lhs;reduce;simp only[cr,simprocAttr,-List.reduceReplicate]⟩:CO 187).1
def tg:List aN:=[(.tmp 4),(.tmp 5)]
theorem Cu:MT 187 2 tg tf:=mM Go.Proofs.Tryz.func187 (by kernel_rfl) (by kernel_rfl) (by kernel_rfl)
def gE:aj:=(.seq (.region false [ji 2 (.mv (.const (it 0)))]) (.seq (.region false [jv 3 0,⟨some 4,.vk (.const (.string ⟨#[0,1,1,2,1,2,2,3,1,2,2,3,2,3,3,4,1,2,2,3,2,3,3,4,2,3,3,4,3,4,4,5,1,2,2,3,2,3,3,4,2,3,3,4,3,4,4,5,2,3,3,4,3,4,4,5,3,4,4,5,4,5,5,6,1,2,2,3,2,3,3,4,2,3,3,4,3,4,4,5,2,3,3,4,3,4,4,5,3,4,4,5,4,5,5,6,2,3,3,4,3,4,4,5,3,4,4,5,4,5,5,6,3,4,4,5,4,5,5,6,4,5,5,6,5,6,6,7,1,2,2,3,2,3,3,4,2,3,3,4,3,4,4,5,2,3,3,4,3,4,4,5,3,4,4,5,4,5,5,6,2,3,3,4,3,4,4,5,3,4,4,5,4,5,5,6,3,4,4,5,4,5,5,6,4,5,5,6,5,6,6,7,2,3,3,4,3,4,4,5,3,4,4,5,4,5,5,6,3,4,4,5,4,5,5,6,4,5,5,6,5,6,6,7,3,4,4,5,4,5,5,6,4,5,5,6,5,6,6,7,4,5,5,6,5,6,6,7,5,6,6,7,6,7,7,8]⟩)) (.tmp 3),none⟩,ji 5 (.conv .i64 (.tmp 4)),jv 2 5]) .ret))
def nK:List aN:=[(.tmp 2)]
theorem vL:MT 188 1 nK gE:=mM Go.Proofs.Tryz.func188 (by kernel_rfl) (by kernel_rfl) (by kernel_rfl)
noncomputable def rO:aj:=(⟨_,by conv=>lhs;reduce;simp only[cr,simprocAttr,-List.reduceReplicate]⟩:CO 189).1
def rP:List aN:=[(.tmp 4)]
theorem A6:MT 189 2 rP rO:=mM Go.Proofs.Tryz.func189 (by kernel_rfl) (by kernel_rfl) (by kernel_rfl)
noncomputable def IQ:aj:=(⟨_,by conv=>lhs;reduce;simp only[cr,simprocAttr,-List.reduceReplicate]⟩:CO 190).1
def IR:List aN:=[(.tmp 2)]
theorem Tt:MT 190 1 IR IQ:=mM Go.Proofs.Tryz.func190 (by kernel_rfl) (by kernel_rfl) (by kernel_rfl)
noncomputable def F4:aj:=(⟨_,by conv=>lhs;reduce;simp only[cr,simprocAttr,-List.reduceReplicate]⟩:CO 191).1
def F5:List aN:=[(.cell 4 (.ar 8 cN))]
theorem Qk:MT 191 2 F5 F4:=mM Go.Proofs.Tryz.func191 (by kernel_rfl) (by kernel_rfl) (by kernel_rfl)
noncomputable def Cv:aj:=(⟨_,by conv=>lhs;reduce;simp only[cr,simprocAttr,-List.reduceReplicate]⟩:CO 192).1
def Cw:List aN:=[(.cell 2 (.ar 32 L8))]
theorem NH:MT 192 1 Cw Cv:=mM Go.Proofs.Tryz.func192 (by kernel_rfl) (by kernel_rfl) (by kernel_rfl)
noncomputable def L6:aj:=(⟨_,by conv=>lhs;reduce;simp only[cr,simprocAttr,-List.reduceReplicate]⟩:CO 193).1
def L7:List aN:=[(.tmp 2)]
theorem XT:MT 193 1 L7 L6:=mM Go.Proofs.Tryz.func193 (by kernel_rfl) (by kernel_rfl) (by kernel_rfl)
noncomputable def rQ:aj:=(⟨_,by conv=>lhs;reduce;simp only[cr,simprocAttr,-List.reduceReplicate]⟩:CO 194).1
def rS:List aN:=[(.tmp 0)]
theorem Tu:MT 194 0 rS rQ:=mM Go.Proofs.Tryz.func194 (by kernel_rfl) (by kernel_rfl) (by kernel_rfl)
noncomputable def IS:aj:=(⟨_,by conv=>lhs;reduce;simp only[cr,simprocAttr,-List.reduceReplicate]⟩:CO 195).1
def IT:List aN:=[(.cell 0 S30)]
theorem Tv:MT 195 0 IT IS:=mM Go.Proofs.Tryz.func195 (by kernel_rfl) (by kernel_rfl) (by kernel_rfl)
noncomputable def rT:aj:=(⟨_,by conv=>lhs;reduce;simp only[cr,simprocAttr,-List.reduceReplicate]⟩:CO 196).1
def rU:List aN:=[(.tmp 4)]
theorem A7:MT 196 2 rU rT:=mM Go.Proofs.Tryz.func196 (by kernel_rfl) (by kernel_rfl) (by kernel_rfl)
noncomputable def jB:aj:=(⟨_,by conv=>lhs;reduce;simp only[cr,simprocAttr,-List.reduceReplicate]⟩:CO 198).1
def jC:List aN:=[(.tmp 4)]
theorem EE:MT 198 2 jC jB:=mM Go.Proofs.Tryz.func198 (by kernel_rfl) (by kernel_rfl) (by kernel_rfl)
noncomputable def iR:aj:=(⟨_,by conv=>lhs;reduce;simp only[cr,simprocAttr,-List.reduceReplicate]⟩:CO 199).1
def iS:List aN:=[]
theorem Cx:MT 199 4 iS iR:=mM Go.Proofs.Tryz.func199 (by kernel_rfl) (by kernel_rfl) (by kernel_rfl)
noncomputable def Ae:aj:=(⟨_,by conv=>lhs;reduce;simp only[cr,simprocAttr,-List.reduceReplicate]⟩:CO 200).1
def Af:List aN:=[(.cell 8 S12)]
theorem KS:MT 200 4 Af Ae:=mM Go.Proofs.Tryz.func200 (by kernel_rfl) (by kernel_rfl) (by kernel_rfl)
noncomputable def oz:aj:=(⟨_,by conv=>lhs;reduce;simp only[cr,simprocAttr,-List.reduceReplicate]⟩:CO 201).1
def oA:List aN:=[(.tmp 2)]
theorem wV:MT 201 1 oA oz:=mM Go.Proofs.Tryz.func201 (by kernel_rfl) (by kernel_rfl) (by kernel_rfl)
noncomputable def oB:aj:=(⟨_,by conv=>lhs;reduce;simp only[cr,simprocAttr,-List.reduceReplicate]⟩:CO 202).1
def oC:List aN:=[(.tmp 2)]
theorem wW:MT 202 1 oC oB:=mM Go.Proofs.Tryz.func202 (by kernel_rfl) (by kernel_rfl) (by kernel_rfl)
noncomputable def wB:aj:=(⟨_,by conv=>lhs;reduce;simp only[cr,simprocAttr,-List.reduceReplicate]⟩:CO 203).1
def wC:List aN:=[(.cell 0 sX)]
theorem GM:MT 203 0 wC wB:=mM Go.Proofs.Tryz.func203 (by kernel_rfl) (by kernel_rfl) (by kernel_rfl)
noncomputable def wD:aj:=(⟨_,by conv=>lhs;reduce;simp only[cr,simprocAttr,-List.reduceReplicate]⟩:CO 204).1
def wE:List aN:=[(.cell 2 sX),(.tmp 3)]
theorem GN:MT 204 1 wE wD:=mM Go.Proofs.Tryz.func204 (by kernel_rfl) (by kernel_rfl) (by kernel_rfl)
noncomputable def Ql:aj:=(⟨_,by conv=>lhs;reduce;simp only[cr,simprocAttr,-List.reduceReplicate]⟩:CO 205).1
def Qm:List aN:=[(.tmp 2),(.tmp 3)]
theorem m_otp_at:MT 205 1 Qm Ql:=mM Go.Proofs.Tryz.func205 (by kernel_rfl) (by kernel_rfl) (by kernel_rfl)
noncomputable def Cy:aj:=(⟨_,by conv=>lhs;reduce;simp only[cr,simprocAttr,-List.reduceReplicate]⟩:CO 207).1
def Cz:List aN:=[(.tmp 2),(.tmp 3)]
theorem NI:MT 207 1 Cz Cy:=mM Go.Proofs.Tryz.func207 (by kernel_rfl) (by kernel_rfl) (by kernel_rfl)
end Go.Am.F
namespace Go.Am.F
set_option maxRecDepth 100000
set_option maxHeartbeats 0
noncomputable def CN:aj:=(⟨_,by conv=>lhs;reduce;simp only[cr,simprocAttr,-List.reduceReplicate]⟩:CO 212).1
def CP:List aN:=[(.tmp 6)]
theorem NJ:MT 212 3 CP CN:=mM Go.Proofs.Tryz.func212 (by kernel_rfl) (by kernel_rfl) (by kernel_rfl)
noncomputable def CQ:aj:=(⟨_,by conv=>lhs;reduce;simp only[cr,simprocAttr,-List.reduceReplicate]⟩:CO 213).1
def CR:List aN:=[(.tmp 2)]
theorem NK:MT 213 1 CR CQ:=mM Go.Proofs.Tryz.func213 (by kernel_rfl) (by kernel_rfl) (by kernel_rfl)
noncomputable def wF:aj:=(⟨_,by conv=>lhs;reduce;simp only[cr,simprocAttr,-List.reduceReplicate]⟩:CO 214).1
def wG:List aN:=[(.tmp 4)]
theorem GO:MT 214 2 wG wF:=mM Go.Proofs.Tryz.func214 (by kernel_rfl) (by kernel_rfl) (by kernel_rfl)
def nL:aj:=(.seq (.region false [ji 0 (.mv (.const (.map none)))]) (.seq (.region false [ji 9 (.Zt vG zU),jv 1 9]) (.seq (.seq (.region false [ji 2 (.mv (.const (it 1)))]) (.block 0 (.loop (.seq (.seq (.region false [jv 10 2,ji 11 (.bin .leq (.tmp 10) (.const (it 5)))]) (.cond (.tmp 11) .skip (.exit 0))) (.seq (.block 1 (.region false [jv 14 1,jv 15 2,ji 16 (.build vG [(.raw (it 0)),(.raw (it 0)),(.raw (it 0))] [(0,.const (it 0)),(1,.const (it 0)),(2,.tmp 15)]),⟨some 17,.build zU [(.raw (.string ⟨#[]⟩))] [(0,.const (.string ⟨#[114,119]⟩))],none⟩,⟨none,.je vG zU (.tmp 14) (.tmp 16) (.tmp 17),none⟩])) (.region false [jv 12 2,ji 13 (.bin .add (.tmp 12) (.const (it 1))),jv 2 13])))))) (.seq (.seq (.region false [ji 18 (.mv (.const (it 0)))]) (.block 2 (.loop (.seq (.region false [ji 19 (.bin .lss (.tmp 18) (.const (it 3)))]) (.seq (.cond (.tmp 19) .skip (.exit 2)) (.seq (.block 3 (.seq (.region false [jv 20 18,jv 3 20]) (.seq (.region false [jv 21 1,jv 22 3,ji 23 (.build vG [(.raw (it 0)),(.raw (it 0)),(.raw (it 0))] [(0,.const (it 2)),(1,.tmp 22),(2,.const (it 1))]),⟨some 24,.build zU [(.raw (.string ⟨#[]⟩))] [(0,.const (.string ⟨#[114]⟩))],none⟩,⟨none,.je vG zU (.tmp 21) (.tmp 23) (.tmp 24),none⟩]) (.seq (.region false [jv 25 1,jv 26 3,ji 27 (.build vG [(.raw (it 0)),(.raw (it 0)),(.raw (it 0))] [(0,.const (it 2)),(1,.tmp 26),(2,.const (it 2))]),⟨some 28,.build zU [(.raw (.string ⟨#[]⟩))] [(0,.const (.string ⟨#[114,119]⟩))],none⟩,⟨none,.je vG zU (.tmp 25) (.tmp 27) (.tmp 28),none⟩]) (.seq (.region false [jv 29 1,jv 30 3,ji 31 (.build vG [(.raw (it 0)),(.raw (it 0)),(.raw (it 0))] [(0,.const (it 2)),(1,.tmp 30),(2,.const (it 3))]),⟨some 32,.build zU [(.raw (.string ⟨#[]⟩))] [(0,.const (.string ⟨#[114]⟩))],none⟩,⟨none,.je vG zU (.tmp 29) (.tmp 31) (.tmp 32),none⟩]) (.region false [jv 33 1,jv 34 3,ji 35 (.build vG [(.raw (it 0)),(.raw (it 0)),(.raw (it 0))] [(0,.const (it 3)),(1,.tmp 34),(2,.const (it 4))]),⟨some 36,.build zU [(.raw (.string ⟨#[]⟩))] [(0,.const (.string ⟨#[114,119]⟩))],none⟩,⟨none,.je vG zU (.tmp 33) (.tmp 35) (.tmp 36),none⟩])))))) (.region false [ji 37 (.bin .add (.tmp 18) (.const (it 1))),jv 18 37]))))))) (.seq (.region false [jv 38 1,ji 39 (.build vG [(.raw (it 0)),(.raw (it 0)),(.raw (it 0))] [(0,.const (it 2)),(1,.const (it 0)),(2,.const (it 1))]),⟨some 40,.build zU [(.raw (.string ⟨#[]⟩))] [(0,.const (.string ⟨#[114,119]⟩))],none⟩,⟨none,.je vG zU (.tmp 38) (.tmp 39) (.tmp 40),none⟩]) (.seq (.seq (.region false [ji 4 (.mv (.const (it 1)))]) (.block 4 (.loop (.seq (.seq (.region false [jv 41 4,ji 42 (.bin .lss (.tmp 41) (.const (it 3)))]) (.cond (.tmp 42) .skip (.exit 4))) (.seq (.block 5 (.seq (.region false [jv 45 1,jv 46 4,ji 47 (.build vG [(.raw (it 0)),(.raw (it 0)),(.raw (it 0))] [(0,.const (it 1)),(1,.tmp 46),(2,.const (it 1))]),⟨some 48,.build zU [(.raw (.string ⟨#[]⟩))] [(0,.const (.string ⟨#[114,120]⟩))],none⟩,⟨none,.je vG zU (.tmp 45) (.tmp 47) (.tmp 48),none⟩]) (.seq (.region false [jv 49 1,jv 50 4,ji 51 (.build vG [(.raw (it 0)),(.raw (it 0)),(.raw (it 0))] [(0,.const (it 1)),(1,.tmp 50),(2,.const (it 2))]),⟨some 52,.build zU [(.raw (.string ⟨#[]⟩))] [(0,.const (.string ⟨#[114,119]⟩))],none⟩,⟨none,.je vG zU (.tmp 49) (.tmp 51) (.tmp 52),none⟩]) (.seq (.region false [jv 53 1,jv 54 4,ji 55 (.build vG [(.raw (it 0)),(.raw (it 0)),(.raw (it 0))] [(0,.const (it 1)),(1,.tmp 54),(2,.const (it 3))]),⟨some 56,.build zU [(.raw (.string ⟨#[]⟩))] [(0,.const (.string ⟨#[114]⟩))],none⟩,⟨none,.je vG zU (.tmp 53) (.tmp 55) (.tmp 56),none⟩]) (.seq (.region false [jv 57 1,jv 58 4,ji 59 (.build vG [(.raw (it 0)),(.raw (it 0)),(.raw (it 0))] [(0,.const (it 1)),(1,.tmp 58),(2,.const (it 4))]),⟨some 60,.build zU [(.raw (.string ⟨#[]⟩))] [(0,.const (.string ⟨#[114,119]⟩))],none⟩,⟨none,.je vG zU (.tmp 57) (.tmp 59) (.tmp 60),none⟩]) (.region false [jv 61 1,jv 62 4,ji 63 (.build vG [(.raw (it 0)),(.raw (it 0)),(.raw (it 0))] [(0,.const (it 1)),(1,.tmp 62),(2,.const (it 5))]),⟨some 64,.build zU [(.raw (.string ⟨#[]⟩))] [(0,.const (.string ⟨#[114]⟩))],none⟩,⟨none,.je vG zU (.tmp 61) (.tmp 63) (.tmp 64),none⟩])))))) (.region false [jv 43 4,ji 44 (.bin .add (.tmp 43) (.const (it 1))),jv 4 44])))))) (.seq (.region false [jv 65 1,ji 66 (.build vG [(.raw (it 0)),(.raw (it 0)),(.raw (it 0))] [(0,.const (it 1)),(1,.const (it 2)),(2,.const (it 1))]),⟨some 67,.build zU [(.raw (.string ⟨#[]⟩))] [(0,.const (.string ⟨#[114,119,120]⟩))],none⟩,⟨none,.je vG zU (.tmp 65) (.tmp 66) (.tmp 67),none⟩]) (.seq (.seq (.region false [ji 68 (.fw LI 2 (.raw (it 0)) [(0,.const (it 1)),(1,.const (it 2))]),ji 69 (.len (.tmp 68)),ji 70 (.mv (.const (it 0)))]) (.block 6 (.loop (.seq (.region false [ji 71 (.bin .lss (.tmp 70) (.tmp 69))]) (.seq (.cond (.tmp 71) .skip (.exit 6)) (.seq (.block 7 (.seq (.region false [ji 72 (.js LI (.tmp 68) (.tmp 70)),ji 73 (.load LI (.tmp 72)),jv 6 73]) (.region false [jv 74 1,jv 75 6,ji 76 (.build vG [(.raw (it 0)),(.raw (it 0)),(.raw (it 0))] [(0,.const (it 3)),(1,.const (it 2)),(2,.tmp 75)]),⟨some 77,.build zU [(.raw (.string ⟨#[]⟩))] [(0,.const (.string ⟨#[114,119]⟩))],none⟩,⟨none,.je vG zU (.tmp 74) (.tmp 76) (.tmp 77),none⟩]))) (.region false [ji 78 (.bin .add (.tmp 70) (.const (it 1))),jv 70 78]))))))) (.seq (.seq (.region false [ji 79 (.fw LI 2 (.raw (it 0)) [(0,.const (it 3)),(1,.const (it 5))]),ji 80 (.len (.tmp 79)),ji 81 (.mv (.const (it 0)))]) (.block 8 (.loop (.seq (.region false [ji 82 (.bin .lss (.tmp 81) (.tmp 80))]) (.seq (.cond (.tmp 82) .skip (.exit 8)) (.seq (.block 9 (.seq (.region false [ji 83 (.js LI (.tmp 79) (.tmp 81)),ji 84 (.load LI (.tmp 83)),jv 8 84]) (.region false [jv 85 1,jv 86 8,ji 87 (.build vG [(.raw (it 0)),(.raw (it 0)),(.raw (it 0))] [(0,.const (it 3)),(1,.const (it 2)),(2,.tmp 86)]),⟨some 88,.build zU [(.raw (.string ⟨#[]⟩))] [(0,.const (.string ⟨#[114]⟩))],none⟩,⟨none,.je vG zU (.tmp 85) (.tmp 87) (.tmp 88),none⟩]))) (.region false [ji 89 (.bin .add (.tmp 81) (.const (it 1))),jv 81 89]))))))) (.seq (.region false [jv 90 1,jv 0 90]) .ret))))))))))
def nO:List aN:=[(.tmp 0)]
theorem IU:MT 215 0 nO nL:=mM Go.Proofs.Tryz.func215 (by kernel_rfl) (by kernel_rfl) (by kernel_rfl)
noncomputable def lh:aj:=(⟨_,by conv=>lhs;reduce;simp only[cr,simprocAttr,-List.reduceReplicate]⟩:CO 218).1
def lj:List aN:=[(.tmp 2)]
theorem qE:MT 218 1 lj lh:=mM Go.Proofs.Tryz.func218 (by kernel_rfl) (by kernel_rfl) (by kernel_rfl)
noncomputable def jE:aj:=(⟨_,by conv=>lhs;reduce;simp only[cr,simprocAttr,-List.reduceReplicate]⟩:CO 219).1
def jF:List aN:=[]
theorem EF:MT 219 2 jF jE:=mM Go.Proofs.Tryz.func219 (by kernel_rfl) (by kernel_rfl) (by kernel_rfl)
noncomputable def jG:aj:=(⟨_,by conv=>lhs;reduce;simp only[cr,simprocAttr,-List.reduceReplicate]⟩:CO 220).1
def jH:List aN:=[]
theorem IV:MT 220 3 jH jG:=mM Go.Proofs.Tryz.func220 (by kernel_rfl) (by kernel_rfl) (by kernel_rfl)
def wH:aj:=(.seq (.region false [ji 4 (.box sX (.tmp 1)),ji 5 (.box (.ar 2 LI) (.tmp 2)),ji 6 (.alloc P4 (.agg P4 [(.raw (it 0)),(.agg sX [(.raw (u32 0#32)),(.raw (it 0)),(.raw (it 0)),(.raw (it 0))]),(.raw (.bool false)),(.raw (.bool false)),(.raw (it 0))]))]) (.seq (.block 0 (.seq (.region false [jv 11 0,ji 12 (.bin .eql (.tmp 11) (.const (it 4))),jv 10 12]) (.cond (.tmp 10) (.seq (.region false [ji 13 (.load sX (.tmp 4)),ji 14 (.build P4 [(.raw (it 0)),(.agg sX [(.raw (u32 0#32)),(.raw (it 0)),(.raw (it 0)),(.raw (it 0))]),(.raw (.bool false)),(.raw (.bool false)),(.raw (it 0))] [(0,.const (it (-1))),(1,.tmp 13),(4,.const (it 17))]),⟨none,.store P4 (.tmp 6) (.tmp 14),none⟩]) .ret) (.seq (.region false [jv 16 0,ji 17 (.bin .lss (.tmp 16) (.const (it 1))),jv 18 17,⟨some 19,.mv (.tmp 0),some (18,false)⟩,⟨some 20,.bin .gtr (.tmp 19) (.const (it 3)),some (18,false)⟩,ji 21 (.pick (.tmp 18) (.const (.bool true)) (.tmp 20)),jv 15 21]) (.cond (.tmp 15) (.seq (.region false [ji 22 (.load sX (.tmp 4)),ji 23 (.build P4 [(.raw (it 0)),(.agg sX [(.raw (u32 0#32)),(.raw (it 0)),(.raw (it 0)),(.raw (it 0))]),(.raw (.bool false)),(.raw (.bool false)),(.raw (it 0))] [(0,.const (it (-1))),(1,.tmp 22),(4,.const (it 14))]),⟨none,.store P4 (.tmp 6) (.tmp 23),none⟩]) .ret) .skip))))) (.seq (.region false [ji 24 (.mkf 251 (.tmp 5)),jv 7 24]) (.seq (.region false [ji 25 (.load sX (.tmp 4)),ji 8 (.alloc sX (.agg sX [(.raw (u32 0#32)),(.raw (it 0)),(.raw (it 0)),(.raw (it 0))])),⟨none,.store sX (.tmp 8) (.tmp 25),none⟩]) (.seq (.seq (.region false [jv 26 7,ji 27 (.fx sX (.tmp 4) 2),ji 28 (.load LI (.tmp 27)),ji 29 (.qW [17,56,73,132,205,207,236,238,251,253,272,277] (.tmp 26) [.tmp 28]),jv 30 29,⟨some 31,.fx sX (.tmp 4) 3,some (30,true)⟩,⟨some 32,.load LI (.tmp 31),some (30,true)⟩,⟨some 33,.bin .lss (.tmp 32) (.const (it 3)),some (30,true)⟩,ji 34 (.pick (.tmp 30) (.tmp 33) (.const (.bool false)))]) (.cond (.tmp 34) (.seq (.region false [ji 35 (.fx sX (.tmp 8) 3),ji 36 (.load LI (.tmp 35)),ji 37 (.bin .add (.tmp 36) (.const (it 1))),ji 38 (.fx sX (.tmp 8) 3),⟨none,.store LI (.tmp 38) (.tmp 37),none⟩]) (.seq (.region false [ji 39 (.fx sX (.tmp 4) 2),ji 40 (.load LI (.tmp 39)),ji 41 (.load sX (.tmp 8)),ji 42 (.load sX (.tmp 4)),ji 43 (.call 252 [.tmp 40,.tmp 41,.tmp 42,.const (.bool true)]),⟨none,.store P4 (.tmp 6) (.tmp 43),none⟩]) .ret)) .skip)) (.seq (.region false [ji 44 (.fx sX (.tmp 8) 2),⟨none,.store LI (.tmp 44) (.const (it (-1))),none⟩,ji 45 (.fx sX (.tmp 8) 3),⟨none,.store LI (.tmp 45) (.const (it 0)),none⟩]) (.seq (.seq (.region false [jv 46 7,ji 47 (.fx sX (.tmp 4) 1),ji 48 (.load LI (.tmp 47)),ji 49 (.qW [17,56,73,132,205,207,236,238,251,253,272,277] (.tmp 46) [.tmp 48])]) (.cond (.tmp 49) (.seq (.region false [ji 50 (.fx sX (.tmp 4) 1),ji 51 (.load LI (.tmp 50)),ji 52 (.load sX (.tmp 8)),ji 53 (.load sX (.tmp 4)),ji 54 (.call 252 [.tmp 51,.tmp 52,.tmp 53,.const (.bool false)]),⟨none,.store P4 (.tmp 6) (.tmp 54),none⟩]) .ret) .skip)) (.seq (.seq (.region false [ji 55 (.fx sX (.tmp 4) 1),ji 56 (.load LI (.tmp 55)),ji 57 (.bin .sub (.const (it 1)) (.tmp 56)),jv 9 57]) (.seq (.region false [jv 58 7,jv 59 9,ji 60 (.qW [17,56,73,132,205,207,236,238,251,253,272,277] (.tmp 58) [.tmp 59])]) (.cond (.tmp 60) (.seq (.region false [jv 61 9,ji 62 (.fx sX (.tmp 8) 1),⟨none,.store LI (.tmp 62) (.tmp 61),none⟩]) (.seq (.region false [jv 63 9,ji 64 (.load sX (.tmp 8)),ji 65 (.load sX (.tmp 4)),ji 66 (.call 252 [.tmp 63,.tmp 64,.tmp 65,.const (.bool false)]),⟨none,.store P4 (.tmp 6) (.tmp 66),none⟩]) .ret)) .skip))) (.seq (.region true [ji 67 (.load sX (.tmp 8)),ji 68 (.load sX (.tmp 8)),ji 69 (.load sX (.tmp 4)),ji 70 (.eqa sX true (.tmp 68) (.tmp 69)),ji 71 (.build P4 [(.raw (it 0)),(.agg sX [(.raw (u32 0#32)),(.raw (it 0)),(.raw (it 0)),(.raw (it 0))]),(.raw (.bool false)),(.raw (.bool false)),(.raw (it 0))] [(0,.const (it (-1))),(1,.tmp 67),(2,.tmp 70),(4,.const (it 3))]),⟨none,.store P4 (.tmp 6) (.tmp 71),none⟩]) .ret)))))))))
def wI:List aN:=[(.cell 6 P4)]
theorem GP:MT 221 3 wI wH:=mM Go.Proofs.Tryz.func221 (by kernel_rfl) (by kernel_rfl) (by kernel_rfl)
noncomputable def gL:aj:=(⟨_,by conv=>lhs;reduce;simp only[cr,simprocAttr,-List.reduceReplicate]⟩:CO 222).1
def gM:List aN:=[(.tmp 4)]
theorem EG:MT 222 2 gM gL:=mM Go.Proofs.Tryz.func222 (by kernel_rfl) (by kernel_rfl) (by kernel_rfl)
noncomputable def rV:aj:=(⟨_,by conv=>lhs;reduce;simp only[cr,simprocAttr,-List.reduceReplicate]⟩:CO 223).1
def rX:List aN:=[(.cell 6 S30),(.tmp 7)]
theorem A8:MT 223 3 rX rV:=mM Go.Proofs.Tryz.func223 (by kernel_rfl) (by kernel_rfl) (by kernel_rfl)
noncomputable def x7:aj:=(⟨_,by conv=>lhs;reduce;simp only[cr,simprocAttr,-List.reduceReplicate]⟩:CO 224).1
def x8:List aN:=[(.cell 4 (.ar 32 L8)),(.tmp 5)]
theorem IW:MT 224 2 x8 x7:=mM Go.Proofs.Tryz.func224 (by kernel_rfl) (by kernel_rfl) (by kernel_rfl)
noncomputable def rY:aj:=(⟨_,by conv=>lhs;reduce;simp only[cr,simprocAttr,-List.reduceReplicate]⟩:CO 225).1
def rZ:List aN:=[(.cell 2 (.ar 32 L8))]
theorem A9:MT 225 1 rZ rY:=mM Go.Proofs.Tryz.func225 (by kernel_rfl) (by kernel_rfl) (by kernel_rfl)
noncomputable def jI:aj:=(⟨_,by conv=>lhs;reduce;simp only[cr,simprocAttr,-List.reduceReplicate]⟩:CO 226).1
def jJ:List aN:=[(.tmp 8)]
theorem EH:MT 226 4 jJ jI:=mM Go.Proofs.Tryz.func226 (by kernel_rfl) (by kernel_rfl) (by kernel_rfl)
noncomputable def gC:aj:=(⟨_,by conv=>lhs;reduce;simp only[cr,simprocAttr,-List.reduceReplicate]⟩:CO 227).1
def gD:List aN:=[(.tmp 10)]
theorem zF:MT 227 5 gD gC:=mM Go.Proofs.Tryz.func227 (by kernel_rfl) (by kernel_rfl) (by kernel_rfl)
noncomputable def iT:aj:=(⟨_,by conv=>lhs;reduce;simp only[cr,simprocAttr,-List.reduceReplicate]⟩:CO 228).1
def iU:List aN:=[(.tmp 4)]
theorem CS:MT 228 2 iU iT:=mM Go.Proofs.Tryz.func228 (by kernel_rfl) (by kernel_rfl) (by kernel_rfl)
noncomputable def iV:aj:=(⟨_,by conv=>lhs;reduce;simp only[cr,simprocAttr,-List.reduceReplicate]⟩:CO 229).1
def iW:List aN:=[]
theorem CU:MT 229 1 iW iV:=mM Go.Proofs.Tryz.func229 (by kernel_rfl) (by kernel_rfl) (by kernel_rfl)
noncomputable def j8:aj:=(⟨_,by conv=>lhs;reduce;simp only[cr,simprocAttr,-List.reduceReplicate]⟩:CO 230).1
def j9:List aN:=[]
theorem GQ:MT 230 1 j9 j8:=mM Go.Proofs.Tryz.func230 (by kernel_rfl) (by kernel_rfl) (by kernel_rfl)
noncomputable def CV:aj:=(⟨_,by conv=>lhs;reduce;simp only[cr,simprocAttr,-List.reduceReplicate]⟩:CO 231).1
def CW:List aN:=[(.cell 2 (.ar 64 cN))]
theorem NL:MT 231 1 CW CV:=mM Go.Proofs.Tryz.func231 (by kernel_rfl) (by kernel_rfl) (by kernel_rfl)
noncomputable def mC:aj:=(⟨_,by conv=>lhs;reduce;simp only[cr,simprocAttr,-List.reduceReplicate]⟩:CO 232).1
def mD:List aN:=[(.tmp 4)]
theorem tL:MT 232 2 mD mC:=mM Go.Proofs.Tryz.func232 (by kernel_rfl) (by kernel_rfl) (by kernel_rfl)
noncomputable def CX:aj:=(⟨_,by conv=>lhs;reduce;simp only[cr,simprocAttr,-List.reduceReplicate]⟩:CO 234).1
def CY:List aN:=[(.tmp 2)]
theorem NM:MT 234 1 CY CX:=mM Go.Proofs.Tryz.func234 (by kernel_rfl) (by kernel_rfl) (by kernel_rfl)
noncomputable def Ag:aj:=(⟨_,by conv=>lhs;reduce;simp only[cr,simprocAttr,-List.reduceReplicate]⟩:CO 235).1
def Ah:List aN:=[(.tmp 2)]
theorem KT:MT 235 1 Ah Ag:=mM Go.Proofs.Tryz.func235 (by kernel_rfl) (by kernel_rfl) (by kernel_rfl)
noncomputable def Ai:aj:=(⟨_,by conv=>lhs;reduce;simp only[cr,simprocAttr,-List.reduceReplicate]⟩:CO 236).1
def Aj:List aN:=[(.tmp 2)]
theorem KU:MT 236 1 Aj Ai:=mM Go.Proofs.Tryz.func236 (by kernel_rfl) (by kernel_rfl) (by kernel_rfl)
noncomputable def jK:aj:=(⟨_,by conv=>lhs;reduce;simp only[cr,simprocAttr,-List.reduceReplicate]⟩:CO 237).1
def jL:List aN:=[(.cell 6 S11),(.tmp 7),(.tmp 8)]
theorem EI:MT 237 3 jL jK:=mM Go.Proofs.Tryz.func237 (by kernel_rfl) (by kernel_rfl) (by kernel_rfl)
noncomputable def x9:aj:=(⟨_,by conv=>lhs;reduce;simp only[cr,simprocAttr,-List.reduceReplicate]⟩:CO 238).1
def ya:List aN:=[(.tmp 2)]
theorem IX:MT 238 1 ya x9:=mM Go.Proofs.Tryz.func238 (by kernel_rfl) (by kernel_rfl) (by kernel_rfl)
noncomputable def Ak:aj:=(⟨_,by conv=>lhs;reduce;simp only[cr,simprocAttr,-List.reduceReplicate]⟩:CO 239).1
def Al:List aN:=[(.tmp 4)]
theorem KV:MT 239 2 Al Ak:=mM Go.Proofs.Tryz.func239 (by kernel_rfl) (by kernel_rfl) (by kernel_rfl)
noncomputable def IY:aj:=(⟨_,by conv=>lhs;reduce;simp only[cr,simprocAttr,-List.reduceReplicate]⟩:CO 240).1
def IZ:List aN:=[(.tmp 2)]
theorem Tw:MT 240 1 IZ IY:=mM Go.Proofs.Tryz.func240 (by kernel_rfl) (by kernel_rfl) (by kernel_rfl)
noncomputable def tj:aj:=(⟨_,by conv=>lhs;reduce;simp only[cr,simprocAttr,-List.reduceReplicate]⟩:CO 246).1
def tn:List aN:=[(.tmp 4)]
theorem CZ:MT 246 2 tn tj:=mM Go.Proofs.Tryz.func246 (by kernel_rfl) (by kernel_rfl) (by kernel_rfl)
noncomputable def I0:aj:=(⟨_,by conv=>lhs;reduce;simp only[cr,simprocAttr,-List.reduceReplicate]⟩:CO 248).1
def I2:List aN:=[(.cell 6 (.ar 32 L8)),(.tmp 7)]
theorem Tx:MT 248 3 I2 I0:=mM Go.Proofs.Tryz.func248 (by kernel_rfl) (by kernel_rfl) (by kernel_rfl)
noncomputable def I4:aj:=(⟨_,by conv=>lhs;reduce;simp only[cr,simprocAttr,-List.reduceReplicate]⟩:CO 249).1
def I5:List aN:=[(.cell 2 S40),(.tmp 3)]
theorem Ty:MT 249 1 I5 I4:=mM Go.Proofs.Tryz.func249 (by kernel_rfl) (by kernel_rfl) (by kernel_rfl)
noncomputable def kf:aj:=(⟨_,by conv=>lhs;reduce;simp only[cr,simprocAttr,-List.reduceReplicate]⟩:CO 250).1
def kg:List aN:=[(.tmp 4)]
theorem qf:MT 250 2 kg kf:=mM Go.Proofs.Tryz.func250 (by kernel_rfl) (by kernel_rfl) (by kernel_rfl)
def iX:aj:=(.seq (.region false [ji 3 (.mv (.const (.bool false)))]) (.seq (.region false [jv 4 0,ji 5 (.call 236 [.tmp 4]),jv 6 5,⟨some 7,.mv (.tmp 0),some (6,true)⟩,⟨some 8,.xf 2 LI (.tmp 1) (.tmp 7),some (6,true)⟩,⟨some 9,.load LI (.tmp 8),some (6,true)⟩,⟨some 10,.bin .eql (.tmp 9) (.const (it 0)),some (6,true)⟩,ji 11 (.pick (.tmp 6) (.tmp 10) (.const (.bool false))),jv 3 11]) .ret))
def iY:List aN:=[(.tmp 3)]
def wJ:aj:=(.seq (.region false [ji 5 (.box sX (.tmp 1)),ji 6 (.box sX (.tmp 2)),ji 8 (.alloc P4 (.agg P4 [(.raw (it 0)),(.agg sX [(.raw (u32 0#32)),(.raw (it 0)),(.raw (it 0)),(.raw (it 0))]),(.raw (.bool false)),(.raw (.bool false)),(.raw (it 0))]))]) (.seq (.region true [jv 9 0,ji 10 (.load sX (.tmp 5)),ji 11 (.load sX (.tmp 5)),ji 12 (.load sX (.tmp 6)),ji 13 (.eqa sX true (.tmp 11) (.tmp 12)),jv 14 3,ji 15 (.build P4 [(.raw (it 0)),(.agg sX [(.raw (u32 0#32)),(.raw (it 0)),(.raw (it 0)),(.raw (it 0))]),(.raw (.bool false)),(.raw (.bool false)),(.raw (it 0))] [(0,.tmp 9),(1,.tmp 10),(2,.tmp 13),(3,.tmp 14)]),⟨none,.store P4 (.tmp 8) (.tmp 15),none⟩]) .ret))
def wK:List aN:=[(.cell 8 P4)]
theorem GR:MT 252 4 wK wJ:=mM Go.Proofs.Tryz.func252 (by kernel_rfl) (by kernel_rfl) (by kernel_rfl)
noncomputable def C9:aj:=(⟨_,by conv=>lhs;reduce;simp only[cr,simprocAttr,-List.reduceReplicate]⟩:CO 253).1
def Da:List aN:=[(.tmp 2)]
theorem NN:MT 253 1 Da C9:=mM Go.Proofs.Tryz.func253 (by kernel_rfl) (by kernel_rfl) (by kernel_rfl)
noncomputable def F6:aj:=(⟨_,by conv=>lhs;reduce;simp only[cr,simprocAttr,-List.reduceReplicate]⟩:CO 254).1
def F7:List aN:=[(.tmp 2)]
theorem Qn:MT 254 1 F7 F6:=mM Go.Proofs.Tryz.func254 (by kernel_rfl) (by kernel_rfl) (by kernel_rfl)
noncomputable def fF:aj:=(⟨_,by conv=>lhs;reduce;simp only[cr,simprocAttr,-List.reduceReplicate]⟩:CO 255).1
def fG:List aN:=[(.tmp 4)]
theorem EJ:MT 255 2 fG fF:=mM Go.Proofs.Tryz.func255 (by kernel_rfl) (by kernel_rfl) (by kernel_rfl)
noncomputable def gN:aj:=(⟨_,by conv=>lhs;reduce;simp only[cr,simprocAttr,-List.reduceReplicate]⟩:CO 256).1
def gO:List aN:=[(.tmp 4),(.tmp 5)]
theorem EK:MT 256 2 gO gN:=mM Go.Proofs.Tryz.func256 (by kernel_rfl) (by kernel_rfl) (by kernel_rfl)
noncomputable def Db:aj:=(⟨_,by conv=>lhs;reduce;simp only[cr,simprocAttr,-List.reduceReplicate]⟩:CO 257).1
def Dc:List aN:=[(.cell 6 (.ar 32 L8))]
theorem NO:MT 257 3 Dc Db:=mM Go.Proofs.Tryz.func257 (by kernel_rfl) (by kernel_rfl) (by kernel_rfl)
noncomputable def iZ:aj:=(⟨_,by conv=>lhs;reduce;simp only[cr,simprocAttr,-List.reduceReplicate]⟩:CO 258).1
def ja:List aN:=[(.tmp 4)]
theorem De:MT 258 2 ja iZ:=mM Go.Proofs.Tryz.func258 (by kernel_rfl) (by kernel_rfl) (by kernel_rfl)
noncomputable def gk:aj:=(⟨_,by conv=>lhs;reduce;simp only[cr,simprocAttr,-List.reduceReplicate]⟩:CO 259).1
def gq:List aN:=[(.tmp 4)]
theorem Df:MT 259 2 gq gk:=mM Go.Proofs.Tryz.func259 (by kernel_rfl) (by kernel_rfl) (by kernel_rfl)
noncomputable def iA:aj:=(⟨_,by conv=>lhs;reduce;simp only[cr,simprocAttr,-List.reduceReplicate]⟩:CO 260).1
def iB:List aN:=[(.cell 2 S11),(.tmp 3),(.tmp 4),(.tmp 5)]
theorem GS:MT 260 1 iB iA:=mM Go.Proofs.Tryz.func260 (by kernel_rfl) (by kernel_rfl) (by kernel_rfl)
def EL:aj:=(.seq (.region false [ji 6 (.alloc (.ar 32 L8) (.agg (.ar 32 L8) (List.replicate 32 (.raw (u8 0#8))))),ji 7 (.mv (.const (it 0)))]) (.seq (.region false [jv 11 0,jv 12 1,ji 13 (.call 256 [.tmp 11,.tmp 12]),jv 10 13,ji 14 (.ext (.tmp 10) 0),ji 15 (.ext (.tmp 10) 1),jv 8 14,jv 9 15]) (.seq (.seq (.region false [jv 16 9,ji 17 (.bin .neq (.tmp 16) (.const (it 0)))]) (.cond (.tmp 17) (.seq (.region false [ji 18 (.build (.ar 32 L8) (List.replicate 32 (.raw (u8 0#8))) []),jv 19 9,⟨none,.store (.ar 32 L8) (.tmp 6) (.tmp 18),none⟩,jv 7 19]) .ret) .skip)) (.seq (.region false [jv 20 8,jv 21 2,ji 22 (.call 280 [.tmp 20,.tmp 21]),⟨none,.store (.ar 32 L8) (.tmp 6) (.tmp 22),none⟩,ji 7 (.mv (.const (it 0)))]) .ret))))
def EM:List aN:=[(.cell 6 (.ar 32 L8)),(.tmp 7)]
def F8:aj:=(.seq (.region false [ji 2 (.mv (.const (u32 0#32))),ji 3 (.mv (.const (.slice none 0 0))),ji 4 (.mv (.const (u32 0#32))),ji 5 (.mv (.const (.slice none 0 0))),ji 6 (.mv (.const (it 0)))]) (.seq (.region false [ji 7 (.mv (.const (.func (.func 284) #[] #[])))]) (.seq (.region false [jv 19 0,ji 8 (.alloc .ref (.raw (.slice none 0 0))),⟨none,.store .ref (.tmp 8) (.tmp 19),none⟩]) (.seq (.region false [ji 21 (.call 285 [.tmp 8,.const (it 4)]),jv 20 21,ji 22 (.ext (.tmp 20) 0),ji 23 (.ext (.tmp 20) 1),jv 9 22,jv 10 23]) (.seq (.seq (.region false [jv 24 10,ji 25 (.un .not (.tmp 24)),jv 26 25,⟨some 27,.load .ref (.tmp 8),some (26,false)⟩,⟨some 28,.len (.tmp 27),some (26,false)⟩,⟨some 29,.bin .lss (.tmp 28) (.const (it 4)),some (26,false)⟩,ji 30 (.pick (.tmp 26) (.const (.bool true)) (.tmp 29))]) (.cond (.tmp 30) (.seq (.region false [jv 31 7,ji 32 (.qW [284] (.tmp 31) [.const (it 2)]),ji 33 (.ext (.tmp 32) 0),ji 34 (.ext (.tmp 32) 1),ji 35 (.ext (.tmp 32) 2),ji 36 (.ext (.tmp 32) 3),ji 37 (.ext (.tmp 32) 4),jv 2 33,jv 3 34,jv 4 35,jv 5 36,jv 6 37]) .ret) .skip)) (.seq (.region false [ji 39 (.load .ref (.tmp 8)),ji 40 (.call 268 [.tmp 39]),ji 41 (.call 49 [.tmp 40]),jv 38 41,ji 42 (.ext (.tmp 38) 0),ji 43 (.ext (.tmp 38) 1),ji 11 (.alloc vG (.agg vG [(.raw (it 0)),(.raw (it 0)),(.raw (it 0))])),⟨none,.store vG (.tmp 11) (.tmp 42),none⟩,jv 10 43]) (.seq (.seq (.region false [jv 44 10,ji 45 (.un .not (.tmp 44))]) (.cond (.tmp 45) (.seq (.region false [jv 46 7,ji 47 (.qW [284] (.tmp 46) [.const (it 6)]),ji 48 (.ext (.tmp 47) 0),ji 49 (.ext (.tmp 47) 1),ji 50 (.ext (.tmp 47) 2),ji 51 (.ext (.tmp 47) 3),ji 52 (.ext (.tmp 47) 4),jv 2 48,jv 3 49,jv 4 50,jv 5 51,jv 6 52]) .ret) .skip)) (.seq (.region false [ji 54 (.fx vG (.tmp 11) 1),ji 55 (.load LI (.tmp 54)),ji 56 (.bin .add (.tmp 55) (.const (it 1))),ji 57 (.bin .mul (.const (it 32)) (.tmp 56)),ji 58 (.bin .add (.const (it 4)) (.tmp 57)),ji 59 (.call 285 [.tmp 8,.tmp 58]),jv 53 59,ji 60 (.ext (.tmp 53) 0),ji 61 (.ext (.tmp 53) 1),jv 12 60,jv 10 61]) (.seq (.seq (.region false [jv 62 10,ji 63 (.un .not (.tmp 62)),jv 64 63,⟨some 65,.load .ref (.tmp 8),some (64,false)⟩,⟨some 66,.len (.tmp 65),some (64,false)⟩,⟨some 67,.bin .lss (.tmp 66) (.const (it 4)),some (64,false)⟩,ji 68 (.pick (.tmp 64) (.const (.bool true)) (.tmp 67))]) (.cond (.tmp 68) (.seq (.region false [jv 69 7,ji 70 (.qW [284] (.tmp 69) [.const (it 2)]),ji 71 (.ext (.tmp 70) 0),ji 72 (.ext (.tmp 70) 1),ji 73 (.ext (.tmp 70) 2),ji 74 (.ext (.tmp 70) 3),ji 75 (.ext (.tmp 70) 4),jv 2 71,jv 3 72,jv 4 73,jv 5 74,jv 6 75]) .ret) .skip)) (.seq (.region false [ji 76 (.load .ref (.tmp 8)),ji 77 (.call 268 [.tmp 76]),jv 13 77]) (.seq (.region false [jv 79 13,ji 80 (.call 48 [.tmp 79]),jv 78 80,ji 81 (.ext (.tmp 78) 0),ji 82 (.ext (.tmp 78) 1),jv 14 81,jv 10 82]) (.seq (.seq (.region false [jv 83 10,ji 84 (.un .not (.tmp 83))]) (.cond (.tmp 84) (.seq (.region false [jv 85 7,ji 86 (.qW [284] (.tmp 85) [.const (it 6)]),ji 87 (.ext (.tmp 86) 0),ji 88 (.ext (.tmp 86) 1),ji 89 (.ext (.tmp 86) 2),ji 90 (.ext (.tmp 86) 3),ji 91 (.ext (.tmp 86) 4),jv 2 87,jv 3 88,jv 4 89,jv 5 90,jv 6 91]) .ret) .skip)) (.seq (.region false [ji 92 (.load .ref (.tmp 8)),ji 93 (.slice L8 (.tmp 92) (some (.const (it 4))) none none),⟨none,.store .ref (.tmp 8) (.tmp 93),none⟩]) (.seq (.region false [jv 94 9,ji 95 (.call 268 [.tmp 94]),jv 15 95]) (.seq (.seq (.region false [ji 96 (.load .ref (.tmp 8)),ji 97 (.len (.tmp 96)),jv 98 14,ji 99 (.bin .mul (.const (it 32)) (.tmp 98)),ji 100 (.bin .neq (.tmp 97) (.tmp 99)),jv 101 100,⟨some 102,.mv (.tmp 15),some (101,false)⟩,⟨some 103,.mv (.tmp 14),some (101,false)⟩,⟨some 104,.bin .shr (.tmp 102) (.tmp 103),some (101,false)⟩,⟨some 105,.bin .neq (.tmp 104) (.const (u32 0#32)),some (101,false)⟩,ji 106 (.pick (.tmp 101) (.const (.bool true)) (.tmp 105))]) (.cond (.tmp 106) (.seq (.region false [jv 107 7,ji 108 (.qW [284] (.tmp 107) [.const (it 2)]),ji 109 (.ext (.tmp 108) 0),ji 110 (.ext (.tmp 108) 1),ji 111 (.ext (.tmp 108) 2),ji 112 (.ext (.tmp 108) 3),ji 113 (.ext (.tmp 108) 4),jv 2 109,jv 3 110,jv 4 111,jv 5 112,jv 6 113]) .ret) .skip)) (.seq (.region false [ji 16 (.mv (.const (.slice none 0 0)))]) (.seq (.block 0 (.loop (.seq (.seq (.region false [ji 114 (.load .ref (.tmp 8)),ji 115 (.len (.tmp 114)),ji 116 (.bin .gtr (.tmp 115) (.const (it 0)))]) (.cond (.tmp 116) .skip (.exit 0))) (.block 1 (.seq (.region false [ji 118 (.call 285 [.tmp 8,.const (it 32)]),jv 117 118,ji 119 (.ext (.tmp 117) 0),ji 120 (.ext (.tmp 117) 1),jv 17 119,jv 18 120]) (.region false [jv 121 16,jv 122 17,ji 123 (.s2a 32 L8 (.tmp 122)),ji 124 (.load (.ar 32 L8) (.tmp 123)),ji 125 (.fw (.ar 32 L8) 1 (.agg (.ar 32 L8) (List.replicate 32 (.raw (u8 0#8)))) [(0,.tmp 124)]),ji 126 (.append (.ar 32 L8) 32 (.tmp 121) (.tmp 125)),jv 16 126])))))) (.seq (.region false [jv 127 15,ji 128 (.fw L8 0 (.raw (u8 0#8)) []),jv 129 12,ji 130 (.append L8 1 (.tmp 128) (.tmp 129)),jv 131 13,jv 132 16,jv 2 127,jv 3 130,jv 4 131,jv 5 132,ji 6 (.mv (.const (it 0)))]) .ret))))))))))))))))))
def F9:List aN:=[(.tmp 2),(.tmp 3),(.tmp 4),(.tmp 5),(.tmp 6)]
theorem Qo:MT 267 1 F9 F8:=mM Go.Proofs.Tryz.func267 (by kernel_rfl) (by kernel_rfl) (by kernel_rfl)
noncomputable def L9:aj:=(⟨_,by conv=>lhs;reduce;simp only[cr,simprocAttr,-List.reduceReplicate]⟩:CO 268).1
def Ma:List aN:=[(.tmp 2)]
theorem XU:MT 268 1 Ma L9:=mM Go.Proofs.Tryz.func268 (by kernel_rfl) (by kernel_rfl) (by kernel_rfl)
noncomputable def Ga:aj:=(⟨_,by conv=>lhs;reduce;simp only[cr,simprocAttr,-List.reduceReplicate]⟩:CO 269).1
def Gb:List aN:=[(.cell 6 (.ar 32 L8)),(.tmp 7)]
theorem Qp:MT 269 3 Gb Ga:=mM Go.Proofs.Tryz.func269 (by kernel_rfl) (by kernel_rfl) (by kernel_rfl)
noncomputable def jb:aj:=(⟨_,by conv=>lhs;reduce;simp only[cr,simprocAttr,-List.reduceReplicate]⟩:CO 270).1
def jc:List aN:=[(.tmp 4)]
theorem nP:MT 270 2 jc jb:=mM Go.Proofs.Tryz.func270 (by kernel_rfl) (by kernel_rfl) (by kernel_rfl)
noncomputable def cR:aj:=(⟨_,by conv=>lhs;reduce;simp only[cr,simprocAttr,-List.reduceReplicate]⟩:CO 274).1
def cS:List aN:=[(.tmp 4)]
theorem tM:MT 274 2 cS cR:=mM Go.Proofs.Tryz.func274 (by kernel_rfl) (by kernel_rfl) (by kernel_rfl)
noncomputable def Mb:aj:=(⟨_,by conv=>lhs;reduce;simp only[cr,simprocAttr,-List.reduceReplicate]⟩:CO 275).1
def Mc:List aN:=[(.cell 2 S41)]
theorem XV:MT 275 1 Mc Mb:=mM Go.Proofs.Tryz.func275 (by kernel_rfl) (by kernel_rfl) (by kernel_rfl)
noncomputable def yb:aj:=(⟨_,by conv=>lhs;reduce;simp only[cr,simprocAttr,-List.reduceReplicate]⟩:CO 276).1
def yc:List aN:=[(.cell 4 S41)]
theorem I6:MT 276 2 yc yb:=mM Go.Proofs.Tryz.func276 (by kernel_rfl) (by kernel_rfl) (by kernel_rfl)
noncomputable def Md:aj:=(⟨_,by conv=>lhs;reduce;simp only[cr,simprocAttr,-List.reduceReplicate]⟩:CO 277).1
def Me:List aN:=[(.tmp 2)]
theorem XW:MT 277 1 Me Md:=mM Go.Proofs.Tryz.func277 (by kernel_rfl) (by kernel_rfl) (by kernel_rfl)
noncomputable def An:aj:=(⟨_,by conv=>lhs;reduce;simp only[cr,simprocAttr,-List.reduceReplicate]⟩:CO 278).1
def Ao:List aN:=[(.cell 2 (.ar 32 L8))]
theorem KW:MT 278 1 Ao An:=mM Go.Proofs.Tryz.func278 (by kernel_rfl) (by kernel_rfl) (by kernel_rfl)
noncomputable def uH:aj:=(⟨_,by conv=>lhs;reduce;simp only[cr,simprocAttr,-List.reduceReplicate]⟩:CO 279).1
def uI:List aN:=[(.cell 2 S11),(.tmp 3)]
theorem EN:MT 279 1 uI uH:=mM Go.Proofs.Tryz.func279 (by kernel_rfl) (by kernel_rfl) (by kernel_rfl)
def NQ:aj:=(.seq (.region false [ji 3 (.box (.ar 4 (.ar 32 L8)) (.tmp 1)),ji 4 (.mv (.const (.slice none 0 0)))]) (.seq (.region false [jv 6 0,ji 7 (.len (.tmp 6)),jv 5 7]) (.seq (.region false [ji 8 (.fw L8 4 (.raw (u8 0#8)) [(0,.const (u8 81#8)),(1,.const (u8 85#8)),(2,.const (u8 79#8)),(3,.const (u8 84#8))]),ji 9 (.Pa L8 (.tmp 8)),jv 10 5,ji 11 (.bin .shr (.tmp 10) (.const (u64 24#64))),ji 12 (.conv .u8 (.tmp 11)),jv 13 5,ji 14 (.bin .shr (.tmp 13) (.const (u64 16#64))),ji 15 (.conv .u8 (.tmp 14)),jv 16 5,ji 17 (.bin .shr (.tmp 16) (.const (u64 8#64))),ji 18 (.conv .u8 (.tmp 17)),jv 19 5,ji 20 (.conv .u8 (.tmp 19)),ji 21 (.fw L8 4 (.raw (u8 0#8)) [(0,.tmp 12),(1,.tmp 15),(2,.tmp 18),(3,.tmp 20)]),jv 22 0,ji 23 (.load (.ar 4 (.ar 32 L8)) (.tmp 3)),ji 24 (.call 254 [.tmp 23]),ji 25 (.fw .ref 4 (.raw (.slice none 0 0)) [(0,.tmp 9),(1,.tmp 21),(2,.tmp 22),(3,.tmp 24)]),jv 4 25]) .ret)))
def NR:List aN:=[(.tmp 4)]
end Go.Am.F
namespace Go.Am.F
set_option maxRecDepth 100000
set_option maxHeartbeats 0
noncomputable def Ap:aj:=(⟨_,by conv=>lhs;reduce;simp only[cr,simprocAttr,-List.reduceReplicate]⟩:CO 284).1
def Aq:List aN:=[(.tmp 2),(.tmp 3),(.tmp 4),(.tmp 5),(.tmp 6)]
theorem KX:MT 284 1 Aq Ap:=mM Go.Proofs.Tryz.func284 (by kernel_rfl) (by kernel_rfl) (by kernel_rfl)
noncomputable def lJ:aj:=(⟨_,by conv=>lhs;reduce;simp only[cr,simprocAttr,-List.reduceReplicate]⟩:CO 285).1
def lK:List aN:=[(.tmp 4),(.tmp 5)]
theorem Tz:MT 285 2 lK lJ:=mM Go.Proofs.Tryz.func285 (by kernel_rfl) (by kernel_rfl) (by kernel_rfl)
noncomputable def Gc:aj:=(⟨_,by conv=>lhs;reduce;simp only[cr,simprocAttr,-List.reduceReplicate]⟩:CO 286).1
def Gd:List aN:=[(.tmp 2),(.cell 3 (.ar 32 L8)),(.tmp 4),(.tmp 5)]
theorem Qq:MT 286 1 Gd Gc:=mM Go.Proofs.Tryz.func286 (by kernel_rfl) (by kernel_rfl) (by kernel_rfl)
noncomputable def Mf:aj:=(⟨_,by conv=>lhs;reduce;simp only[cr,simprocAttr,-List.reduceReplicate]⟩:CO 289).1
def Mg:List aN:=[(.tmp 4)]
theorem XX:MT 289 2 Mg Mf:=mM Go.Proofs.Tryz.func289 (by kernel_rfl) (by kernel_rfl) (by kernel_rfl)
noncomputable def yd:aj:=(⟨_,by conv=>lhs;reduce;simp only[cr,simprocAttr,-List.reduceReplicate]⟩:CO 290).1
def yf:List aN:=[(.tmp 2)]
theorem I7:MT 290 1 yf yd:=mM Go.Proofs.Tryz.func290 (by kernel_rfl) (by kernel_rfl) (by kernel_rfl)
end Go.Am.F
namespace Go.Am
theorem fn1_ev{α:Type}(rd:D->Option α)(pre:α->Bool)(out:α->D×Rows)(d:D):nv rd pre out [d] []=(rd d).bind λx=>bif pre x then some (out x)else none:=by
 simp only[nv];cases rd d<;>rfl
def Kx{α β γ:Type}(rd:D->Option α)(rd':D->Option β)(Vz:D->Option γ)(pre:α->β->γ->Bool)(out:α->β->γ->D×Rows):Fn
 |[d,e,f],[]=>match rd d,rd' e,Vz f with
  |some x,some y,some z=>bif pre x y z then some (out x y z)else none
  | _,_,_=>none
 | _,_=>none
theorem fV{α β γ:Type}{rd:D->Option α}{rd':D->Option β}{Vz:D->Option γ}{pre:α->β->γ->Bool}{out:α->β->γ->D×Rows}{ds:List D}{rows:Rows}{r:D×Rows}(h:Kx rd rd' Vz pre out ds rows=some r):
  ∃d e f x y z,ds=[d,e,f]/\rows=[]/\rd d=some x/\rd' e=some y/\Vz f=some z/\pre x y z=true/\r=out x y z:=by
 unfold Kx at h
 split at h
 ·rename_i d e f
  split at h
  ·rename_i x y z hx hy hz
   cases hp:pre x y z with
   |false=>rw[hp]at h;cases h
   |true=>rw[hp]at h;cases h;exact⟨d,e,f,x,y,z,rfl,rfl,hx,hy,hz,hp,rfl⟩
  ·cases h
 ·cases h
theorem Ba{α β γ:Type}(rd:D->Option α)(rd':D->Option β)(Vz:D->Option γ)(pre:α->β->γ->Bool)(out:α->β->γ->D×Rows)(d e f:D):
  Kx rd rd' Vz pre out [d,e,f] []=(rd d).bind λx=>(rd' e).bind λy=>(Vz f).bind λz=>bif pre x y z then some (out x y z)else none:=by
 simp only[Kx];cases rd d<;>cases rd' e<;>cases Vz f<;>rfl
theorem cA{P:Program}{G:Nat->Option D}{f:FuncId}{A:lQ}{F:Fn}(hA:aQ G P f A)
  (h:∀ds rows r,F ds rows=some r->rows=[]/\∃ds',aW ZH ds ds'/\A ds' [] (λd rows=>xE rows d r.1 r.2)):aQ G P f (Fn.run F):=by
 intro ds rows K hr ρ w T args hrows nD BL hargs hG
 unfold Fn.run at hr
 obtain⟨r,hr,hk⟩:=au hr
 obtain⟨rfl,ds',h1,h2⟩:=h ds rows r hr
 have hdom':∀r,ρ r=none:=λr=>nD r (by simp)
 have hargs':aW (VR ρ w T) ds' args.toList:=by
  refine⟨by rw[<-h1.len];exact hargs.len,λi x y hx hy=>?_⟩
  have hi:i<ds.length:=by rw[h1.len];exact dj hx
  have hd:=aao hi
  exact(h1.at_ i _ x hd hx).vr (hargs.at_ i _ y hd hy)
 exact(hA ds' [] _ h2 ρ w T args hrows nD BL hargs' hG).mono λe w' hb=>Eg.No hdom' hb λd rows hx=>⟨_,_,hx,hk⟩
theorem eC.nrm{d:D}{l:List (BitVec 8)}(h:eC d l):∃e,ZH d (.dh L8 (bs l) e):=by
 rcases h with⟨rfl,rfl⟩|⟨e,rfl⟩
 ·exact⟨true,.nil _ _⟩
 ·exact⟨e,.refl _⟩
theorem cF{d:D}{l:List (BitVec 8)}(h:eP d=some l):∃e,ZH d (.dh L8 (bs l) e):=(fC h).nrm
noncomputable def qu{α:Type}(s:Sh)(mk:α->D):D->Option (List α)
 | .raw (.slice none 0 0)=>some []
 | .dh t l _=>bif t==s then eK (cj mk) l else none
 | _=>none
theorem zd{α:Type}{s:Sh}{mk:α->D}{d:D}{l:List α}(h:qu s mk d=some l):∃e,ZH d (.dh s (l.map mk) e):=by
 unfold qu at h
 split at h
 ·cases h;exact⟨true,.nil _ _⟩
 ·rename_i t l0 e
  cases hb:(t==s)with
  |false=>rw[hb]at h;cases h
  | true =>
   rw[hb]at h
   have:t=s:=by simpa using hb
   subst this
   obtain⟨g1,g2⟩:=lC h
   have:l0=l.map mk:=by
    apply ac7
    ·simp[g1]
    ·intro i h1 h2
     have h3:i<l.length:=by omega
     have:=aH (g2 i _ _ (aao h1) (aao h3))
     simpa using this
   rw[this]
   exact⟨e,.refl _⟩
 ·cases h
theorem I8{α:Type}{s:Sh}{mk:α->D}(hinj:∀x y,mk x=mk y->x=y)(l:List α)(e:Bool):qu s mk (.dh s (l.map mk) e)=some l:=by
 simp only[qu]
 rw[show(s==s)=true by simp,aaU]
 induction l with
 |nil=>rfl
 |cons x l ih=>simp only[abm,eK,bZ hinj,ih]
theorem bs_set(l:List (BitVec 8))(i:Nat)(x:BitVec 8):(bs l).set i (.raw (u8 x))=bs (l.set i x):=by simp[bs,acr]
theorem lL(l:List (BitVec 8)):(bs l).take l.length=bs l:=by rw[<-aE l,aa8]
theorem TA(l:List (BitVec 8))(e:Bool)(i:Nat)(h:i<l.length)(rows:Rows)(k:D->Rows->Prop):pC L8 (i:Int) rows k (.dh L8 (bs l) e)=k (.cb (.raw (u8 (l.getD i 0#8)))) rows:=by
 have:=hJ (k:=k) (rows:=rows) (n:=(i:Int)) (.inr ⟨e,rfl⟩:eC (.dh L8 (bs l) e) l) (by omega)
 simpa using this
theorem bx{C:aU}{a:aj}{Q:gF->Env->Rows->Prop}(N:Nat)(I:Nat->Env->Rows->Prop)
  (VA:∀i,i<N->∀env rows,I i env rows->∀R:Env->Rows->Prop,(∀env' aa,I (i+1) env' aa->R env' aa)->aw C a (XC R Q) env rows)
  (hend:∀env rows,I N env rows->∀R:Env->Rows->Prop,aw C a (XC R Q) env rows){env:Env}{rows:Rows}(h0:I 0 env rows):LP C a Q env rows:=by
 refine qM (λk env rows=>∃i,k=N-i/\i<=N/\I i env rows) ?_ N ⟨0,by simp,by omega,h0⟩
 rintro k env rows ⟨i,rfl,hi,hh⟩ R hR
 rcases aaT i N with h|h
 ·exact VA i h env rows hh R (λenv' aa h1=>hR (N-(i+1)) env' aa (by omega) ⟨i+1,rfl,by omega,h1⟩)
 ·have:i=N:=by omega
  subst this
  exact hend env rows hh R
theorem a9(R l:Rows):live (R++l) R.length=live l 0:=by
 simp only[live]
 rw[aaO (aax _),acj]
theorem bg(R l:Rows)(k:Nat):live (R++l) (R.length+k)=live l k:=by
 simp only[live]
 rw[aaO (by omega)]
 simp
theorem Qr(R l:Rows)(x:Option Row):(R++l).set R.length x=R++l.set 0 x:=by rw[acg _ _ (aax _)];simp
theorem Qs(R l:Rows)(k:Nat)(x:Option Row):(R++l).set (R.length+k) x=R++l.set k x:=by rw[acg _ _ (by omega)];simp
theorem ab{R:Rows}{r:Nat}{y:Row}(h:live R r=some y)(l:Rows):live (R++l) r=some y:=bG h
theorem cG(i:Nat)(h:i<9223372036854775807):wz ((i:Int)+1)=((i+1:Nat):Int):=by rw[bh (by omega)];omega
end Go.Am
namespace Go.Am
set_option linter.defProp false
def ag:=(And.intro (And.intro (And.intro (And.intro (And.intro (And.intro @q_skip @q_region) (And.intro @Xu (And.intro @q_draw1 @q_draw))) (And.intro (And.intro @q_tail @q_stab) (And.intro @q_st2 (And.intro @q_ta0 @q_ta1)))) (And.intro (And.intro (And.intro @q_drawf @q_stabF) (And.intro @q_intF (And.intro @q_tf0 @q_tf1))) (And.intro (And.intro @q_seq (And.intro @q_cond @q_block)) (And.intro @q_loop (And.intro @q_exit @q_ret))))) (And.intro (And.intro (And.intro (And.intro @q_fr @q_fn) (And.intro @q_sn (And.intro @q_sr @q_se))) (And.intro (And.intro @q_bn @q_br) (And.intro @q_be (And.intro @q_on @q_oc)))) (And.intro (And.intro (And.intro @q_og @q_ko) (And.intro @q_lk (And.intro @o_mv @o_pick))) (And.intro (And.intro @o_bin (And.intro @o_eqa @o_beq)) (And.intro @o_un (And.intro @o_conv @o_alloc)))))) (And.intro (And.intro (And.intro (And.intro (And.intro @o_box @o_build) (And.intro @o_bslice (And.intro @o_load @o_store))) (And.intro (And.intro @o_nilc @o_faddr) (And.intro @o_field (And.intro @o_iaddra @o_iaddrs)))) (And.intro (And.intro (And.intro @o_index @o_sindex) (And.intro @o_slicea (And.intro @o_slice @o_mks))) (And.intro (And.intro @o_ext (And.intro @o_len @o_strlen)) (And.intro @o_append (And.intro @Xv @o_copy))))) (And.intro (And.intro (And.intro (And.intro @o_minmax @o_b2s) (And.intro @o_s2b (And.intro @o_call @q_fns))) (And.intro (And.intro @q_fnn @o_callv) (And.intro @o_eqnil (And.intro @o_eqsn @o_s2a)))) (And.intro (And.intro (And.intro @o_frzb @o_mnz) (And.intro @o_mkm (And.intro @o_mset @o_mget))) (And.intro (And.intro @o_clr (And.intro @o_mkf @o_idxb)) (And.intro @lp_s (And.intro @lp_n @lp_e)))))))
def ah:=(And.intro (And.intro (And.intro (And.intro (And.intro (And.intro (And.intro @q_st0 (And.intro @q_st1 @q_sf0)) (And.intro (And.intro @q_sf1 @q_sfa) (And.intro @q_sfm @q_sfl))) (And.intro (And.intro (And.intro @q_sfe @q_sff) (And.intro @q_isp @q_qfn)) (And.intro (And.intro @q_qgl @q_a0) (And.intro @q_a1 @q_at)))) (And.intro (And.intro (And.intro @q_ac (And.intro @n_raw @n_ptr)) (And.intro (And.intro @n_sl @n_lst) (And.intro @q_r1 @q_r0))) (And.intro (And.intro (And.intro @q_r2 @sl_sl) (And.intro @sl_lst @sl_nil)) (And.intro (And.intro @so_sl @so_lst) (And.intro @so_nil @el_sl))))) (And.intro (And.intro (And.intro (And.intro @el_lst (And.intro @lv_0 @lv_s)) (And.intro (And.intro @lv_new @g_row) (And.intro @g_nil @g_agg))) (And.intro (And.intro (And.intro @s_row @s_nil) (And.intro @s_agg @sub_0)) (And.intro (And.intro @sub_s @sub_ar) (And.intro @a_nil @a_sl)))) (And.intro (And.intro (And.intro @most_eq (And.intro @bh @q_bd)) (And.intro (And.intro @q_skl @q_sks) (And.intro @q_ct @q_cf))) (And.intro (And.intro (And.intro @q_gtt @q_gtf) (And.intro @q_gft @q_gff)) (And.intro (And.intro @q_gz @q_bs) (And.intro @q_et @q_ec)))))) (And.intro (And.intro (And.intro (And.intro (And.intro @q_eg (And.intro @q_ps @q_pn)) (And.intro (And.intro @q_es0 @q_es1) (And.intro @q_eo0 @q_eo1))) (And.intro (And.intro (And.intro @eL_n @eL_c) (And.intro @eD_agg @eD_u32)) (And.intro (And.intro @q_ixl @q_ixs) (And.intro @mm_c @mf_n)))) (And.intro (And.intro (And.intro @mf_c (And.intro @fold_it @q_frq)) (And.intro (And.intro @q_ors @nb_nn) (And.intro @nb_pn @nb_cn))) (And.intro (And.intro (And.intro @asIt_it @mr_mp) (And.intro @me_mp @mr_ft)) (And.intro (And.intro @mr_fn @q_pk) (And.intro @q_pkt @q_pkf))))) (And.intro (And.intro (And.intro (And.intro @q_f0 (And.intro @q_f1 @asI_it)) (And.intro (And.intro @asI_u8 @isSc_u8) (And.intro @asI_u32 @isSc_u32))) (And.intro (And.intro (And.intro @asI_u64 @isSc_u64) (And.intro @isSc_it @isSc_b)) (And.intro (And.intro @isSc_s @fits_raw) (And.intro @PW @sh_beq)))) (And.intro (And.intro (And.intro @fits_lst (And.intro @fits_sl @fits_ptr)) (And.intro (And.intro @fits_mp @Xw) (And.intro @cv_8_32 @cv_8_it))) (And.intro (And.intro (And.intro @cv_it_8 @cv_16_it) (And.intro @cv_32_8 @cv_32_64)) (And.intro (And.intro @cv_32_it @cv_it_32) (And.intro @cv_64_8 @cv_64_it))))))) (And.intro (And.intro (And.intro (And.intro (And.intro (And.intro @cv_it_64 (And.intro @ze_n @ze_c)) (And.intro (And.intro @b_add8 @b_sub8) (And.intro @b_and8 @b_xor8))) (And.intro (And.intro (And.intro @Xx @b_rem8) (And.intro @b_eql8 @b_neq8)) (And.intro (And.intro @b_leq8 @b_geq8) (And.intro @XA @XB)))) (And.intro (And.intro (And.intro @b_add32 (And.intro @b_sub32 @b_mul32)) (And.intro (And.intro @b_and32 @b_or32) (And.intro @b_xor32 @SP))) (And.intro (And.intro (And.intro @b_rem32 @b_eql32) (And.intro @b_neq32 @b_lss32)) (And.intro (And.intro @b_leq32 @b_gtr32) (And.intro @b_geq32 @SQ))))) (And.intro (And.intro (And.intro (And.intro @SR (And.intro @SS @SU)) (And.intro (And.intro @u_not32 @b_add64) (And.intro @b_sub64 @b_mul64))) (And.intro (And.intro (And.intro @b_and64 @b_quo64) (And.intro @b_rem64 @b_gtr64)) (And.intro (And.intro @b_geq64 @SW) (And.intro @SX @SY)))) (And.intro (And.intro (And.intro @b_addi (And.intro @b_subi @b_muli)) (And.intro (And.intro @b_quoi @b_remi) (And.intro @b_eqli @b_lssi))) (And.intro (And.intro (And.intro @b_leqi @b_gtri) (And.intro @b_geqi @b_neqi)) (And.intro (And.intro @b_eqls @u_notb) (And.intro @aaz @aaU.{1})))))) (And.intro (And.intro (And.intro (And.intro (And.intro @aaK.{1} (And.intro @abg.{0,0} @acu.{0,0})) (And.intro (And.intro @adt.{0} @Option.getD_none.{0}) (And.intro @abf @acW))) (And.intro (And.intro (And.intro @ad0.{1} @aaV.{0}) (And.intro @aaP.{0} @aap.{0})) (And.intro (And.intro @abe.{0} @aaA.{0,0}) (And.intro @List.set_cons_zero.{0} @List.set_cons_succ.{0})))) (And.intro (And.intro (And.intro @ac3.{0} (And.intro @List.replicate_zero.{0} @abG.{0})) (And.intro (And.intro @ab1.{0} @aaZ.{0}) (And.intro @abu.{0} @q_rn))) (And.intro (And.intro (And.intro @q_rr @q_re) (And.intro @abm.{0,0} @adJ.{0,0})) (And.intro (And.intro @acP @abw) (And.intro @abT @abR.{1}))))) (And.intro (And.intro (And.intro (And.intro @abY.{0} (And.intro @forall_eq'.{1} @abz.{0})) (And.intro (And.intro @List.take_succ_cons.{0} @acF.{0}) (And.intro @List.drop_succ_cons.{0} @aey.{0}))) (And.intro (And.intro (And.intro @List.drop_nil.{0} @ne_eq.{1}) (And.intro @ad9 @BitVec.ofNat_eq_ofNat)) (And.intro (And.intro @abk @adz) (And.intro @ado @ab8)))) (And.intro (And.intro (And.intro (And.intro @acQ @Bool.or_true) (And.intro @Bool.or_false @adI)) (And.intro (And.intro @acn @Bool.not_eq_true) (And.intro @Bool.not_eq_false @aaD))) (And.intro (And.intro (And.intro @aaE @acm) (And.intro @and_self @aby)) (And.intro (And.intro @aca @acv) (And.intro @Int.le_refl @aax))))))))
def amC:=(And.intro (And.intro (And.intro (And.intro @ii @vw_agg) (And.intro @vw_ptr @fn1_ev)) (And.intro (And.intro @Ba @BU) (And.intro @Ns @fL))) (And.intro (And.intro (And.intro @BT @qd) (And.intro @aE @lL)) (And.intro (And.intro @Option.bind_none.{0,0} @fM) (And.intro @hU @bs_set))))
def aK:=(And.intro (And.intro @a9 (And.intro @bg @Qr)) (And.intro (And.intro @Qs @aaB.{0}) (And.intro @aaS.{0} @abO)))
end Go.Am

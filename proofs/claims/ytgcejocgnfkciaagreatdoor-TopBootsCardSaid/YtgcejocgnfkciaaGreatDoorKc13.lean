import Derived.Test.YtgcejocgnfkciaaGreatDoorKc12
import Derived.Test.YtgcejocgnfkciaaGreatDoorProg
namespace Go.Am.F
set_option maxRecDepth 100000
set_option maxHeartbeats 0
set_option linter.defProp false
abbrev ji(d:Nat)(o:mi):aT:=⟨some d,o,none⟩
abbrev jv(d x:Nat):aT:=⟨some d,.mv (.tmp x),none⟩
noncomputable def codeOf(P:Program)(k:Nat):aB:=match P.funcs[k]? with
 |some f=>match f.body with
  |some c=>(comp P f.ntmps c).getD .skip
  |none=> .skip
 |none=> .skip
abbrev CO(k:Nat):={c:aB//codeOf Go.Proofs.Tryz.prog k=c}
theorem cf8{n:Int}(h:0≤n)(h1:n<256):Value.int .u8 n=u8 (BitVec.ofInt 8 n):=by
 obtain⟨m,rfl⟩:=Int.eq_ofNat_of_zero_le h
 unfold u8
 congr 1
 simp
 omega
theorem cf16{n:Int}(h:0≤n)(h1:n<65536):Value.int .u16 n=u16 (BitVec.ofInt 16 n):=by
 obtain⟨m,rfl⟩:=Int.eq_ofNat_of_zero_le h
 unfold u16
 congr 1
 simp
 omega
theorem cf32{n:Int}(h:0≤n)(h1:n<4294967296):Value.int .u32 n=u32 (BitVec.ofInt 32 n):=by
 obtain⟨m,rfl⟩:=Int.eq_ofNat_of_zero_le h
 unfold u32
 congr 1
 simp
 omega
theorem cf64{n:Int}(h:0≤n)(h1:n<18446744073709551616):Value.int .u64 n=u64 (BitVec.ofInt 64 n):=by
 obtain⟨m,rfl⟩:=Int.eq_ofNat_of_zero_le h
 unfold u64
 congr 1
 simp
 omega
theorem cfi(n:Int):Value.int .i64 n=it n:=rfl
theorem cfa2{e:Sh}{x:D}:D.agg (.ar 2 e) [x,x]= .agg (.ar 2 e) (List.replicate 2 x):=rfl
theorem cfb2{e:Sh}{x:D}{p:List (Nat×X)}:mi.build (.ar 2 e) [x,x] p= .build (.ar 2 e) (List.replicate 2 x) p:=rfl
theorem cfa4{e:Sh}{x:D}:D.agg (.ar 4 e) [x,x,x,x]= .agg (.ar 4 e) (List.replicate 4 x):=rfl
theorem cfb4{e:Sh}{x:D}{p:List (Nat×X)}:mi.build (.ar 4 e) [x,x,x,x] p= .build (.ar 4 e) (List.replicate 4 x) p:=rfl
theorem cfa8{e:Sh}{x:D}:D.agg (.ar 8 e) [x,x,x,x,x,x,x,x]= .agg (.ar 8 e) (List.replicate 8 x):=rfl
theorem cfb8{e:Sh}{x:D}{p:List (Nat×X)}:mi.build (.ar 8 e) [x,x,x,x,x,x,x,x] p= .build (.ar 8 e) (List.replicate 8 x) p:=rfl
theorem cfa16{e:Sh}{x:D}:D.agg (.ar 16 e) [x,x,x,x,x,x,x,x,x,x,x,x,x,x,x,x]= .agg (.ar 16 e) (List.replicate 16 x):=rfl
theorem cfb16{e:Sh}{x:D}{p:List (Nat×X)}:mi.build (.ar 16 e) [x,x,x,x,x,x,x,x,x,x,x,x,x,x,x,x] p= .build (.ar 16 e) (List.replicate 16 x) p:=rfl
theorem cfa32{e:Sh}{x:D}:D.agg (.ar 32 e) [x,x,x,x,x,x,x,x,x,x,x,x,x,x,x,x,x,x,x,x,x,x,x,x,x,x,x,x,x,x,x,x]= .agg (.ar 32 e) (List.replicate 32 x):=rfl
theorem cfb32{e:Sh}{x:D}{p:List (Nat×X)}:mi.build (.ar 32 e) [x,x,x,x,x,x,x,x,x,x,x,x,x,x,x,x,x,x,x,x,x,x,x,x,x,x,x,x,x,x,x,x] p= .build (.ar 32 e) (List.replicate 32 x) p:=rfl
theorem cfa64{e:Sh}{x:D}:D.agg (.ar 64 e) [x,x,x,x,x,x,x,x,x,x,x,x,x,x,x,x,x,x,x,x,x,x,x,x,x,x,x,x,x,x,x,x,x,x,x,x,x,x,x,x,x,x,x,x,x,x,x,x,x,x,x,x,x,x,x,x,x,x,x,x,x,x,x,x]= .agg (.ar 64 e) (List.replicate 64 x):=rfl
theorem cfb64{e:Sh}{x:D}{p:List (Nat×X)}:mi.build (.ar 64 e) [x,x,x,x,x,x,x,x,x,x,x,x,x,x,x,x,x,x,x,x,x,x,x,x,x,x,x,x,x,x,x,x,x,x,x,x,x,x,x,x,x,x,x,x,x,x,x,x,x,x,x,x,x,x,x,x,x,x,x,x,x,x,x,x] p= .build (.ar 64 e) (List.replicate 64 x) p:=rfl
def cV:=(And.intro (And.intro (And.intro (And.intro @cf8 @cf16) (And.intro @cf32 @cf64)) (And.intro (And.intro @cfi @cfa2) (And.intro @cfa4 @cfa8))) (And.intro (And.intro (And.intro @cfa16 @cfa32) (And.intro @cfa64 @cfb2)) (And.intro (And.intro @cfb4 @cfb8) (And.intro @cfb16 (And.intro @cfb32 @cfb64)))))
abbrev MT(f n:Nat)(r:List aU)(a:aB):Prop:=∀C:be,aI C Go.Proofs.Tryz.prog→aO C.aZ Go.Proofs.Tryz.prog f (aR C n r a)
theorem mM{f n:Nat}{r:List aU}{a:aB}{g:Func}(hf:Go.Proofs.Tryz.prog.funcs[f]?=some g)(hb:o2 g.body (comp Go.Proofs.Tryz.prog g.ntmps)=some a)(hr:E5 Go.Proofs.Tryz.prog g.results.toList=some r)(hn:Nat.ble n g.ntmps=true):MT f n r a:=fun _ hC=>LL hC hf hb hr (Nat.le_of_ble_eq_true hn)
set_option linter.unusedVariables false
set_option linter.unusedSimpArgs false
abbrev S1:Sh:= .cons dk (.cons LI (.cons LI (.cons LI .nil)))
abbrev S2:Sh:= .cons dk (.cons dk (.cons dk (.cons dk (.cons dk (.cons dk (.cons dk (.cons dk .nil)))))))
abbrev S3:Sh:= .cons (.ar 32 dk) (.cons dk (.cons S2 (.cons LB .nil)))
abbrev S4:Sh:= .cons .ref (.cons .ref (.cons S3 (.cons .ref .nil)))
abbrev S5:Sh:= .cons LI (.cons (.ar 8192 L8) (.cons (.ar 64 L8) (.cons .ref (.cons .ref .nil))))
abbrev S6:Sh:= .cons LI (.cons LI (.cons LI (.cons (.ar 32 L8) .nil)))
abbrev S7:Sh:= .cons LI (.cons S6 (.cons .ref .nil))
abbrev S8:Sh:= .cons LI (.cons LI (.cons S6 (.cons LB (.cons LI (.cons LI (.cons LI (.cons LI (.cons .ref (.cons (.ar 2 S7) (.cons .ref (.cons LI (.cons LI .nil))))))))))))
abbrev S9:Sh:= .cons LI (.cons S1 (.cons LB (.cons LB (.cons LI .nil))))
abbrev s9:Sh:= .cons LI (.cons LI (.cons LI .nil))
abbrev S16:Sh:= .cons dk (.cons LI .nil)
abbrev NB:Sh:= .cons dk (.cons dk (.cons (.ar 16 L8) (.cons (.ar 32 L8) (.cons .ref (.cons dk (.cons .ref (.cons .ref (.cons .ref .nil))))))))
abbrev S18:Sh:= .cons L8 (.cons LI (.cons LI (.cons .ref (.cons LI (.cons dk .nil)))))
abbrev S19:Sh:= .cons .ref .nil
abbrev S20:Sh:= .cons .ref (.cons LB .nil)
abbrev S22:Sh:= .cons (.ar 16 L8) (.cons dk .nil)
abbrev S23:Sh:= .cons LI (.cons dk .nil)
abbrev S24:Sh:= .cons LS (.cons (.ar 32 L8) .nil)
abbrev S25:Sh:= .cons dk (.cons LB .nil)
abbrev S26:Sh:= .cons (.ar 4 (.ar 32 L8)) .nil
abbrev S27:Sh:= .cons .ref (.cons S26 (.cons (.ar 32 L8) (.cons LI .nil)))
abbrev S28:Sh:= .cons .ref (.cons .ref (.cons dk .nil))
abbrev S29:Sh:= .cons dk (.cons dk (.cons (.ar 16 L8) (.cons (.ar 32 L8) .nil)))
abbrev KM:Sh:= .cons (.ar 8 dk) (.cons (.ar 64 L8) (.cons L64 .nil))
abbrev S31:Sh:= .cons LI (.cons (.ar 32 L8) .nil)
abbrev S32:Sh:= .cons (.ar 8 S31) (.cons LB (.cons LB .nil))
abbrev S33:Sh:= .cons LI (.cons LI (.cons dk (.cons LI (.cons LB (.cons LB .nil)))))
abbrev S34:Sh:= .cons KM (.cons KM .nil)
abbrev xh:Sh:= .cons LS .nil
noncomputable def hJ:aB:=(⟨_,by conv=>lhs;reduce;simp only[cV,simprocAttr,-List.reduceReplicate]⟩:CO 4).1
def jf:List aU:=[(.tmp 14)]
theorem YQ:MT 4 7 jf hJ:=mM Go.Proofs.Tryz.func4 (by kernel_rfl) (by kernel_rfl) (by kernel_rfl)
noncomputable def nk:aB:=(⟨_,by conv=>lhs;reduce;simp only[cV,simprocAttr,-List.reduceReplicate]⟩:CO 7).1
def nt:List aU:=[(.tmp 0)]
theorem LV:MT 7 0 nt nk:=mM Go.Proofs.Tryz.func7 (by kernel_rfl) (by kernel_rfl) (by kernel_rfl)
def rF:aB:=(.seq (.region false [ji 6 (.box (.ar 16 L8) (.tmp 2)),ji 7 (.box (.ar 32 L8) (.tmp 3)),ji 8 (.mv (.const (.pointer none))),ji 9 (.mv (.const (it 0)))]) (.seq (.region false [jv 20 0,ji 21 (.call 36 [.tmp 20]),jv 19 21,ji 22 (.ext (.tmp 19) 0),ji 23 (.ext (.tmp 19) 1),jv 10 22,jv 11 23]) (.seq (.seq (.region false [jv 25 1,ji 26 (.call 37 [.tmp 25]),jv 24 26,ji 27 (.ext (.tmp 24) 0),ji 28 (.ext (.tmp 24) 1),ji 12 (.alloc s9 (.agg s9 [(.raw (it 0)),(.raw (it 0)),(.raw (it 0))])),⟨none,.store s9 (.tmp 12) (.tmp 27),none⟩,jv 13 28]) (.seq (.region false [jv 29 11,ji 30 (.un .not (.tmp 29)),jv 31 30,⟨some 32,.mv (.tmp 13),some (31,false)⟩,⟨some 33,.un .not (.tmp 32),some (31,false)⟩,ji 34 (.pick (.tmp 31) (.const (.bool true)) (.tmp 33)),jv 35 34,⟨some 36,.mv (.tmp 10),some (35,false)⟩,⟨some 37,.bin .gtr (.tmp 36) (.const (it 10)),some (35,false)⟩,ji 38 (.pick (.tmp 35) (.const (.bool true)) (.tmp 37))]) (.cond (.tmp 38) (.seq (.region false [ji 8 (.mv (.const (.pointer none))),ji 9 (.mv (.const (it 6)))]) .ret) .skip))) (.seq (.region true [jv 39 0,jv 40 1,ji 41 (.load (.ar 16 L8) (.tmp 6)),ji 42 (.load (.ar 32 L8) (.tmp 7)),jv 43 10,ji 44 (.bin .shl (.const (it 2)) (.tmp 43)),ji 45 (.mks (.ar 32 L8) 32 (.agg (.ar 32 L8) (List.replicate 32 (.raw (u8 0#8)))) (.tmp 44) (.tmp 44)),ji 46 (.ZU LS LB),ji 47 (.ZU S16 LI),ji 48 (.build NB [(.raw (u32 0#32)),(.raw (u32 0#32)),(.agg (.ar 16 L8) (List.replicate 16 (.raw (u8 0#8)))),(.agg (.ar 32 L8) (List.replicate 32 (.raw (u8 0#8)))),(.raw (.slice none 0 0)),(.raw (u32 0#32)),(.raw (.map none)),(.raw (.map none)),(.raw (.slice none 0 0))] [(0,.tmp 39),(1,.tmp 40),(2,.tmp 41),(3,.tmp 42),(4,.tmp 45),(6,.tmp 46),(7,.tmp 47)]),ji 49 (.box NB (.tmp 48)),jv 14 49]) (.seq (.seq (.region false [jv 50 14,ji 51 (.pW (.tmp 50)),ji 52 (.eN NB (.tmp 51) 4),ji 53 (.load .ref (.tmp 52)),ji 54 (.len (.tmp 53)),ji 55 (.bin .sub (.tmp 54) (.const (it 1))),jv 15 55]) (.block 0 (.loop (.seq (.seq (.region false [jv 56 15,ji 57 (.bin .gtr (.tmp 56) (.const (it 0)))]) (.cond (.tmp 57) .skip (.exit 0))) (.seq (.block 1 (.seq (.region false [jv 60 15,jv 61 14,ji 62 (.call 38 [.tmp 61]),ji 63 (.bin .sub (.tmp 60) (.tmp 62)),jv 16 63]) (.seq (.region false [jv 64 16,ji 65 (.bin .geq (.tmp 64) (.const (it 0)))]) (.cond (.tmp 65) (.seq (.draw [jv 67 1,jv 68 14,jv 69 16,ji 70 (.conv .u32 (.tmp 69)),ji 71 (.call 40 [.tmp 68,.tmp 70]),ji 72 (.load (.ar 32 L8) (.tmp 7)),ji 73 (.call 39 [.tmp 67,.tmp 71,.tmp 72]),jv 66 73,ji 74 (.ext (.tmp 66) 0),ji 75 (.ext (.tmp 66) 1),ji 17 (.alloc (.ar 32 L8) (.agg (.ar 32 L8) (List.replicate 32 (.raw (u8 0#8)))))] [ji 75 (.ext (.tmp 66) 1)] [(⟨none,.store (.ar 32 L8) (.tmp 17) (.tmp 74),none⟩,[ji 75 (.ext (.tmp 66) 1)]),(jv 18 75,[])]) (.region true [jv 76 14,ji 77 (.pW (.tmp 76)),ji 78 (.eN NB (.tmp 77) 4),ji 79 (.load .ref (.tmp 78)),jv 80 15,ji 81 (.load (.ar 16 L8) (.tmp 6)),jv 82 15,ji 83 (.conv .u32 (.tmp 82)),ji 84 (.load (.ar 32 L8) (.tmp 17)),ji 85 (.call 41 [.tmp 81,.tmp 83,.tmp 84]),ji 86 (.lG (.ar 32 L8) (.tmp 79) (.tmp 80)),⟨none,.store (.ar 32 L8) (.tmp 86) (.tmp 85),none⟩])) (.region true [jv 87 14,ji 88 (.pW (.tmp 87)),ji 89 (.eN NB (.tmp 88) 4),ji 90 (.load .ref (.tmp 89)),jv 91 15,ji 92 (.load (.ar 16 L8) (.tmp 6)),jv 93 15,ji 94 (.conv .u32 (.tmp 93)),jv 95 14,ji 96 (.pW (.tmp 95)),ji 97 (.eN NB (.tmp 96) 4),ji 98 (.load .ref (.tmp 97)),jv 99 15,ji 100 (.bin .mul (.const (it 2)) (.tmp 99)),ji 101 (.lG (.ar 32 L8) (.tmp 98) (.tmp 100)),ji 102 (.load (.ar 32 L8) (.tmp 101)),jv 103 14,ji 104 (.pW (.tmp 103)),ji 105 (.eN NB (.tmp 104) 4),ji 106 (.load .ref (.tmp 105)),jv 107 15,ji 108 (.bin .mul (.const (it 2)) (.tmp 107)),ji 109 (.bin .add (.tmp 108) (.const (it 1))),ji 110 (.lG (.ar 32 L8) (.tmp 106) (.tmp 109)),ji 111 (.load (.ar 32 L8) (.tmp 110)),ji 112 (.call 42 [.tmp 92,.tmp 94,.tmp 102,.tmp 111]),ji 113 (.lG (.ar 32 L8) (.tmp 90) (.tmp 91)),⟨none,.store (.ar 32 L8) (.tmp 113) (.tmp 112),none⟩]))))) (.region false [jv 58 15,ji 59 (.bin .sub (.tmp 58) (.const (it 1))),jv 15 59])))))) (.seq (.region false [jv 114 14,jv 8 114,ji 9 (.mv (.const (it 0)))]) .ret))))))
def rG:List aU:=[(.tmp 8),(.tmp 9)]
theorem Ti:MT 8 4 rG rF:=mM Go.Proofs.Tryz.func8 (by kernel_rfl) (by kernel_rfl) (by kernel_rfl)
noncomputable def rH:aB:=(⟨_,by conv=>lhs;reduce;simp only[cV,simprocAttr,-List.reduceReplicate]⟩:CO 9).1
def rI:List aU:=[(.tmp 8)]
theorem Tj:MT 9 4 rI rH:=mM Go.Proofs.Tryz.func9 (by kernel_rfl) (by kernel_rfl) (by kernel_rfl)
noncomputable def ob:aB:=(⟨_,by conv=>lhs;reduce;simp only[cV,simprocAttr,-List.reduceReplicate]⟩:CO 10).1
def oc:List aU:=[(.tmp 2)]
theorem wU:MT 10 1 oc ob:=mM Go.Proofs.Tryz.func10 (by kernel_rfl) (by kernel_rfl) (by kernel_rfl)
noncomputable def nu:aB:=(⟨_,by conv=>lhs;reduce;simp only[cV,simprocAttr,-List.reduceReplicate]⟩:CO 11).1
def nv:List aU:=[(.tmp 8)]
theorem LW:MT 11 4 nv nu:=mM Go.Proofs.Tryz.func11 (by kernel_rfl) (by kernel_rfl) (by kernel_rfl)
noncomputable def fL:aB:=(⟨_,by conv=>lhs;reduce;simp only[cV,simprocAttr,-List.reduceReplicate]⟩:CO 12).1
def fM:List aU:=[(.tmp 6)]
theorem Ju:MT 12 3 fM fL:=mM Go.Proofs.Tryz.func12 (by kernel_rfl) (by kernel_rfl) (by kernel_rfl)
def Fb:aB:=(.seq (.region false [ji 3 (.box S1 (.tmp 1)),ji 4 (.mv (.const (.slice none 0 0)))]) (.seq (.region false [jv 9 0,ji 10 (.call 58 [.tmp 9]),jv 8 10,ji 11 (.ext (.tmp 8) 0),ji 12 (.ext (.tmp 8) 1),ji 5 (.alloc S1 (.agg S1 [(.raw (u32 0#32)),(.raw (it 0)),(.raw (it 0)),(.raw (it 0))])),⟨none,.store S1 (.tmp 5) (.tmp 11),none⟩,jv 6 12]) (.seq (.region false [ji 13 (.eN S1 (.tmp 5) 0),ji 14 (.load dk (.tmp 13)),ji 15 (.bin .add (.tmp 14) (.const (u32 1#32))),ji 16 (.eN S1 (.tmp 3) 0),⟨none,.store dk (.tmp 16) (.tmp 15),none⟩]) (.seq (.seq (.region false [ji 17 (.eN S1 (.tmp 3) 0),ji 18 (.load dk (.tmp 17)),ji 19 (.bin .eql (.tmp 18) (.const (u32 0#32))),jv 20 19,⟨some 21,.load S1 (.tmp 3),some (20,false)⟩,⟨some 22,.call 59 [.tmp 21],some (20,false)⟩,⟨some 23,.un .not (.tmp 22),some (20,false)⟩,ji 24 (.pick (.tmp 20) (.const (.bool true)) (.tmp 23))]) (.cond (.tmp 24) (.seq (.region false [ji 4 (.mv (.const (.slice none 0 0)))]) .ret) .skip)) (.seq (.region false [ji 7 (.mv (.const (it 32)))]) (.seq (.seq (.region false [jv 25 6,ji 26 (.bin .eql (.tmp 25) (.const (it 32)))]) (.cond (.tmp 26) (.region false [ji 7 (.mv (.const (it 33)))]) .skip)) (.seq (.region false [jv 27 7,ji 28 (.build S18 [(.raw (u8 0#8)),(.raw (it 0)),(.raw (it 0)),(.raw (.slice none 0 0)),(.raw (it 0)),(.raw (u32 0#32))] [(0,.const (u8 1#8)),(1,.tmp 27)]),jv 29 7,ji 30 (.load S1 (.tmp 3)),ji 31 (.call 60 [.tmp 30]),ji 32 (.build S18 [(.raw (u8 0#8)),(.raw (it 0)),(.raw (it 0)),(.raw (.slice none 0 0)),(.raw (it 0)),(.raw (u32 0#32))] [(0,.const (u8 2#8)),(1,.tmp 29),(3,.tmp 31)]),ji 33 (.ib S18 2 (.agg S18 [(.raw (u8 0#8)),(.raw (it 0)),(.raw (it 0)),(.raw (.slice none 0 0)),(.raw (it 0)),(.raw (u32 0#32))]) [(0,.tmp 28),(1,.tmp 32)]),jv 4 33]) .ret)))))))
def Fc:List aU:=[(.tmp 4)]
noncomputable def oW:aB:=(⟨_,by conv=>lhs;reduce;simp only[cV,simprocAttr,-List.reduceReplicate]⟩:CO 14).1
def oX:List aU:=[(.tmp 0)]
theorem Oy:MT 14 0 oX oW:=mM Go.Proofs.Tryz.func14 (by kernel_rfl) (by kernel_rfl) (by kernel_rfl)
noncomputable def cv:aB:=(⟨_,by conv=>lhs;reduce;simp only[cV,simprocAttr,-List.reduceReplicate]⟩:CO 15).1
def iL:List aU:=[(.tmp 6)]
theorem Ds:MT 15 3 iL cv:=mM Go.Proofs.Tryz.func15 (by kernel_rfl) (by kernel_rfl) (by kernel_rfl)
noncomputable def xj:aB:=(⟨_,by conv=>lhs;reduce;simp only[cV,simprocAttr,-List.reduceReplicate]⟩:CO 16).1
def xk:List aU:=[(.tmp 2)]
theorem Ha:MT 16 1 xk xj:=mM Go.Proofs.Tryz.func16 (by kernel_rfl) (by kernel_rfl) (by kernel_rfl)
noncomputable def Cn:aB:=(⟨_,by conv=>lhs;reduce;simp only[cV,simprocAttr,-List.reduceReplicate]⟩:CO 17).1
def Co:List aU:=[(.tmp 4)]
theorem LX:MT 17 2 Co Cn:=mM Go.Proofs.Tryz.func17 (by kernel_rfl) (by kernel_rfl) (by kernel_rfl)
noncomputable def ca:aB:=(⟨_,by conv=>lhs;reduce;simp only[cV,simprocAttr,-List.reduceReplicate]⟩:CO 18).1
def cb:List aU:=[(.tmp 6)]
theorem P9:MT 18 3 cb ca:=mM Go.Proofs.Tryz.func18 (by kernel_rfl) (by kernel_rfl) (by kernel_rfl)
noncomputable def xa:aB:=(⟨_,by conv=>lhs;reduce;simp only[cV,simprocAttr,-List.reduceReplicate]⟩:CO 19).1
def xb:List aU:=[(.tmp 2),(.tmp 3)]
theorem m_otp_Of:MT 19 1 xb xa:=mM Go.Proofs.Tryz.func19 (by kernel_rfl) (by kernel_rfl) (by kernel_rfl)
noncomputable def gC:aB:=(⟨_,by conv=>lhs;reduce;simp only[cV,simprocAttr,-List.reduceReplicate]⟩:CO 20).1
def gE:List aU:=[(.tmp 4)]
theorem zt:MT 20 2 gE gC:=mM Go.Proofs.Tryz.func20 (by kernel_rfl) (by kernel_rfl) (by kernel_rfl)
noncomputable def Rt:aB:=(⟨_,by conv=>lhs;reduce;simp only[cV,simprocAttr,-List.reduceReplicate]⟩:CO 21).1
def RT:List aU:=[(.cell 4 S9)]
theorem ZN:MT 21 2 RT Rt:=mM Go.Proofs.Tryz.func21 (by kernel_rfl) (by kernel_rfl) (by kernel_rfl)
noncomputable def Up:aB:=(⟨_,by conv=>lhs;reduce;simp only[cV,simprocAttr,-List.reduceReplicate]⟩:CO 22).1
def UL:List aU:=[(.tmp 0)]
theorem aaa:MT 22 0 UL Up:=mM Go.Proofs.Tryz.func22 (by kernel_rfl) (by kernel_rfl) (by kernel_rfl)
noncomputable def oY:aB:=(⟨_,by conv=>lhs;reduce;simp only[cV,simprocAttr,-List.reduceReplicate]⟩:CO 23).1
def oZ:List aU:=[(.tmp 6),(.tmp 7)]
theorem yh:MT 23 3 oZ oY:=mM Go.Proofs.Tryz.func23 (by kernel_rfl) (by kernel_rfl) (by kernel_rfl)
noncomputable def jN:aB:=(⟨_,by conv=>lhs;reduce;simp only[cV,simprocAttr,-List.reduceReplicate]⟩:CO 24).1
def lR:List aU:=[(.cell 2 S6),(.tmp 3),(.tmp 4),(.tmp 5)]
theorem aab:MT 24 1 lR jN:=mM Go.Proofs.Tryz.func24 (by kernel_rfl) (by kernel_rfl) (by kernel_rfl)
noncomputable def UM:aB:=(⟨_,by conv=>lhs;reduce;simp only[cV,simprocAttr,-List.reduceReplicate]⟩:CO 25).1
def UN:List aU:=[(.tmp 4)]
theorem aac:MT 25 2 UN UM:=mM Go.Proofs.Tryz.func25 (by kernel_rfl) (by kernel_rfl) (by kernel_rfl)
noncomputable def o5:aB:=(⟨_,by conv=>lhs;reduce;simp only[cV,simprocAttr,-List.reduceReplicate]⟩:CO 26).1
def o6:List aU:=[(.tmp 2)]
theorem yj:MT 26 1 o6 o5:=mM Go.Proofs.Tryz.func26 (by kernel_rfl) (by kernel_rfl) (by kernel_rfl)
noncomputable def jT:aB:=(⟨_,by conv=>lhs;reduce;simp only[cV,simprocAttr,-List.reduceReplicate]⟩:CO 31).1
def jU:List aU:=[(.tmp 2),(.tmp 3)]
theorem qO:MT 31 1 jU jT:=mM Go.Proofs.Tryz.func31 (by kernel_rfl) (by kernel_rfl) (by kernel_rfl)
noncomputable def zu:aB:=(⟨_,by conv=>lhs;reduce;simp only[cV,simprocAttr,-List.reduceReplicate]⟩:CO 36).1
def zv:List aU:=[(.tmp 2),(.tmp 3)]
theorem Jv:MT 36 1 zv zu:=mM Go.Proofs.Tryz.func36 (by kernel_rfl) (by kernel_rfl) (by kernel_rfl)
noncomputable def zw:aB:=(⟨_,by conv=>lhs;reduce;simp only[cV,simprocAttr,-List.reduceReplicate]⟩:CO 37).1
def zy:List aU:=[(.cell 2 s9),(.tmp 3)]
theorem Jw:MT 37 1 zy zw:=mM Go.Proofs.Tryz.func37 (by kernel_rfl) (by kernel_rfl) (by kernel_rfl)
noncomputable def od:aB:=(⟨_,by conv=>lhs;reduce;simp only[cV,simprocAttr,-List.reduceReplicate]⟩:CO 38).1
def oe:List aU:=[(.tmp 2)]
theorem wV:MT 38 1 oe od:=mM Go.Proofs.Tryz.func38 (by kernel_rfl) (by kernel_rfl) (by kernel_rfl)
noncomputable def tc:aB:=(⟨_,by conv=>lhs;reduce;simp only[cV,simprocAttr,-List.reduceReplicate]⟩:CO 39).1
def td:List aU:=[(.cell 6 (.ar 32 L8)),(.tmp 7)]
theorem Jx:MT 39 3 td tc:=mM Go.Proofs.Tryz.func39 (by kernel_rfl) (by kernel_rfl) (by kernel_rfl)
noncomputable def qn:aB:=(⟨_,by conv=>lhs;reduce;simp only[cV,simprocAttr,-List.reduceReplicate]⟩:CO 40).1
def qo:List aU:=[(.cell 4 S22)]
theorem zz:MT 40 2 qo qn:=mM Go.Proofs.Tryz.func40 (by kernel_rfl) (by kernel_rfl) (by kernel_rfl)
noncomputable def Fe:aB:=(⟨_,by conv=>lhs;reduce;simp only[cV,simprocAttr,-List.reduceReplicate]⟩:CO 41).1
def Ff:List aU:=[(.cell 6 (.ar 32 L8))]
theorem Oz:MT 41 3 Ff Fe:=mM Go.Proofs.Tryz.func41 (by kernel_rfl) (by kernel_rfl) (by kernel_rfl)
noncomputable def Fg:aB:=(⟨_,by conv=>lhs;reduce;simp only[cV,simprocAttr,-List.reduceReplicate]⟩:CO 42).1
def Fh:List aU:=[(.cell 8 (.ar 32 L8))]
theorem OA:MT 42 4 Fh Fg:=mM Go.Proofs.Tryz.func42 (by kernel_rfl) (by kernel_rfl) (by kernel_rfl)
noncomputable def lh:aB:=(⟨_,by conv=>lhs;reduce;simp only[cV,simprocAttr,-List.reduceReplicate]⟩:CO 43).1
def lj:List aU:=[(.tmp 2),(.tmp 3)]
theorem LY:MT 43 1 lj lh:=mM Go.Proofs.Tryz.func43 (by kernel_rfl) (by kernel_rfl) (by kernel_rfl)
noncomputable def rK:aB:=(⟨_,by conv=>lhs;reduce;simp only[cV,simprocAttr,-List.reduceReplicate]⟩:CO 44).1
def rL:List aU:=[(.tmp 0)]
theorem Tl:MT 44 0 rL rK:=mM Go.Proofs.Tryz.func44 (by kernel_rfl) (by kernel_rfl) (by kernel_rfl)
noncomputable def dA:aB:=(⟨_,by conv=>lhs;reduce;simp only[cV,simprocAttr,-List.reduceReplicate]⟩:CO 45).1
def dB:List aU:=[(.tmp 6)]
theorem wW:MT 45 3 dB dA:=mM Go.Proofs.Tryz.func45 (by kernel_rfl) (by kernel_rfl) (by kernel_rfl)
noncomputable def rM:aB:=(⟨_,by conv=>lhs;reduce;simp only[cV,simprocAttr,-List.reduceReplicate]⟩:CO 46).1
def rO:List aU:=[(.tmp 6),(.tmp 7)]
theorem Bp:MT 46 3 rO rM:=mM Go.Proofs.Tryz.func46 (by kernel_rfl) (by kernel_rfl) (by kernel_rfl)
noncomputable def jV:aB:=(⟨_,by conv=>lhs;reduce;simp only[cV,simprocAttr,-List.reduceReplicate]⟩:CO 47).1
def jW:List aU:=[(.tmp 4)]
theorem Hb:MT 47 2 jW jV:=mM Go.Proofs.Tryz.func47 (by kernel_rfl) (by kernel_rfl) (by kernel_rfl)
noncomputable def ny:aB:=(⟨_,by conv=>lhs;reduce;simp only[cV,simprocAttr,-List.reduceReplicate]⟩:CO 48).1
def nz:List aU:=[(.tmp 4),(.tmp 5)]
theorem vk:MT 48 2 nz ny:=mM Go.Proofs.Tryz.func48 (by kernel_rfl) (by kernel_rfl) (by kernel_rfl)
noncomputable def qp:aB:=(⟨_,by conv=>lhs;reduce;simp only[cV,simprocAttr,-List.reduceReplicate]⟩:CO 49).1
def qq:List aU:=[(.tmp 4),(.tmp 5)]
theorem zA:MT 49 2 qq qp:=mM Go.Proofs.Tryz.func49 (by kernel_rfl) (by kernel_rfl) (by kernel_rfl)
noncomputable def Fi:aB:=(⟨_,by conv=>lhs;reduce;simp only[cV,simprocAttr,-List.reduceReplicate]⟩:CO 50).1
def Fj:List aU:=[(.tmp 2)]
theorem OB:MT 50 1 Fj Fi:=mM Go.Proofs.Tryz.func50 (by kernel_rfl) (by kernel_rfl) (by kernel_rfl)
noncomputable def zB:aB:=(⟨_,by conv=>lhs;reduce;simp only[cV,simprocAttr,-List.reduceReplicate]⟩:CO 51).1
def zC:List aU:=[(.tmp 2)]
theorem Jy:MT 51 1 zC zB:=mM Go.Proofs.Tryz.func51 (by kernel_rfl) (by kernel_rfl) (by kernel_rfl)
noncomputable def xn:aB:=(⟨_,by conv=>lhs;reduce;simp only[cV,simprocAttr,-List.reduceReplicate]⟩:CO 52).1
def xp:List aU:=[(.cell 6 S6)]
theorem Hc:MT 52 3 xp xn:=mM Go.Proofs.Tryz.func52 (by kernel_rfl) (by kernel_rfl) (by kernel_rfl)
def gF:aB:=(.seq (.region false [ji 4 (.box (.ar 32 L8) (.tmp 1)),ji 6 (.mv (.const (.slice none 0 0))),ji 7 (.mv (.const (it 0)))]) (.seq (.block 0 (.seq (.region false [jv 12 0,ji 13 (.yU false (.tmp 12) (.const (.pointer none))),jv 11 13]) (.cond (.tmp 11) (.seq (.region false [ji 6 (.mv (.const (.slice none 0 0))),ji 7 (.mv (.const (it 3)))]) .ret) (.seq (.region false [jv 15 0,ji 16 (.call 109 [.tmp 15]),ji 17 (.bin .eql (.tmp 16) (.const (it 0))),jv 14 17]) (.cond (.tmp 14) (.seq (.region false [ji 6 (.mv (.const (.slice none 0 0))),ji 7 (.mv (.const (it 7)))]) .ret) .skip))))) (.seq (.region false [jv 18 0,ji 19 (.pW (.tmp 18)),ji 20 (.eN NB (.tmp 19) 5),ji 21 (.load dk (.tmp 20)),jv 8 21]) (.seq (.region false [jv 22 0,ji 23 (.pW (.tmp 22)),ji 24 (.eN NB (.tmp 23) 5),ji 25 (.load dk (.tmp 24)),ji 26 (.bin .add (.tmp 25) (.const (u32 1#32))),ji 27 (.pW (.tmp 22)),ji 28 (.eN NB (.tmp 27) 5),⟨none,.store dk (.tmp 28) (.tmp 26),none⟩]) (.seq (.region true [jv 29 0,ji 30 (.pW (.tmp 29)),ji 31 (.eN NB (.tmp 30) 6),ji 32 (.load .ref (.tmp 31)),jv 33 2,ji 34 (.Vi (.tmp 33)),⟨none,.oL LS LB (.tmp 32) (.tmp 34) (.const (.bool true)),none⟩]) (.seq (.draw [jv 35 0,jv 36 0,ji 37 (.pW (.tmp 36)),ji 38 (.eN NB (.tmp 37) 8),ji 39 (.load .ref (.tmp 38)),jv 40 2,ji 41 (.Vi (.tmp 40)),ji 42 (.load (.ar 32 L8) (.tmp 4)),⟨some 43,.build S24 [(.raw (.string ⟨#[]⟩)),(.agg (.ar 32 L8) (List.replicate 32 (.raw (u8 0#8))))] [(0,.tmp 41),(1,.tmp 42)],none⟩,⟨some 44,.ib S24 1 (.agg S24 [(.raw (.string ⟨#[]⟩)),(.agg (.ar 32 L8) (List.replicate 32 (.raw (u8 0#8))))]) [(0,.tmp 43)],none⟩] [jv 35 0,jv 36 0,ji 37 (.pW (.tmp 36)),jv 40 2,ji 41 (.Vi (.tmp 40)),ji 42 (.load (.ar 32 L8) (.tmp 4))] [(ji 45 (.append S24 48 (.tmp 39) (.tmp 44)),[jv 35 0,jv 36 0,ji 37 (.pW (.tmp 36)),jv 40 2,ji 41 (.Vi (.tmp 40)),ji 42 (.load (.ar 32 L8) (.tmp 4))]),(ji 46 (.pW (.tmp 35)),[]),(ji 47 (.eN NB (.tmp 46) 8),[]),(⟨none,.store .ref (.tmp 47) (.tmp 45),none⟩,[])]) (.seq (.seq (.region true [jv 48 0,ji 49 (.pW (.tmp 48)),ji 50 (.eN NB (.tmp 49) 1),ji 51 (.load dk (.tmp 50)),jv 52 0,jv 53 8,ji 54 (.call 40 [.tmp 52,.tmp 53]),ji 55 (.load (.ar 32 L8) (.tmp 4)),jv 56 2,ji 57 (.call 111 [.tmp 54,.tmp 55,.tmp 56]),ji 58 (.call 110 [.tmp 51,.tmp 57]),ji 59 (.len (.tmp 58)),ji 60 (.mv (.const (it 0)))]) (.block 1 (.loop (.seq (.region false [ji 61 (.bin .lss (.tmp 60) (.tmp 59))]) (.seq (.cond (.tmp 61) .skip (.exit 1)) (.seq (.block 2 (.seq (.region false [jv 62 60,ji 63 (.lG LI (.tmp 58) (.tmp 60)),ji 64 (.load LI (.tmp 63)),jv 9 62,jv 10 64]) (.region false [jv 65 0,ji 66 (.pW (.tmp 65)),ji 67 (.eN NB (.tmp 66) 7),ji 68 (.load .ref (.tmp 67)),jv 69 8,jv 70 9,ji 71 (.build S16 [(.raw (u32 0#32)),(.raw (it 0))] [(0,.tmp 69),(1,.tmp 70)]),jv 72 10,⟨none,.oL S16 LI (.tmp 68) (.tmp 71) (.tmp 72),none⟩]))) (.region false [ji 73 (.bin .add (.tmp 60) (.const (it 1))),jv 60 73]))))))) (.seq (.region false [jv 74 0,jv 75 8,ji 76 (.load (.ar 32 L8) (.tmp 4)),jv 77 2,ji 78 (.call 54 [.tmp 74,.tmp 75,.tmp 76,.tmp 77]),ji 79 (.ext (.tmp 78) 0),ji 80 (.ext (.tmp 78) 1),jv 6 79,jv 7 80]) .ret))))))))
def gG:List aU:=[(.tmp 6),(.tmp 7)]
theorem zD:MT 53 3 gG gF:=mM Go.Proofs.Tryz.func53 (by kernel_rfl) (by kernel_rfl) (by kernel_rfl)
noncomputable def o7:aB:=(⟨_,by conv=>lhs;reduce;simp only[cV,simprocAttr,-List.reduceReplicate]⟩:CO 54).1
def o8:List aU:=[(.tmp 8),(.tmp 9)]
theorem yl:MT 54 4 o8 o7:=mM Go.Proofs.Tryz.func54 (by kernel_rfl) (by kernel_rfl) (by kernel_rfl)
noncomputable def rP:aB:=(⟨_,by conv=>lhs;reduce;simp only[cV,simprocAttr,-List.reduceReplicate]⟩:CO 55).1
def rQ:List aU:=[(.tmp 6),(.tmp 7)]
theorem Bq:MT 55 3 rQ rP:=mM Go.Proofs.Tryz.func55 (by kernel_rfl) (by kernel_rfl) (by kernel_rfl)
noncomputable def ie:aB:=(⟨_,by conv=>lhs;reduce;simp only[cV,simprocAttr,-List.reduceReplicate]⟩:CO 56).1
def ig:List aU:=[(.tmp 8)]
theorem Fk:MT 56 4 ig ie:=mM Go.Proofs.Tryz.func56 (by kernel_rfl) (by kernel_rfl) (by kernel_rfl)
noncomputable def xq:aB:=(⟨_,by conv=>lhs;reduce;simp only[cV,simprocAttr,-List.reduceReplicate]⟩:CO 57).1
def xu:List aU:=[(.tmp 0)]
theorem Hd:MT 57 0 xu xq:=mM Go.Proofs.Tryz.func57 (by kernel_rfl) (by kernel_rfl) (by kernel_rfl)
noncomputable def vl:aB:=(⟨_,by conv=>lhs;reduce;simp only[cV,simprocAttr,-List.reduceReplicate]⟩:CO 58).1
def vn:List aU:=[(.cell 2 S1),(.tmp 3)]
theorem Fl:MT 58 1 vn vl:=mM Go.Proofs.Tryz.func58 (by kernel_rfl) (by kernel_rfl) (by kernel_rfl)
noncomputable def mu:aB:=(⟨_,by conv=>lhs;reduce;simp only[cV,simprocAttr,-List.reduceReplicate]⟩:CO 59).1
def mw:List aU:=[(.tmp 2)]
theorem uw:MT 59 1 mw mu:=mM Go.Proofs.Tryz.func59 (by kernel_rfl) (by kernel_rfl) (by kernel_rfl)
noncomputable def my:aB:=(⟨_,by conv=>lhs;reduce;simp only[cV,simprocAttr,-List.reduceReplicate]⟩:CO 60).1
def mz:List aU:=[(.tmp 2)]
theorem ux:MT 60 1 mz my:=mM Go.Proofs.Tryz.func60 (by kernel_rfl) (by kernel_rfl) (by kernel_rfl)
noncomputable def cm:aB:=(⟨_,by conv=>lhs;reduce;simp only[cV,simprocAttr,-List.reduceReplicate]⟩:CO 61).1
def cn:List aU:=[(.tmp 4)]
theorem Br:MT 61 2 cn cm:=mM Go.Proofs.Tryz.func61 (by kernel_rfl) (by kernel_rfl) (by kernel_rfl)
noncomputable def nA:aB:=(⟨_,by conv=>lhs;reduce;simp only[cV,simprocAttr,-List.reduceReplicate]⟩:CO 62).1
def nB:List aU:=[(.tmp 6)]
theorem vo:MT 62 3 nB nA:=mM Go.Proofs.Tryz.func62 (by kernel_rfl) (by kernel_rfl) (by kernel_rfl)
noncomputable def qJ:aB:=(⟨_,by conv=>lhs;reduce;simp only[cV,simprocAttr,-List.reduceReplicate]⟩:CO 63).1
def sA:List aU:=[(.tmp 2),(.tmp 3)]
theorem m_fuse_Of:MT 63 1 sA qJ:=mM Go.Proofs.Tryz.func63 (by kernel_rfl) (by kernel_rfl) (by kernel_rfl)
def gH:aB:=(.seq (.region false [ji 4 (.mv (.const (.pointer none)))]) (.seq (.region false [jv 5 0,jv 6 1,ji 7 (.build S5 [(.raw (it 0)),(.agg (.ar 8192 L8) (List.replicate 8192 (.raw (u8 0#8)))),(.agg (.ar 64 L8) (List.replicate 64 (.raw (u8 0#8)))),(.raw (.pointer none)),(.raw (.pointer none))] [(3,.tmp 5),(4,.tmp 6)]),ji 8 (.box S5 (.tmp 7)),jv 4 8]) .ret))
def gI:List aU:=[(.tmp 4)]
theorem zE:MT 64 2 gI gH:=mM Go.Proofs.Tryz.func64 (by kernel_rfl) (by kernel_rfl) (by kernel_rfl)
noncomputable def lU:aB:=(⟨_,by conv=>lhs;reduce;simp only[cV,simprocAttr,-List.reduceReplicate]⟩:CO 65).1
def lV:List aU:=[(.tmp 0)]
theorem Jz:MT 65 0 lV lU:=mM Go.Proofs.Tryz.func65 (by kernel_rfl) (by kernel_rfl) (by kernel_rfl)
noncomputable def Fm:aB:=(⟨_,by conv=>lhs;reduce;simp only[cV,simprocAttr,-List.reduceReplicate]⟩:CO 66).1
def Fo:List aU:=[(.cell 2 S3)]
theorem OC:MT 66 1 Fo Fm:=mM Go.Proofs.Tryz.func66 (by kernel_rfl) (by kernel_rfl) (by kernel_rfl)
end Go.Am.F
namespace Go.Am.F
set_option maxRecDepth 100000
set_option maxHeartbeats 0
set_option linter.unusedVariables false
set_option linter.unusedSimpArgs false
noncomputable def tf:aB:=(⟨_,by conv=>lhs;reduce;simp only[cV,simprocAttr,-List.reduceReplicate]⟩:CO 67).1
def tj:List aU:=[(.tmp 0)]
theorem OD:MT 67 0 tj tf:=mM Go.Proofs.Tryz.func67 (by kernel_rfl) (by kernel_rfl) (by kernel_rfl)
noncomputable def xv:aB:=(⟨_,by conv=>lhs;reduce;simp only[cV,simprocAttr,-List.reduceReplicate]⟩:CO 68).1
def xy:List aU:=[(.cell 8 S7)]
theorem He:MT 68 4 xy xv:=mM Go.Proofs.Tryz.func68 (by kernel_rfl) (by kernel_rfl) (by kernel_rfl)
noncomputable def vp:aB:=(⟨_,by conv=>lhs;reduce;simp only[cV,simprocAttr,-List.reduceReplicate]⟩:CO 69).1
def vq:List aU:=[(.tmp 2)]
theorem Fp:MT 69 1 vq vp:=mM Go.Proofs.Tryz.func69 (by kernel_rfl) (by kernel_rfl) (by kernel_rfl)
def tL:aB:=(.seq (.region false [ji 4 (.box S1 (.tmp 1)),ji 5 (.box (.ar 2 LI) (.tmp 2)),ji 6 (.alloc S9 (.agg S9 [(.raw (it 0)),(.agg S1 [(.raw (u32 0#32)),(.raw (it 0)),(.raw (it 0)),(.raw (it 0))]),(.raw (.bool false)),(.raw (.bool false)),(.raw (it 0))]))]) (.seq (.block 0 (.seq (.region false [jv 11 0,ji 12 (.bin .eql (.tmp 11) (.const (it 4))),jv 10 12]) (.cond (.tmp 10) (.seq (.region false [ji 13 (.load S1 (.tmp 4)),ji 14 (.build S9 [(.raw (it 0)),(.agg S1 [(.raw (u32 0#32)),(.raw (it 0)),(.raw (it 0)),(.raw (it 0))]),(.raw (.bool false)),(.raw (.bool false)),(.raw (it 0))] [(0,.const (it (-1))),(1,.tmp 13),(4,.const (it 17))]),⟨none,.store S9 (.tmp 6) (.tmp 14),none⟩]) .ret) (.seq (.region false [jv 16 0,ji 17 (.bin .lss (.tmp 16) (.const (it 1))),jv 18 17,⟨some 19,.mv (.tmp 0),some (18,false)⟩,⟨some 20,.bin .gtr (.tmp 19) (.const (it 3)),some (18,false)⟩,ji 21 (.pick (.tmp 18) (.const (.bool true)) (.tmp 20)),jv 15 21]) (.cond (.tmp 15) (.seq (.region false [ji 22 (.load S1 (.tmp 4)),ji 23 (.build S9 [(.raw (it 0)),(.agg S1 [(.raw (u32 0#32)),(.raw (it 0)),(.raw (it 0)),(.raw (it 0))]),(.raw (.bool false)),(.raw (.bool false)),(.raw (it 0))] [(0,.const (it (-1))),(1,.tmp 22),(4,.const (it 14))]),⟨none,.store S9 (.tmp 6) (.tmp 23),none⟩]) .ret) .skip))))) (.seq (.region false [ji 24 (.mkf 133 (.tmp 5)),jv 7 24]) (.seq (.region false [ji 25 (.load S1 (.tmp 4)),ji 8 (.alloc S1 (.agg S1 [(.raw (u32 0#32)),(.raw (it 0)),(.raw (it 0)),(.raw (it 0))])),⟨none,.store S1 (.tmp 8) (.tmp 25),none⟩]) (.seq (.seq (.region false [jv 26 7,ji 27 (.eN S1 (.tmp 4) 2),ji 28 (.load LI (.tmp 27)),ji 29 (.oK [43,104,120,130,133,162,170,193,194,208,224] (.tmp 26) [.tmp 28]),jv 30 29,⟨some 31,.eN S1 (.tmp 4) 3,some (30,true)⟩,⟨some 32,.load LI (.tmp 31),some (30,true)⟩,⟨some 33,.bin .lss (.tmp 32) (.const (it 3)),some (30,true)⟩,ji 34 (.pick (.tmp 30) (.tmp 33) (.const (.bool false)))]) (.cond (.tmp 34) (.seq (.region false [ji 35 (.eN S1 (.tmp 8) 3),ji 36 (.load LI (.tmp 35)),ji 37 (.bin .add (.tmp 36) (.const (it 1))),ji 38 (.eN S1 (.tmp 8) 3),⟨none,.store LI (.tmp 38) (.tmp 37),none⟩]) (.seq (.region false [ji 39 (.eN S1 (.tmp 4) 2),ji 40 (.load LI (.tmp 39)),ji 41 (.load S1 (.tmp 8)),ji 42 (.load S1 (.tmp 4)),ji 43 (.call 134 [.tmp 40,.tmp 41,.tmp 42,.const (.bool true)]),⟨none,.store S9 (.tmp 6) (.tmp 43),none⟩]) .ret)) .skip)) (.seq (.region false [ji 44 (.eN S1 (.tmp 8) 2),⟨none,.store LI (.tmp 44) (.const (it (-1))),none⟩,ji 45 (.eN S1 (.tmp 8) 3),⟨none,.store LI (.tmp 45) (.const (it 0)),none⟩]) (.seq (.seq (.region false [jv 46 7,ji 47 (.eN S1 (.tmp 4) 1),ji 48 (.load LI (.tmp 47)),ji 49 (.oK [43,104,120,130,133,162,170,193,194,208,224] (.tmp 46) [.tmp 48])]) (.cond (.tmp 49) (.seq (.region false [ji 50 (.eN S1 (.tmp 4) 1),ji 51 (.load LI (.tmp 50)),ji 52 (.load S1 (.tmp 8)),ji 53 (.load S1 (.tmp 4)),ji 54 (.call 134 [.tmp 51,.tmp 52,.tmp 53,.const (.bool false)]),⟨none,.store S9 (.tmp 6) (.tmp 54),none⟩]) .ret) .skip)) (.seq (.seq (.region false [ji 55 (.eN S1 (.tmp 4) 1),ji 56 (.load LI (.tmp 55)),ji 57 (.bin .sub (.const (it 1)) (.tmp 56)),jv 9 57]) (.seq (.region false [jv 58 7,jv 59 9,ji 60 (.oK [43,104,120,130,133,162,170,193,194,208,224] (.tmp 58) [.tmp 59])]) (.cond (.tmp 60) (.seq (.region false [jv 61 9,ji 62 (.eN S1 (.tmp 8) 1),⟨none,.store LI (.tmp 62) (.tmp 61),none⟩]) (.seq (.region false [jv 63 9,ji 64 (.load S1 (.tmp 8)),ji 65 (.load S1 (.tmp 4)),ji 66 (.call 134 [.tmp 63,.tmp 64,.tmp 65,.const (.bool false)]),⟨none,.store S9 (.tmp 6) (.tmp 66),none⟩]) .ret)) .skip))) (.seq (.region true [ji 67 (.load S1 (.tmp 8)),ji 68 (.load S1 (.tmp 8)),ji 69 (.load S1 (.tmp 4)),ji 70 (.ZT S1 true (.tmp 68) (.tmp 69)),ji 71 (.build S9 [(.raw (it 0)),(.agg S1 [(.raw (u32 0#32)),(.raw (it 0)),(.raw (it 0)),(.raw (it 0))]),(.raw (.bool false)),(.raw (.bool false)),(.raw (it 0))] [(0,.const (it (-1))),(1,.tmp 67),(2,.tmp 70),(4,.const (it 3))]),⟨none,.store S9 (.tmp 6) (.tmp 71),none⟩]) .ret)))))))))
def tM:List aU:=[(.cell 6 S9)]
theorem Dt:MT 70 3 tM tL:=mM Go.Proofs.Tryz.func70 (by kernel_rfl) (by kernel_rfl) (by kernel_rfl)
noncomputable def tN:aB:=(⟨_,by conv=>lhs;reduce;simp only[cV,simprocAttr,-List.reduceReplicate]⟩:CO 71).1
def tO:List aU:=[(.tmp 2)]
theorem Du:MT 71 1 tO tN:=mM Go.Proofs.Tryz.func71 (by kernel_rfl) (by kernel_rfl) (by kernel_rfl)
noncomputable def lS:aB:=(⟨_,by conv=>lhs;reduce;simp only[cV,simprocAttr,-List.reduceReplicate]⟩:CO 72).1
def mg:List aU:=[(.tmp 4)]
theorem aad:MT 72 2 mg lS:=mM Go.Proofs.Tryz.func72 (by kernel_rfl) (by kernel_rfl) (by kernel_rfl)
noncomputable def xz:aB:=(⟨_,by conv=>lhs;reduce;simp only[cV,simprocAttr,-List.reduceReplicate]⟩:CO 73).1
def xA:List aU:=[(.tmp 2)]
theorem Hf:MT 73 1 xA xz:=mM Go.Proofs.Tryz.func73 (by kernel_rfl) (by kernel_rfl) (by kernel_rfl)
def Fa:aB:=(.seq (.region false [ji 2 (.alloc S6 (.agg S6 [(.raw (it 0)),(.raw (it 0)),(.raw (it 0)),(.agg (.ar 32 L8) (List.replicate 32 (.raw (u8 0#8))))])),ji 3 (.mv (.const (it 0)))]) (.seq (.seq (.region false [jv 5 0,ji 6 (.len (.tmp 5)),ji 7 (.bin .neq (.tmp 6) (.const (it 48))),jv 8 7,⟨some 9,.mv (.tmp 0),some (8,false)⟩,⟨some 10,.slice L8 (.tmp 9) none (some (.const (it 4))) none,some (8,false)⟩,⟨some 11,.Vi (.tmp 10),some (8,false)⟩,⟨some 12,.bin .neq (.tmp 11) (.const (.string ⟨#[67,85,82,84]⟩)),some (8,false)⟩,ji 13 (.pick (.tmp 8) (.const (.bool true)) (.tmp 12))]) (.cond (.tmp 13) (.seq (.region false [ji 14 (.build S6 [(.raw (it 0)),(.raw (it 0)),(.raw (it 0)),(.agg (.ar 32 L8) (List.replicate 32 (.raw (u8 0#8))))] []),⟨none,.store S6 (.tmp 2) (.tmp 14),none⟩,ji 3 (.mv (.const (it 2)))]) .ret) .skip)) (.seq (.region true [jv 15 0,ji 16 (.slice L8 (.tmp 15) (some (.const (it 4))) (some (.const (it 8))) none),ji 17 (.call 75 [.tmp 16]),ji 18 (.conv .i64 (.tmp 17)),jv 19 0,ji 20 (.slice L8 (.tmp 19) (some (.const (it 8))) (some (.const (it 12))) none),ji 21 (.call 75 [.tmp 20]),ji 22 (.conv .i64 (.tmp 21)),jv 23 0,ji 24 (.slice L8 (.tmp 23) (some (.const (it 12))) (some (.const (it 16))) none),ji 25 (.call 75 [.tmp 24]),ji 26 (.conv .i64 (.tmp 25)),jv 27 0,ji 28 (.slice L8 (.tmp 27) (some (.const (it 16))) none none),ji 29 (.s2a 32 L8 (.tmp 28)),ji 30 (.load (.ar 32 L8) (.tmp 29)),ji 31 (.build S6 [(.raw (it 0)),(.raw (it 0)),(.raw (it 0)),(.agg (.ar 32 L8) (List.replicate 32 (.raw (u8 0#8))))] [(0,.tmp 18),(1,.tmp 22),(2,.tmp 26),(3,.tmp 30)]),ji 4 (.alloc S6 (.agg S6 [(.raw (it 0)),(.raw (it 0)),(.raw (it 0)),(.agg (.ar 32 L8) (List.replicate 32 (.raw (u8 0#8))))])),⟨none,.store S6 (.tmp 4) (.tmp 31),none⟩]) (.seq (.seq (.region false [ji 32 (.load S6 (.tmp 4)),ji 33 (.call 136 [.tmp 32]),ji 34 (.un .not (.tmp 33))]) (.cond (.tmp 34) (.seq (.region false [ji 35 (.build S6 [(.raw (it 0)),(.raw (it 0)),(.raw (it 0)),(.agg (.ar 32 L8) (List.replicate 32 (.raw (u8 0#8))))] []),⟨none,.store S6 (.tmp 2) (.tmp 35),none⟩,ji 3 (.mv (.const (it 1)))]) .ret) .skip)) (.seq (.region false [ji 36 (.load S6 (.tmp 4)),⟨none,.store S6 (.tmp 2) (.tmp 36),none⟩,ji 3 (.mv (.const (it 0)))]) .ret)))))
def M9:List aU:=[(.cell 2 S6),(.tmp 3)]
theorem ZK:MT 74 1 M9 Fa:=mM Go.Proofs.Tryz.func74 (by kernel_rfl) (by kernel_rfl) (by kernel_rfl)
noncomputable def Nb:aB:=(⟨_,by conv=>lhs;reduce;simp only[cV,simprocAttr,-List.reduceReplicate]⟩:CO 75).1
def PG:List aU:=[(.tmp 2)]
theorem ZL:MT 75 1 PG Nb:=mM Go.Proofs.Tryz.func75 (by kernel_rfl) (by kernel_rfl) (by kernel_rfl)
noncomputable def vt:aB:=(⟨_,by conv=>lhs;reduce;simp only[cV,simprocAttr,-List.reduceReplicate]⟩:CO 76).1
def vu:List aU:=[(.tmp 2)]
theorem Fq:MT 76 1 vu vt:=mM Go.Proofs.Tryz.func76 (by kernel_rfl) (by kernel_rfl) (by kernel_rfl)
noncomputable def iY:aB:=(⟨_,by conv=>lhs;reduce;simp only[cV,simprocAttr,-List.reduceReplicate]⟩:CO 77).1
def iZ:List aU:=[(.tmp 2)]
theorem oz:MT 77 1 iZ iY:=mM Go.Proofs.Tryz.func77 (by kernel_rfl) (by kernel_rfl) (by kernel_rfl)
noncomputable def o9:aB:=(⟨_,by conv=>lhs;reduce;simp only[cV,simprocAttr,-List.reduceReplicate]⟩:CO 78).1
def pb:List aU:=[(.tmp 2)]
theorem ym:MT 78 1 pb o9:=mM Go.Proofs.Tryz.func78 (by kernel_rfl) (by kernel_rfl) (by kernel_rfl)
noncomputable def jG:aB:=(⟨_,by conv=>lhs;reduce;simp only[cV,simprocAttr,-List.reduceReplicate]⟩:CO 84).1
def jH:List aU:=[(.tmp 2)]
theorem p7:MT 84 1 jH jG:=mM Go.Proofs.Tryz.func84 (by kernel_rfl) (by kernel_rfl) (by kernel_rfl)
noncomputable def zF:aB:=(⟨_,by conv=>lhs;reduce;simp only[cV,simprocAttr,-List.reduceReplicate]⟩:CO 88).1
def zG:List aU:=[(.tmp 6)]
theorem JA:MT 88 3 zG zF:=mM Go.Proofs.Tryz.func88 (by kernel_rfl) (by kernel_rfl) (by kernel_rfl)
def Cq:aB:=(.seq (.region false [ji 2 (.mv (.const (u32 0#32))),ji 3 (.mv (.const (.slice none 0 0))),ji 4 (.mv (.const (u32 0#32))),ji 5 (.mv (.const (.slice none 0 0))),ji 6 (.mv (.const (it 0)))]) (.seq (.region false [ji 7 (.mv (.const (.func (.func 144) #[] #[])))]) (.seq (.region false [jv 19 0,ji 8 (.alloc .ref (.raw (.slice none 0 0))),⟨none,.store .ref (.tmp 8) (.tmp 19),none⟩]) (.seq (.region false [ji 21 (.call 145 [.tmp 8,.const (it 4)]),jv 20 21,ji 22 (.ext (.tmp 20) 0),ji 23 (.ext (.tmp 20) 1),jv 9 22,jv 10 23]) (.seq (.seq (.region false [jv 24 10,ji 25 (.un .not (.tmp 24)),jv 26 25,⟨some 27,.load .ref (.tmp 8),some (26,false)⟩,⟨some 28,.len (.tmp 27),some (26,false)⟩,⟨some 29,.bin .lss (.tmp 28) (.const (it 4)),some (26,false)⟩,ji 30 (.pick (.tmp 26) (.const (.bool true)) (.tmp 29))]) (.cond (.tmp 30) (.seq (.region false [jv 31 7,ji 32 (.oK [144] (.tmp 31) [.const (it 2)]),ji 33 (.ext (.tmp 32) 0),ji 34 (.ext (.tmp 32) 1),ji 35 (.ext (.tmp 32) 2),ji 36 (.ext (.tmp 32) 3),ji 37 (.ext (.tmp 32) 4),jv 2 33,jv 3 34,jv 4 35,jv 5 36,jv 6 37]) .ret) .skip)) (.seq (.region false [ji 39 (.load .ref (.tmp 8)),ji 40 (.call 146 [.tmp 39]),ji 41 (.call 37 [.tmp 40]),jv 38 41,ji 42 (.ext (.tmp 38) 0),ji 43 (.ext (.tmp 38) 1),ji 11 (.alloc s9 (.agg s9 [(.raw (it 0)),(.raw (it 0)),(.raw (it 0))])),⟨none,.store s9 (.tmp 11) (.tmp 42),none⟩,jv 10 43]) (.seq (.seq (.region false [jv 44 10,ji 45 (.un .not (.tmp 44))]) (.cond (.tmp 45) (.seq (.region false [jv 46 7,ji 47 (.oK [144] (.tmp 46) [.const (it 6)]),ji 48 (.ext (.tmp 47) 0),ji 49 (.ext (.tmp 47) 1),ji 50 (.ext (.tmp 47) 2),ji 51 (.ext (.tmp 47) 3),ji 52 (.ext (.tmp 47) 4),jv 2 48,jv 3 49,jv 4 50,jv 5 51,jv 6 52]) .ret) .skip)) (.seq (.region false [ji 54 (.eN s9 (.tmp 11) 1),ji 55 (.load LI (.tmp 54)),ji 56 (.bin .add (.tmp 55) (.const (it 1))),ji 57 (.bin .mul (.const (it 32)) (.tmp 56)),ji 58 (.bin .add (.const (it 4)) (.tmp 57)),ji 59 (.call 145 [.tmp 8,.tmp 58]),jv 53 59,ji 60 (.ext (.tmp 53) 0),ji 61 (.ext (.tmp 53) 1),jv 12 60,jv 10 61]) (.seq (.seq (.region false [jv 62 10,ji 63 (.un .not (.tmp 62)),jv 64 63,⟨some 65,.load .ref (.tmp 8),some (64,false)⟩,⟨some 66,.len (.tmp 65),some (64,false)⟩,⟨some 67,.bin .lss (.tmp 66) (.const (it 4)),some (64,false)⟩,ji 68 (.pick (.tmp 64) (.const (.bool true)) (.tmp 67))]) (.cond (.tmp 68) (.seq (.region false [jv 69 7,ji 70 (.oK [144] (.tmp 69) [.const (it 2)]),ji 71 (.ext (.tmp 70) 0),ji 72 (.ext (.tmp 70) 1),ji 73 (.ext (.tmp 70) 2),ji 74 (.ext (.tmp 70) 3),ji 75 (.ext (.tmp 70) 4),jv 2 71,jv 3 72,jv 4 73,jv 5 74,jv 6 75]) .ret) .skip)) (.seq (.region false [ji 76 (.load .ref (.tmp 8)),ji 77 (.call 146 [.tmp 76]),jv 13 77]) (.seq (.region false [jv 79 13,ji 80 (.call 36 [.tmp 79]),jv 78 80,ji 81 (.ext (.tmp 78) 0),ji 82 (.ext (.tmp 78) 1),jv 14 81,jv 10 82]) (.seq (.seq (.region false [jv 83 10,ji 84 (.un .not (.tmp 83))]) (.cond (.tmp 84) (.seq (.region false [jv 85 7,ji 86 (.oK [144] (.tmp 85) [.const (it 6)]),ji 87 (.ext (.tmp 86) 0),ji 88 (.ext (.tmp 86) 1),ji 89 (.ext (.tmp 86) 2),ji 90 (.ext (.tmp 86) 3),ji 91 (.ext (.tmp 86) 4),jv 2 87,jv 3 88,jv 4 89,jv 5 90,jv 6 91]) .ret) .skip)) (.seq (.region false [ji 92 (.load .ref (.tmp 8)),ji 93 (.slice L8 (.tmp 92) (some (.const (it 4))) none none),⟨none,.store .ref (.tmp 8) (.tmp 93),none⟩]) (.seq (.region false [jv 94 9,ji 95 (.call 146 [.tmp 94]),jv 15 95]) (.seq (.seq (.region false [ji 96 (.load .ref (.tmp 8)),ji 97 (.len (.tmp 96)),jv 98 14,ji 99 (.bin .mul (.const (it 32)) (.tmp 98)),ji 100 (.bin .neq (.tmp 97) (.tmp 99)),jv 101 100,⟨some 102,.mv (.tmp 15),some (101,false)⟩,⟨some 103,.mv (.tmp 14),some (101,false)⟩,⟨some 104,.bin .shr (.tmp 102) (.tmp 103),some (101,false)⟩,⟨some 105,.bin .neq (.tmp 104) (.const (u32 0#32)),some (101,false)⟩,ji 106 (.pick (.tmp 101) (.const (.bool true)) (.tmp 105))]) (.cond (.tmp 106) (.seq (.region false [jv 107 7,ji 108 (.oK [144] (.tmp 107) [.const (it 2)]),ji 109 (.ext (.tmp 108) 0),ji 110 (.ext (.tmp 108) 1),ji 111 (.ext (.tmp 108) 2),ji 112 (.ext (.tmp 108) 3),ji 113 (.ext (.tmp 108) 4),jv 2 109,jv 3 110,jv 4 111,jv 5 112,jv 6 113]) .ret) .skip)) (.seq (.region false [ji 16 (.mv (.const (.slice none 0 0)))]) (.seq (.block 0 (.loop (.seq (.seq (.region false [ji 114 (.load .ref (.tmp 8)),ji 115 (.len (.tmp 114)),ji 116 (.bin .gtr (.tmp 115) (.const (it 0)))]) (.cond (.tmp 116) .skip (.exit 0))) (.block 1 (.seq (.region false [ji 118 (.call 145 [.tmp 8,.const (it 32)]),jv 117 118,ji 119 (.ext (.tmp 117) 0),ji 120 (.ext (.tmp 117) 1),jv 17 119,jv 18 120]) (.region false [jv 121 16,jv 122 17,ji 123 (.s2a 32 L8 (.tmp 122)),ji 124 (.load (.ar 32 L8) (.tmp 123)),ji 125 (.ib (.ar 32 L8) 1 (.agg (.ar 32 L8) (List.replicate 32 (.raw (u8 0#8)))) [(0,.tmp 124)]),ji 126 (.append (.ar 32 L8) 32 (.tmp 121) (.tmp 125)),jv 16 126])))))) (.seq (.region false [jv 127 15,ji 128 (.ib L8 0 (.raw (u8 0#8)) []),jv 129 12,ji 130 (.append L8 1 (.tmp 128) (.tmp 129)),jv 131 13,jv 132 16,jv 2 127,jv 3 130,jv 4 131,jv 5 132,ji 6 (.mv (.const (it 0)))]) .ret))))))))))))))))))
def Cr:List aU:=[(.tmp 2),(.tmp 3),(.tmp 4),(.tmp 5),(.tmp 6)]
theorem LZ:MT 89 1 Cr Cq:=mM Go.Proofs.Tryz.func89 (by kernel_rfl) (by kernel_rfl) (by kernel_rfl)
noncomputable def Ct:aB:=(⟨_,by conv=>lhs;reduce;simp only[cV,simprocAttr,-List.reduceReplicate]⟩:CO 90).1
def Cu:List aU:=[(.cell 6 (.ar 32 L8)),(.tmp 7)]
theorem L3:MT 90 3 Cu Ct:=mM Go.Proofs.Tryz.func90 (by kernel_rfl) (by kernel_rfl) (by kernel_rfl)
noncomputable def xB:aB:=(⟨_,by conv=>lhs;reduce;simp only[cV,simprocAttr,-List.reduceReplicate]⟩:CO 94).1
def xC:List aU:=[(.tmp 4)]
theorem Hg:MT 94 2 xC xB:=mM Go.Proofs.Tryz.func94 (by kernel_rfl) (by kernel_rfl) (by kernel_rfl)
noncomputable def H6:aB:=(⟨_,by conv=>lhs;reduce;simp only[cV,simprocAttr,-List.reduceReplicate]⟩:CO 95).1
def H7:List aU:=[(.cell 2 (.ar 32 L8))]
theorem Tm:MT 95 1 H7 H6:=mM Go.Proofs.Tryz.func95 (by kernel_rfl) (by kernel_rfl) (by kernel_rfl)
noncomputable def Cv:aB:=(⟨_,by conv=>lhs;reduce;simp only[cV,simprocAttr,-List.reduceReplicate]⟩:CO 98).1
def Cw:List aU:=[(.cell 10 (.ar 32 L8))]
theorem L4:MT 98 5 Cw Cv:=mM Go.Proofs.Tryz.func98 (by kernel_rfl) (by kernel_rfl) (by kernel_rfl)
noncomputable def tP:aB:=(⟨_,by conv=>lhs;reduce;simp only[cV,simprocAttr,-List.reduceReplicate]⟩:CO 99).1
def tQ:List aU:=[(.tmp 2)]
theorem Dv:MT 99 1 tQ tP:=mM Go.Proofs.Tryz.func99 (by kernel_rfl) (by kernel_rfl) (by kernel_rfl)
noncomputable def zH:aB:=(⟨_,by conv=>lhs;reduce;simp only[cV,simprocAttr,-List.reduceReplicate]⟩:CO 100).1
def zI:List aU:=[(.cell 6 (.ar 32 L8))]
theorem JB:MT 100 3 zI zH:=mM Go.Proofs.Tryz.func100 (by kernel_rfl) (by kernel_rfl) (by kernel_rfl)
noncomputable def Fs:aB:=(⟨_,by conv=>lhs;reduce;simp only[cV,simprocAttr,-List.reduceReplicate]⟩:CO 101).1
def Ft:List aU:=[(.cell 4 (.ar 32 L8))]
theorem OE:MT 101 2 Ft Fs:=mM Go.Proofs.Tryz.func101 (by kernel_rfl) (by kernel_rfl) (by kernel_rfl)
noncomputable def Fu:aB:=(⟨_,by conv=>lhs;reduce;simp only[cV,simprocAttr,-List.reduceReplicate]⟩:CO 102).1
def Fv:List aU:=[(.cell 8 (.ar 32 L8))]
theorem OF:MT 102 4 Fv Fu:=mM Go.Proofs.Tryz.func102 (by kernel_rfl) (by kernel_rfl) (by kernel_rfl)
noncomputable def vv:aB:=(⟨_,by conv=>lhs;reduce;simp only[cV,simprocAttr,-List.reduceReplicate]⟩:CO 103).1
def vz:List aU:=[(.tmp 4)]
theorem Fw:MT 103 2 vz vv:=mM Go.Proofs.Tryz.func103 (by kernel_rfl) (by kernel_rfl) (by kernel_rfl)
noncomputable def mK:aB:=(⟨_,by conv=>lhs;reduce;simp only[cV,simprocAttr,-List.reduceReplicate]⟩:CO 104).1
def mL:List aU:=[(.tmp 2),(.tmp 3)]
theorem OG:MT 104 1 mL mK:=mM Go.Proofs.Tryz.func104 (by kernel_rfl) (by kernel_rfl) (by kernel_rfl)
noncomputable def vA:aB:=(⟨_,by conv=>lhs;reduce;simp only[cV,simprocAttr,-List.reduceReplicate]⟩:CO 105).1
def vB:List aU:=[(.tmp 4)]
theorem Fx:MT 105 2 vB vA:=mM Go.Proofs.Tryz.func105 (by kernel_rfl) (by kernel_rfl) (by kernel_rfl)
noncomputable def zJ:aB:=(⟨_,by conv=>lhs;reduce;simp only[cV,simprocAttr,-List.reduceReplicate]⟩:CO 106).1
def zK:List aU:=[(.tmp 2)]
theorem JD:MT 106 1 zK zJ:=mM Go.Proofs.Tryz.func106 (by kernel_rfl) (by kernel_rfl) (by kernel_rfl)
noncomputable def tR:aB:=(⟨_,by conv=>lhs;reduce;simp only[cV,simprocAttr,-List.reduceReplicate]⟩:CO 107).1
def tS:List aU:=[(.tmp 6)]
theorem Dw:MT 107 3 tS tR:=mM Go.Proofs.Tryz.func107 (by kernel_rfl) (by kernel_rfl) (by kernel_rfl)
noncomputable def fk:aB:=(⟨_,by conv=>lhs;reduce;simp only[cV,simprocAttr,-List.reduceReplicate]⟩:CO 108).1
def fm:List aU:=[(.tmp 6)]
theorem vC:MT 108 3 fm fk:=mM Go.Proofs.Tryz.func108 (by kernel_rfl) (by kernel_rfl) (by kernel_rfl)
noncomputable def qs:aB:=(⟨_,by conv=>lhs;reduce;simp only[cV,simprocAttr,-List.reduceReplicate]⟩:CO 109).1
def qt:List aU:=[(.tmp 2)]
theorem zM:MT 109 1 qt qs:=mM Go.Proofs.Tryz.func109 (by kernel_rfl) (by kernel_rfl) (by kernel_rfl)
noncomputable def zN:aB:=(⟨_,by conv=>lhs;reduce;simp only[cV,simprocAttr,-List.reduceReplicate]⟩:CO 110).1
def zO:List aU:=[(.tmp 4)]
theorem JE:MT 110 2 zO zN:=mM Go.Proofs.Tryz.func110 (by kernel_rfl) (by kernel_rfl) (by kernel_rfl)
noncomputable def Fy:aB:=(⟨_,by conv=>lhs;reduce;simp only[cV,simprocAttr,-List.reduceReplicate]⟩:CO 111).1
def Fz:List aU:=[(.cell 6 (.ar 32 L8))]
theorem OH:MT 111 3 Fz Fy:=mM Go.Proofs.Tryz.func111 (by kernel_rfl) (by kernel_rfl) (by kernel_rfl)
noncomputable def yn:aB:=(⟨_,by conv=>lhs;reduce;simp only[cV,simprocAttr,-List.reduceReplicate]⟩:CO 112).1
def yo:List aU:=[(.tmp 10),(.tmp 11)]
theorem OI:MT 112 5 yo yn:=mM Go.Proofs.Tryz.func112 (by kernel_rfl) (by kernel_rfl) (by kernel_rfl)
noncomputable def qu:aB:=(⟨_,by conv=>lhs;reduce;simp only[cV,simprocAttr,-List.reduceReplicate]⟩:CO 113).1
def qv:List aU:=[(.tmp 4)]
theorem zP:MT 113 2 qv qu:=mM Go.Proofs.Tryz.func113 (by kernel_rfl) (by kernel_rfl) (by kernel_rfl)
noncomputable def zQ:aB:=(⟨_,by conv=>lhs;reduce;simp only[cV,simprocAttr,-List.reduceReplicate]⟩:CO 114).1
def zS:List aU:=[(.tmp 4)]
theorem JF:MT 114 2 zS zQ:=mM Go.Proofs.Tryz.func114 (by kernel_rfl) (by kernel_rfl) (by kernel_rfl)
noncomputable def og:aB:=(⟨_,by conv=>lhs;reduce;simp only[cV,simprocAttr,-List.reduceReplicate]⟩:CO 116).1
def oh:List aU:=[(.tmp 8),(.tmp 9)]
theorem wX:MT 116 4 oh og:=mM Go.Proofs.Tryz.func116 (by kernel_rfl) (by kernel_rfl) (by kernel_rfl)
noncomputable def cS:aB:=(⟨_,by conv=>lhs;reduce;simp only[cV,simprocAttr,-List.reduceReplicate]⟩:CO 117).1
def cT:List aU:=[(.tmp 8)]
theorem yp:MT 117 4 cT cS:=mM Go.Proofs.Tryz.func117 (by kernel_rfl) (by kernel_rfl) (by kernel_rfl)
noncomputable def tT:aB:=(⟨_,by conv=>lhs;reduce;simp only[cV,simprocAttr,-List.reduceReplicate]⟩:CO 118).1
def tU:List aU:=[(.cell 0 S1)]
theorem Dx:MT 118 0 tU tT:=mM Go.Proofs.Tryz.func118 (by kernel_rfl) (by kernel_rfl) (by kernel_rfl)
noncomputable def tV:aB:=(⟨_,by conv=>lhs;reduce;simp only[cV,simprocAttr,-List.reduceReplicate]⟩:CO 119).1
def tW:List aU:=[(.cell 2 S1),(.tmp 3)]
theorem Dy:MT 119 1 tW tV:=mM Go.Proofs.Tryz.func119 (by kernel_rfl) (by kernel_rfl) (by kernel_rfl)
noncomputable def vD:aB:=(⟨_,by conv=>lhs;reduce;simp only[cV,simprocAttr,-List.reduceReplicate]⟩:CO 120).1
def vE:List aU:=[(.tmp 2)]
theorem FA:MT 120 1 vE vD:=mM Go.Proofs.Tryz.func120 (by kernel_rfl) (by kernel_rfl) (by kernel_rfl)
noncomputable def dC:aB:=(⟨_,by conv=>lhs;reduce;simp only[cV,simprocAttr,-List.reduceReplicate]⟩:CO 121).1
def dD:List aU:=[(.tmp 4)]
theorem wY:MT 121 2 dD dC:=mM Go.Proofs.Tryz.func121 (by kernel_rfl) (by kernel_rfl) (by kernel_rfl)
noncomputable def ci:aB:=(⟨_,by conv=>lhs;reduce;simp only[cV,simprocAttr,-List.reduceReplicate]⟩:CO 122).1
def dP:List aU:=[(.tmp 4)]
theorem yq:MT 122 2 dP ci:=mM Go.Proofs.Tryz.func122 (by kernel_rfl) (by kernel_rfl) (by kernel_rfl)
noncomputable def eA:aB:=(⟨_,by conv=>lhs;reduce;simp only[cV,simprocAttr,-List.reduceReplicate]⟩:CO 123).1
def eB:List aU:=[(.tmp 4)]
theorem zU:MT 123 2 eB eA:=mM Go.Proofs.Tryz.func123 (by kernel_rfl) (by kernel_rfl) (by kernel_rfl)
noncomputable def cG:aB:=(⟨_,by conv=>lhs;reduce;simp only[cV,simprocAttr,-List.reduceReplicate]⟩:CO 124).1
def cH:List aU:=[]
theorem yt:MT 124 2 cH cG:=mM Go.Proofs.Tryz.func124 (by kernel_rfl) (by kernel_rfl) (by kernel_rfl)
noncomputable def dQ:aB:=(⟨_,by conv=>lhs;reduce;simp only[cV,simprocAttr,-List.reduceReplicate]⟩:CO 125).1
def dR:List aU:=[(.tmp 4)]
theorem yu:MT 125 2 dR dQ:=mM Go.Proofs.Tryz.func125 (by kernel_rfl) (by kernel_rfl) (by kernel_rfl)
noncomputable def dE:aB:=(⟨_,by conv=>lhs;reduce;simp only[cV,simprocAttr,-List.reduceReplicate]⟩:CO 126).1
def dF:List aU:=[(.tmp 4)]
theorem wZ:MT 126 2 dF dE:=mM Go.Proofs.Tryz.func126 (by kernel_rfl) (by kernel_rfl) (by kernel_rfl)
end Go.Am.F

import Derived.Test.YtgcejocgnfkciaaGreatDoorKi5
import Derived.Test.YtgcejocgnfkciaaGreatDoorProg
set_option linter.unusedSimpArgs false
set_option linter.unusedVariables false
set_option maxRecDepth 10000
namespace Go.Am.F
set_option maxRecDepth 100000
set_option maxHeartbeats 0
set_option linter.defProp false
abbrev ji(d:Nat)(o:nh):aS:=⟨some d,o,none⟩
abbrev jv(d x:Nat):aS:=⟨some d,.mv (.tmp x),none⟩
noncomputable def codeOf(P:Program)(k:Nat):aA:=match P.funcs[k]? with
 |some f=>match f.body with
  |some c=>(comp P f.ntmps c).getD .skip
  |none=> .skip
 |none=> .skip
abbrev CO(k:Nat):={c:aA//codeOf Go.Proofs.Tryz.prog k=c}
theorem cf8{n:Int}(h:0<=n)(h1:n<256):Value.int .u8 n=u8 (BitVec.ofInt 8 n):=by
 obtain⟨m,rfl⟩:=aaO h
 unfold u8
 congr 1
 simp
 omega
theorem cf16{n:Int}(h:0<=n)(h1:n<65536):Value.int .u16 n=u16 (BitVec.ofInt 16 n):=by
 obtain⟨m,rfl⟩:=aaO h
 unfold u16
 congr 1
 simp
 omega
theorem cf32{n:Int}(h:0<=n)(h1:n<4294967296):Value.int .u32 n=u32 (BitVec.ofInt 32 n):=by
 obtain⟨m,rfl⟩:=aaO h
 unfold u32
 congr 1
 simp
 omega
theorem cf64{n:Int}(h:0<=n)(h1:n<18446744073709551616):Value.int .u64 n=u64 (BitVec.ofInt 64 n):=by
 obtain⟨m,rfl⟩:=aaO h
 unfold u64
 congr 1
 simp
 omega
theorem cfi(n:Int):Value.int .i64 n=it n:=rfl
theorem cfa2{e:Sh}{x:D}:D.agg (.ar 2 e) [x,x]= .agg (.ar 2 e) (List.replicate 2 x):=rfl
theorem cfb2{e:Sh}{x:D}{p:List (Nat×X)}:nh.build (.ar 2 e) [x,x] p= .build (.ar 2 e) (List.replicate 2 x) p:=rfl
theorem cfa4{e:Sh}{x:D}:D.agg (.ar 4 e) [x,x,x,x]= .agg (.ar 4 e) (List.replicate 4 x):=rfl
theorem cfb4{e:Sh}{x:D}{p:List (Nat×X)}:nh.build (.ar 4 e) [x,x,x,x] p= .build (.ar 4 e) (List.replicate 4 x) p:=rfl
theorem cfa8{e:Sh}{x:D}:D.agg (.ar 8 e) [x,x,x,x,x,x,x,x]= .agg (.ar 8 e) (List.replicate 8 x):=rfl
theorem cfb8{e:Sh}{x:D}{p:List (Nat×X)}:nh.build (.ar 8 e) [x,x,x,x,x,x,x,x] p= .build (.ar 8 e) (List.replicate 8 x) p:=rfl
theorem cfa16{e:Sh}{x:D}:D.agg (.ar 16 e) [x,x,x,x,x,x,x,x,x,x,x,x,x,x,x,x]= .agg (.ar 16 e) (List.replicate 16 x):=rfl
theorem cfb16{e:Sh}{x:D}{p:List (Nat×X)}:nh.build (.ar 16 e) [x,x,x,x,x,x,x,x,x,x,x,x,x,x,x,x] p= .build (.ar 16 e) (List.replicate 16 x) p:=rfl
theorem cfa32{e:Sh}{x:D}:D.agg (.ar 32 e) [x,x,x,x,x,x,x,x,x,x,x,x,x,x,x,x,x,x,x,x,x,x,x,x,x,x,x,x,x,x,x,x]= .agg (.ar 32 e) (List.replicate 32 x):=rfl
theorem cfb32{e:Sh}{x:D}{p:List (Nat×X)}:nh.build (.ar 32 e) [x,x,x,x,x,x,x,x,x,x,x,x,x,x,x,x,x,x,x,x,x,x,x,x,x,x,x,x,x,x,x,x] p= .build (.ar 32 e) (List.replicate 32 x) p:=rfl
theorem cfa64{e:Sh}{x:D}:D.agg (.ar 64 e) [x,x,x,x,x,x,x,x,x,x,x,x,x,x,x,x,x,x,x,x,x,x,x,x,x,x,x,x,x,x,x,x,x,x,x,x,x,x,x,x,x,x,x,x,x,x,x,x,x,x,x,x,x,x,x,x,x,x,x,x,x,x,x,x]= .agg (.ar 64 e) (List.replicate 64 x):=rfl
theorem cfb64{e:Sh}{x:D}{p:List (Nat×X)}:nh.build (.ar 64 e) [x,x,x,x,x,x,x,x,x,x,x,x,x,x,x,x,x,x,x,x,x,x,x,x,x,x,x,x,x,x,x,x,x,x,x,x,x,x,x,x,x,x,x,x,x,x,x,x,x,x,x,x,x,x,x,x,x,x,x,x,x,x,x,x] p= .build (.ar 64 e) (List.replicate 64 x) p:=rfl
def cT:=(And.intro (And.intro (And.intro (And.intro @cf8 @cf16) (And.intro @cf32 @cf64)) (And.intro (And.intro @cfi @cfa2) (And.intro @cfa4 @cfa8))) (And.intro (And.intro (And.intro @cfa16 @cfa32) (And.intro @cfa64 @cfb2)) (And.intro (And.intro @cfb4 @cfb8) (And.intro @cfb16 (And.intro @cfb32 @cfb64)))))
abbrev MT(f n:Nat)(r:List aO)(a:aA):Prop:=∀C:aX,aJ C Go.Proofs.Tryz.prog->aP C.aY Go.Proofs.Tryz.prog f (aG C n r a)
theorem mM{f n:Nat}{r:List aO}{a:aA}{g:Func}(hf:Go.Proofs.Tryz.prog.funcs[f]?=some g)(hb:o2 g.body (comp Go.Proofs.Tryz.prog g.ntmps)=some a)(hr:GU Go.Proofs.Tryz.prog g.results.toList=some r)(hn:Nat.ble n g.ntmps=true):MT f n r a:=λ_ hC=>NU hC hf hb hr (abz hn)
abbrev S1:Sh:= .cons dk (.cons LI (.cons LI (.cons LI .nil)))
abbrev S2:Sh:= .cons dk (.cons dk (.cons dk (.cons dk (.cons dk (.cons dk (.cons dk (.cons dk .nil)))))))
abbrev S3:Sh:= .cons (.ar 32 dk) (.cons dk (.cons S2 (.cons LB .nil)))
abbrev S4:Sh:= .cons .ref (.cons .ref (.cons S3 (.cons .ref .nil)))
abbrev S5:Sh:= .cons LI (.cons (.ar 8192 L8) (.cons (.ar 64 L8) (.cons .ref (.cons .ref .nil))))
abbrev S6:Sh:= .cons LI (.cons LI (.cons LI (.cons (.ar 32 L8) .nil)))
abbrev S7:Sh:= .cons LI (.cons S6 (.cons .ref .nil))
abbrev S8:Sh:= .cons LI (.cons LI (.cons S6 (.cons LB (.cons LI (.cons LI (.cons LI (.cons LI (.cons .ref (.cons (.ar 2 S7) (.cons .ref (.cons LI (.cons LI .nil))))))))))))
abbrev S9:Sh:= .cons LI (.cons S1 (.cons LB (.cons LB (.cons LI .nil))))
abbrev S10:Sh:= .cons .ref (.cons .ref (.cons LI .nil))
abbrev S11:Sh:= .cons S10 (.cons .ref (.cons LI .nil))
abbrev S12:Sh:= .cons L8 (.cons L8 (.cons L8 (.cons LB (.cons LB (.cons .ref (.cons .ref .nil))))))
abbrev ua:Sh:= .cons dk (.cons LI (.cons LI .nil))
abbrev kx:Sh:= .cons LI (.cons .ref (.cons .ref (.cons ua (.cons (.ar 32 L8) .nil))))
abbrev sr:Sh:= .cons LI (.cons LI (.cons LI .nil))
abbrev S16:Sh:= .cons dk (.cons LI .nil)
abbrev Lp:Sh:= .cons dk (.cons dk (.cons (.ar 16 L8) (.cons (.ar 32 L8) (.cons .ref (.cons dk (.cons .ref (.cons .ref (.cons .ref .nil))))))))
abbrev S18:Sh:= .cons L8 (.cons LI (.cons LI (.cons .ref (.cons LI (.cons dk .nil)))))
abbrev S19:Sh:= .cons .ref .nil
abbrev S20:Sh:= .cons .ref (.cons LB .nil)
abbrev rB:Sh:= .cons .ref (.cons .ref (.cons (.ar 16 L8) (.cons dk (.cons (.ar 32 L8) .nil))))
abbrev Ze:Sh:= .cons (.ar 16 L8) (.cons dk .nil)
abbrev S23:Sh:= .cons LI (.cons dk .nil)
abbrev S24:Sh:= .cons LS (.cons (.ar 32 L8) .nil)
abbrev S25:Sh:= .cons dk (.cons LB .nil)
abbrev S26:Sh:= .cons (.ar 4 (.ar 32 L8)) .nil
abbrev S27:Sh:= .cons .ref (.cons S26 (.cons (.ar 32 L8) (.cons LI .nil)))
abbrev S28:Sh:= .cons .ref (.cons .ref (.cons dk .nil))
abbrev S29:Sh:= .cons dk (.cons dk (.cons (.ar 16 L8) (.cons (.ar 32 L8) .nil)))
abbrev M2:Sh:= .cons (.ar 8 dk) (.cons (.ar 64 L8) (.cons L64 .nil))
abbrev S31:Sh:= .cons LI (.cons (.ar 32 L8) .nil)
abbrev S32:Sh:= .cons (.ar 8 S31) (.cons LB (.cons LB .nil))
abbrev S33:Sh:= .cons LI (.cons LI (.cons dk (.cons LI (.cons LB (.cons LB .nil)))))
abbrev S34:Sh:= .cons M2 (.cons M2 .nil)
abbrev y5:Sh:= .cons LS .nil
noncomputable def fZ:aA:=(⟨_,by conv=>lhs;reduce;simp only[cT,simprocAttr,-List.reduceReplicate]⟩:CO 5).1
def lM:List aO:=[(.tmp 8)]
theorem Fg:MT 5 4 lM fZ:=mM Go.Proofs.Tryz.func5 (by kernel_rfl) (by kernel_rfl) (by kernel_rfl)
noncomputable def jX:aA:=(⟨_,by conv=>lhs;reduce;simp only[cT,simprocAttr,-List.reduceReplicate]⟩:CO 7).1
def jY:List aO:=[(.tmp 0)]
theorem N0:MT 7 0 jY jX:=mM Go.Proofs.Tryz.func7 (by kernel_rfl) (by kernel_rfl) (by kernel_rfl)
def tc:aA:=(.seq (.region false [ji 6 (.box (.ar 16 L8) (.tmp 2)),ji 7 (.box (.ar 32 L8) (.tmp 3)),ji 8 (.mv (.const (.pointer none))),ji 9 (.mv (.const (it 0)))]) (.seq (.region false [jv 20 0,ji 21 (.call 36 [.tmp 20]),jv 19 21,ji 22 (.ext (.tmp 19) 0),ji 23 (.ext (.tmp 19) 1),jv 10 22,jv 11 23]) (.seq (.seq (.region false [jv 25 1,ji 26 (.call 37 [.tmp 25]),jv 24 26,ji 27 (.ext (.tmp 24) 0),ji 28 (.ext (.tmp 24) 1),ji 12 (.alloc sr (.agg sr [(.raw (it 0)),(.raw (it 0)),(.raw (it 0))])),⟨none,.store sr (.tmp 12) (.tmp 27),none⟩,jv 13 28]) (.seq (.region false [jv 29 11,ji 30 (.un .not (.tmp 29)),jv 31 30,⟨some 32,.mv (.tmp 13),some (31,false)⟩,⟨some 33,.un .not (.tmp 32),some (31,false)⟩,ji 34 (.pick (.tmp 31) (.const (.bool true)) (.tmp 33)),jv 35 34,⟨some 36,.mv (.tmp 10),some (35,false)⟩,⟨some 37,.bin .gtr (.tmp 36) (.const (it 10)),some (35,false)⟩,ji 38 (.pick (.tmp 35) (.const (.bool true)) (.tmp 37))]) (.cond (.tmp 38) (.seq (.region false [ji 8 (.mv (.const (.pointer none))),ji 9 (.mv (.const (it 6)))]) .ret) .skip))) (.seq (.region true [jv 39 0,jv 40 1,ji 41 (.load (.ar 16 L8) (.tmp 6)),ji 42 (.load (.ar 32 L8) (.tmp 7)),jv 43 10,ji 44 (.bin .shl (.const (it 2)) (.tmp 43)),ji 45 (.mks (.ar 32 L8) 32 (.agg (.ar 32 L8) (List.replicate 32 (.raw (u8 0#8)))) (.tmp 44) (.tmp 44)),ji 46 (.mkm LS LB),ji 47 (.mkm S16 LI),ji 48 (.build Lp [(.raw (u32 0#32)),(.raw (u32 0#32)),(.agg (.ar 16 L8) (List.replicate 16 (.raw (u8 0#8)))),(.agg (.ar 32 L8) (List.replicate 32 (.raw (u8 0#8)))),(.raw (.slice none 0 0)),(.raw (u32 0#32)),(.raw (.map none)),(.raw (.map none)),(.raw (.slice none 0 0))] [(0,.tmp 39),(1,.tmp 40),(2,.tmp 41),(3,.tmp 42),(4,.tmp 45),(6,.tmp 46),(7,.tmp 47)]),ji 49 (.box Lp (.tmp 48)),jv 14 49]) (.seq (.seq (.region false [jv 50 14,ji 51 (.nt (.tmp 50)),ji 52 (.b7 Lp (.tmp 51) 4),ji 53 (.load .ref (.tmp 52)),ji 54 (.len (.tmp 53)),ji 55 (.bin .sub (.tmp 54) (.const (it 1))),jv 15 55]) (.block 0 (.loop (.seq (.seq (.region false [jv 56 15,ji 57 (.bin .gtr (.tmp 56) (.const (it 0)))]) (.cond (.tmp 57) .skip (.exit 0))) (.seq (.block 1 (.seq (.region false [jv 60 15,jv 61 14,ji 62 (.call 38 [.tmp 61]),ji 63 (.bin .sub (.tmp 60) (.tmp 62)),jv 16 63]) (.seq (.region false [jv 64 16,ji 65 (.bin .geq (.tmp 64) (.const (it 0)))]) (.cond (.tmp 65) (.seq (.draw [jv 67 1,jv 68 14,jv 69 16,ji 70 (.conv .u32 (.tmp 69)),ji 71 (.call 40 [.tmp 68,.tmp 70]),ji 72 (.load (.ar 32 L8) (.tmp 7)),ji 73 (.call 39 [.tmp 67,.tmp 71,.tmp 72]),jv 66 73,ji 74 (.ext (.tmp 66) 0),ji 75 (.ext (.tmp 66) 1),ji 17 (.alloc (.ar 32 L8) (.agg (.ar 32 L8) (List.replicate 32 (.raw (u8 0#8)))))] [ji 75 (.ext (.tmp 66) 1)] [(⟨none,.store (.ar 32 L8) (.tmp 17) (.tmp 74),none⟩,[ji 75 (.ext (.tmp 66) 1)]),(jv 18 75,[])]) (.region true [jv 76 14,ji 77 (.nt (.tmp 76)),ji 78 (.b7 Lp (.tmp 77) 4),ji 79 (.load .ref (.tmp 78)),jv 80 15,ji 81 (.load (.ar 16 L8) (.tmp 6)),jv 82 15,ji 83 (.conv .u32 (.tmp 82)),ji 84 (.load (.ar 32 L8) (.tmp 17)),ji 85 (.call 41 [.tmp 81,.tmp 83,.tmp 84]),ji 86 (.eO (.ar 32 L8) (.tmp 79) (.tmp 80)),⟨none,.store (.ar 32 L8) (.tmp 86) (.tmp 85),none⟩])) (.region true [jv 87 14,ji 88 (.nt (.tmp 87)),ji 89 (.b7 Lp (.tmp 88) 4),ji 90 (.load .ref (.tmp 89)),jv 91 15,ji 92 (.load (.ar 16 L8) (.tmp 6)),jv 93 15,ji 94 (.conv .u32 (.tmp 93)),jv 95 14,ji 96 (.nt (.tmp 95)),ji 97 (.b7 Lp (.tmp 96) 4),ji 98 (.load .ref (.tmp 97)),jv 99 15,ji 100 (.bin .mul (.const (it 2)) (.tmp 99)),ji 101 (.eO (.ar 32 L8) (.tmp 98) (.tmp 100)),ji 102 (.load (.ar 32 L8) (.tmp 101)),jv 103 14,ji 104 (.nt (.tmp 103)),ji 105 (.b7 Lp (.tmp 104) 4),ji 106 (.load .ref (.tmp 105)),jv 107 15,ji 108 (.bin .mul (.const (it 2)) (.tmp 107)),ji 109 (.bin .add (.tmp 108) (.const (it 1))),ji 110 (.eO (.ar 32 L8) (.tmp 106) (.tmp 109)),ji 111 (.load (.ar 32 L8) (.tmp 110)),ji 112 (.call 42 [.tmp 92,.tmp 94,.tmp 102,.tmp 111]),ji 113 (.eO (.ar 32 L8) (.tmp 90) (.tmp 91)),⟨none,.store (.ar 32 L8) (.tmp 113) (.tmp 112),none⟩]))))) (.region false [jv 58 15,ji 59 (.bin .sub (.tmp 58) (.const (it 1))),jv 15 59])))))) (.seq (.region false [jv 114 14,jv 8 114,ji 9 (.mv (.const (it 0)))]) .ret))))))
def td:List aO:=[(.tmp 8),(.tmp 9)]
theorem Vz:MT 8 4 td tc:=mM Go.Proofs.Tryz.func8 (by kernel_rfl) (by kernel_rfl) (by kernel_rfl)
noncomputable def tf:aA:=(⟨_,by conv=>lhs;reduce;simp only[cT,simprocAttr,-List.reduceReplicate]⟩:CO 9).1
def tj:List aO:=[(.tmp 8)]
theorem VA:MT 9 4 tj tf:=mM Go.Proofs.Tryz.func9 (by kernel_rfl) (by kernel_rfl) (by kernel_rfl)
noncomputable def o8:aA:=(⟨_,by conv=>lhs;reduce;simp only[cT,simprocAttr,-List.reduceReplicate]⟩:CO 10).1
def o9:List aO:=[(.tmp 2)]
theorem yF:MT 10 1 o9 o8:=mM Go.Proofs.Tryz.func10 (by kernel_rfl) (by kernel_rfl) (by kernel_rfl)
noncomputable def mg:aA:=(⟨_,by conv=>lhs;reduce;simp only[cT,simprocAttr,-List.reduceReplicate]⟩:CO 11).1
def mh:List aO:=[(.tmp 8)]
theorem N2:MT 11 4 mh mg:=mM Go.Proofs.Tryz.func11 (by kernel_rfl) (by kernel_rfl) (by kernel_rfl)
noncomputable def fI:aA:=(⟨_,by conv=>lhs;reduce;simp only[cT,simprocAttr,-List.reduceReplicate]⟩:CO 12).1
def fJ:List aO:=[(.tmp 6)]
theorem Lq:MT 12 3 fJ fI:=mM Go.Proofs.Tryz.func12 (by kernel_rfl) (by kernel_rfl) (by kernel_rfl)
def wL:aA:=(.seq (.region false [ji 3 (.box S1 (.tmp 1)),ji 4 (.mv (.const (.slice none 0 0)))]) (.seq (.region false [jv 9 0,ji 10 (.call 58 [.tmp 9]),jv 8 10,ji 11 (.ext (.tmp 8) 0),ji 12 (.ext (.tmp 8) 1),ji 5 (.alloc S1 (.agg S1 [(.raw (u32 0#32)),(.raw (it 0)),(.raw (it 0)),(.raw (it 0))])),⟨none,.store S1 (.tmp 5) (.tmp 11),none⟩,jv 6 12]) (.seq (.region false [ji 13 (.b7 S1 (.tmp 5) 0),ji 14 (.load dk (.tmp 13)),ji 15 (.bin .add (.tmp 14) (.const (u32 1#32))),ji 16 (.b7 S1 (.tmp 3) 0),⟨none,.store dk (.tmp 16) (.tmp 15),none⟩]) (.seq (.seq (.region false [ji 17 (.b7 S1 (.tmp 3) 0),ji 18 (.load dk (.tmp 17)),ji 19 (.bin .eql (.tmp 18) (.const (u32 0#32))),jv 20 19,⟨some 21,.load S1 (.tmp 3),some (20,false)⟩,⟨some 22,.call 59 [.tmp 21],some (20,false)⟩,⟨some 23,.un .not (.tmp 22),some (20,false)⟩,ji 24 (.pick (.tmp 20) (.const (.bool true)) (.tmp 23))]) (.cond (.tmp 24) (.seq (.region false [ji 4 (.mv (.const (.slice none 0 0)))]) .ret) .skip)) (.seq (.region false [ji 7 (.mv (.const (it 32)))]) (.seq (.seq (.region false [jv 25 6,ji 26 (.bin .eql (.tmp 25) (.const (it 32)))]) (.cond (.tmp 26) (.region false [ji 7 (.mv (.const (it 33)))]) .skip)) (.seq (.region false [jv 27 7,ji 28 (.build S18 [(.raw (u8 0#8)),(.raw (it 0)),(.raw (it 0)),(.raw (.slice none 0 0)),(.raw (it 0)),(.raw (u32 0#32))] [(0,.const (u8 1#8)),(1,.tmp 27)]),jv 29 7,ji 30 (.load S1 (.tmp 3)),ji 31 (.call 60 [.tmp 30]),ji 32 (.build S18 [(.raw (u8 0#8)),(.raw (it 0)),(.raw (it 0)),(.raw (.slice none 0 0)),(.raw (it 0)),(.raw (u32 0#32))] [(0,.const (u8 2#8)),(1,.tmp 29),(3,.tmp 31)]),ji 33 (.cP S18 2 (.agg S18 [(.raw (u8 0#8)),(.raw (it 0)),(.raw (it 0)),(.raw (.slice none 0 0)),(.raw (it 0)),(.raw (u32 0#32))]) [(0,.tmp 28),(1,.tmp 32)]),jv 4 33]) .ret)))))))
def wM:List aO:=[(.tmp 4)]
noncomputable def lU:aA:=(⟨_,by conv=>lhs;reduce;simp only[cT,simprocAttr,-List.reduceReplicate]⟩:CO 14).1
def lV:List aO:=[(.tmp 0)]
theorem QL:MT 14 0 lV lU:=mM Go.Proofs.Tryz.func14 (by kernel_rfl) (by kernel_rfl) (by kernel_rfl)
noncomputable def bX:aA:=(⟨_,by conv=>lhs;reduce;simp only[cT,simprocAttr,-List.reduceReplicate]⟩:CO 15).1
def gf:List aO:=[(.tmp 6)]
theorem Fh:MT 15 3 gf bX:=mM Go.Proofs.Tryz.func15 (by kernel_rfl) (by kernel_rfl) (by kernel_rfl)
noncomputable def y6:aA:=(⟨_,by conv=>lhs;reduce;simp only[cT,simprocAttr,-List.reduceReplicate]⟩:CO 16).1
def y7:List aO:=[(.tmp 2)]
theorem Ja:MT 16 1 y7 y6:=mM Go.Proofs.Tryz.func16 (by kernel_rfl) (by kernel_rfl) (by kernel_rfl)
noncomputable def Ew:aA:=(⟨_,by conv=>lhs;reduce;simp only[cT,simprocAttr,-List.reduceReplicate]⟩:CO 17).1
def Ey:List aO:=[(.tmp 4)]
theorem N3:MT 17 2 Ey Ew:=mM Go.Proofs.Tryz.func17 (by kernel_rfl) (by kernel_rfl) (by kernel_rfl)
def z8:aA:=(.seq (.region false [ji 6 (.mv (.const (it 0)))]) (.seq (.seq (.region false [jv 8 0,jv 9 1,ji 10 (.call 62 [.tmp 8,.tmp 9,.const (it 1)]),jv 7 10]) (.seq (.region false [jv 11 7,ji 12 (.bin .neq (.tmp 11) (.const (it 0)))]) (.cond (.tmp 12) (.seq (.region false [jv 13 7,jv 6 13]) .ret) .skip))) (.seq (.region false [jv 14 0,ji 15 (.nt (.tmp 14)),ji 16 (.b7 S19 (.tmp 15) 0),ji 17 (.load .ref (.tmp 16)),jv 18 1,ji 19 (.eO L8 (.tmp 17) (.tmp 18)),ji 20 (.load L8 (.tmp 19)),jv 21 2,ji 22 (.bin .xor (.tmp 20) (.tmp 21)),ji 23 (.eO L8 (.tmp 17) (.tmp 18)),⟨none,.store L8 (.tmp 23) (.tmp 22),none⟩]) (.seq (.region false [ji 6 (.mv (.const (it 0)))]) .ret))))
def z9:List aO:=[(.tmp 6)]
noncomputable def tn:aA:=(⟨_,by conv=>lhs;reduce;simp only[cT,simprocAttr,-List.reduceReplicate]⟩:CO 19).1
def tq:List aO:=[(.tmp 2),(.tmp 3)]
theorem Zf:MT 19 1 tq tn:=mM Go.Proofs.Tryz.func19 (by kernel_rfl) (by kernel_rfl) (by kernel_rfl)
noncomputable def eS:aA:=(⟨_,by conv=>lhs;reduce;simp only[cT,simprocAttr,-List.reduceReplicate]⟩:CO 20).1
def eT:List aO:=[(.tmp 4)]
theorem Bb:MT 20 2 eT eS:=mM Go.Proofs.Tryz.func20 (by kernel_rfl) (by kernel_rfl) (by kernel_rfl)
noncomputable def qe:aA:=(⟨_,by conv=>lhs;reduce;simp only[cT,simprocAttr,-List.reduceReplicate]⟩:CO 23).1
def qf:List aO:=[(.tmp 6),(.tmp 7)]
theorem Aa:MT 23 3 qf qe:=mM Go.Proofs.Tryz.func23 (by kernel_rfl) (by kernel_rfl) (by kernel_rfl)
def Lr:aA:=(.seq (.region false [ji 2 (.alloc S6 (.agg S6 [(.raw (it 0)),(.raw (it 0)),(.raw (it 0)),(.agg (.ar 32 L8) (List.replicate 32 (.raw (u8 0#8))))])),ji 3 (.mv (.const (.slice none 0 0))),ji 4 (.mv (.const (.slice none 0 0))),ji 5 (.mv (.const (it 0)))]) (.seq (.seq (.region false [jv 9 0,ji 10 (.len (.tmp 9)),ji 11 (.bin .lss (.tmp 10) (.const (it 50)))]) (.cond (.tmp 11) (.seq (.region false [ji 12 (.build S6 [(.raw (it 0)),(.raw (it 0)),(.raw (it 0)),(.agg (.ar 32 L8) (List.replicate 32 (.raw (u8 0#8))))] []),⟨none,.store S6 (.tmp 2) (.tmp 12),none⟩,ji 3 (.mv (.const (.slice none 0 0))),ji 4 (.mv (.const (.slice none 0 0))),ji 5 (.mv (.const (it 2)))]) .ret) .skip)) (.seq (.region false [jv 14 0,ji 15 (.slice L8 (.tmp 14) none (some (.const (it 48))) none),ji 16 (.call 74 [.tmp 15]),jv 13 16,ji 17 (.ext (.tmp 13) 0),ji 18 (.ext (.tmp 13) 1),ji 6 (.alloc S6 (.agg S6 [(.raw (it 0)),(.raw (it 0)),(.raw (it 0)),(.agg (.ar 32 L8) (List.replicate 32 (.raw (u8 0#8))))])),⟨none,.store S6 (.tmp 6) (.tmp 17),none⟩,jv 7 18]) (.seq (.seq (.region false [jv 19 7,ji 20 (.bin .neq (.tmp 19) (.const (it 0)))]) (.cond (.tmp 20) (.seq (.region false [ji 21 (.build S6 [(.raw (it 0)),(.raw (it 0)),(.raw (it 0)),(.agg (.ar 32 L8) (List.replicate 32 (.raw (u8 0#8))))] []),jv 22 7,⟨none,.store S6 (.tmp 2) (.tmp 21),none⟩,ji 3 (.mv (.const (.slice none 0 0))),ji 4 (.mv (.const (.slice none 0 0))),jv 5 22]) .ret) .skip)) (.seq (.region false [jv 23 0,ji 24 (.slice L8 (.tmp 23) (some (.const (it 48))) (some (.const (it 50))) none),ji 25 (.call 75 [.tmp 24]),ji 26 (.conv .i64 (.tmp 25)),jv 8 26]) (.seq (.seq (.region false [jv 27 0,ji 28 (.len (.tmp 27)),jv 29 8,ji 30 (.bin .add (.const (it 50)) (.tmp 29)),ji 31 (.b7 S6 (.tmp 6) 1),ji 32 (.load LI (.tmp 31)),ji 33 (.bin .add (.tmp 30) (.tmp 32)),ji 34 (.bin .lss (.tmp 28) (.tmp 33))]) (.cond (.tmp 34) (.seq (.region false [ji 35 (.build S6 [(.raw (it 0)),(.raw (it 0)),(.raw (it 0)),(.agg (.ar 32 L8) (List.replicate 32 (.raw (u8 0#8))))] []),⟨none,.store S6 (.tmp 2) (.tmp 35),none⟩,ji 3 (.mv (.const (.slice none 0 0))),ji 4 (.mv (.const (.slice none 0 0))),ji 5 (.mv (.const (it 2)))]) .ret) .skip)) (.seq (.region true [ji 36 (.load S6 (.tmp 6)),jv 37 0,ji 38 (.slice L8 (.tmp 37) (some (.const (it 50))) none none),jv 39 8,ji 40 (.call 17 [.tmp 38,.tmp 39]),jv 41 0,jv 42 8,ji 43 (.bin .add (.const (it 50)) (.tmp 42)),ji 44 (.slice L8 (.tmp 41) (some (.tmp 43)) none none),ji 45 (.b7 S6 (.tmp 6) 1),ji 46 (.load LI (.tmp 45)),ji 47 (.call 17 [.tmp 44,.tmp 46]),⟨none,.store S6 (.tmp 2) (.tmp 36),none⟩,jv 3 40,jv 4 47,ji 5 (.mv (.const (it 0)))]) .ret)))))))
def Ls:List aO:=[(.cell 2 S6),(.tmp 3),(.tmp 4),(.tmp 5)]
noncomputable def qg:aA:=(⟨_,by conv=>lhs;reduce;simp only[cT,simprocAttr,-List.reduceReplicate]⟩:CO 26).1
def qi:List aO:=[(.tmp 2)]
theorem Ab:MT 26 1 qi qg:=mM Go.Proofs.Tryz.func26 (by kernel_rfl) (by kernel_rfl) (by kernel_rfl)
noncomputable def oA:aA:=(⟨_,by conv=>lhs;reduce;simp only[cT,simprocAttr,-List.reduceReplicate]⟩:CO 27).1
def oB:List aO:=[(.tmp 4)]
theorem N4:MT 27 2 oB oA:=mM Go.Proofs.Tryz.func27 (by kernel_rfl) (by kernel_rfl) (by kernel_rfl)
noncomputable def gX:aA:=(⟨_,by conv=>lhs;reduce;simp only[cT,simprocAttr,-List.reduceReplicate]⟩:CO 28).1
def gY:List aO:=[(.tmp 2)]
theorem Fi:MT 28 1 gY gX:=mM Go.Proofs.Tryz.func28 (by kernel_rfl) (by kernel_rfl) (by kernel_rfl)
noncomputable def ib:aA:=(⟨_,by conv=>lhs;reduce;simp only[cT,simprocAttr,-List.reduceReplicate]⟩:CO 29).1
def ic:List aO:=[(.tmp 4)]
theorem Bc:MT 29 2 ic ib:=mM Go.Proofs.Tryz.func29 (by kernel_rfl) (by kernel_rfl) (by kernel_rfl)
noncomputable def ey:aA:=(⟨_,by conv=>lhs;reduce;simp only[cT,simprocAttr,-List.reduceReplicate]⟩:CO 30).1
def ez:List aO:=[(.tmp 4)]
theorem Fj:MT 30 2 ez ey:=mM Go.Proofs.Tryz.func30 (by kernel_rfl) (by kernel_rfl) (by kernel_rfl)
noncomputable def lD:aA:=(⟨_,by conv=>lhs;reduce;simp only[cT,simprocAttr,-List.reduceReplicate]⟩:CO 31).1
def lE:List aO:=[(.tmp 2),(.tmp 3)]
theorem sv:MT 31 1 lE lD:=mM Go.Proofs.Tryz.func31 (by kernel_rfl) (by kernel_rfl) (by kernel_rfl)
noncomputable def Bd:aA:=(⟨_,by conv=>lhs;reduce;simp only[cT,simprocAttr,-List.reduceReplicate]⟩:CO 36).1
def Be:List aO:=[(.tmp 2),(.tmp 3)]
theorem Lt:MT 36 1 Be Bd:=mM Go.Proofs.Tryz.func36 (by kernel_rfl) (by kernel_rfl) (by kernel_rfl)
noncomputable def Bf:aA:=(⟨_,by conv=>lhs;reduce;simp only[cT,simprocAttr,-List.reduceReplicate]⟩:CO 37).1
def Bg:List aO:=[(.cell 2 sr),(.tmp 3)]
theorem Lu:MT 37 1 Bg Bf:=mM Go.Proofs.Tryz.func37 (by kernel_rfl) (by kernel_rfl) (by kernel_rfl)
noncomputable def pb:aA:=(⟨_,by conv=>lhs;reduce;simp only[cT,simprocAttr,-List.reduceReplicate]⟩:CO 38).1
def pd:List aO:=[(.tmp 2)]
theorem yG:MT 38 1 pd pb:=mM Go.Proofs.Tryz.func38 (by kernel_rfl) (by kernel_rfl) (by kernel_rfl)
noncomputable def uy:aA:=(⟨_,by conv=>lhs;reduce;simp only[cT,simprocAttr,-List.reduceReplicate]⟩:CO 39).1
def uz:List aO:=[(.cell 6 (.ar 32 L8)),(.tmp 7)]
theorem Lv:MT 39 3 uz uy:=mM Go.Proofs.Tryz.func39 (by kernel_rfl) (by kernel_rfl) (by kernel_rfl)
noncomputable def rC:aA:=(⟨_,by conv=>lhs;reduce;simp only[cT,simprocAttr,-List.reduceReplicate]⟩:CO 40).1
def rD:List aO:=[(.cell 4 Ze)]
theorem Bh:MT 40 2 rD rC:=mM Go.Proofs.Tryz.func40 (by kernel_rfl) (by kernel_rfl) (by kernel_rfl)
noncomputable def G5:aA:=(⟨_,by conv=>lhs;reduce;simp only[cT,simprocAttr,-List.reduceReplicate]⟩:CO 41).1
def G6:List aO:=[(.cell 6 (.ar 32 L8))]
theorem QM:MT 41 3 G6 G5:=mM Go.Proofs.Tryz.func41 (by kernel_rfl) (by kernel_rfl) (by kernel_rfl)
noncomputable def G7:aA:=(⟨_,by conv=>lhs;reduce;simp only[cT,simprocAttr,-List.reduceReplicate]⟩:CO 42).1
def G8:List aO:=[(.cell 8 (.ar 32 L8))]
theorem QN:MT 42 4 G8 G7:=mM Go.Proofs.Tryz.func42 (by kernel_rfl) (by kernel_rfl) (by kernel_rfl)
noncomputable def mi:aA:=(⟨_,by conv=>lhs;reduce;simp only[cT,simprocAttr,-List.reduceReplicate]⟩:CO 43).1
def mj:List aO:=[(.tmp 2),(.tmp 3)]
theorem N5:MT 43 1 mj mi:=mM Go.Proofs.Tryz.func43 (by kernel_rfl) (by kernel_rfl) (by kernel_rfl)
noncomputable def tu:aA:=(⟨_,by conv=>lhs;reduce;simp only[cT,simprocAttr,-List.reduceReplicate]⟩:CO 44).1
def tv:List aO:=[(.tmp 0)]
theorem VB:MT 44 0 tv tu:=mM Go.Proofs.Tryz.func44 (by kernel_rfl) (by kernel_rfl) (by kernel_rfl)
noncomputable def dQ:aA:=(⟨_,by conv=>lhs;reduce;simp only[cT,simprocAttr,-List.reduceReplicate]⟩:CO 45).1
def dR:List aO:=[(.tmp 6)]
theorem yH:MT 45 3 dR dQ:=mM Go.Proofs.Tryz.func45 (by kernel_rfl) (by kernel_rfl) (by kernel_rfl)
noncomputable def tw:aA:=(⟨_,by conv=>lhs;reduce;simp only[cT,simprocAttr,-List.reduceReplicate]⟩:CO 46).1
def tx:List aO:=[(.tmp 6),(.tmp 7)]
theorem Dq:MT 46 3 tx tw:=mM Go.Proofs.Tryz.func46 (by kernel_rfl) (by kernel_rfl) (by kernel_rfl)
noncomputable def lF:aA:=(⟨_,by conv=>lhs;reduce;simp only[cT,simprocAttr,-List.reduceReplicate]⟩:CO 47).1
def lG:List aO:=[(.tmp 4)]
theorem Jb:MT 47 2 lG lF:=mM Go.Proofs.Tryz.func47 (by kernel_rfl) (by kernel_rfl) (by kernel_rfl)
noncomputable def oC:aA:=(⟨_,by conv=>lhs;reduce;simp only[cT,simprocAttr,-List.reduceReplicate]⟩:CO 48).1
def oD:List aO:=[(.tmp 4),(.tmp 5)]
theorem wO:MT 48 2 oD oC:=mM Go.Proofs.Tryz.func48 (by kernel_rfl) (by kernel_rfl) (by kernel_rfl)
noncomputable def rE:aA:=(⟨_,by conv=>lhs;reduce;simp only[cT,simprocAttr,-List.reduceReplicate]⟩:CO 49).1
def rF:List aO:=[(.tmp 4),(.tmp 5)]
theorem Bi:MT 49 2 rF rE:=mM Go.Proofs.Tryz.func49 (by kernel_rfl) (by kernel_rfl) (by kernel_rfl)
noncomputable def G9:aA:=(⟨_,by conv=>lhs;reduce;simp only[cT,simprocAttr,-List.reduceReplicate]⟩:CO 50).1
def Ha:List aO:=[(.tmp 2)]
theorem QO:MT 50 1 Ha G9:=mM Go.Proofs.Tryz.func50 (by kernel_rfl) (by kernel_rfl) (by kernel_rfl)
noncomputable def Bj:aA:=(⟨_,by conv=>lhs;reduce;simp only[cT,simprocAttr,-List.reduceReplicate]⟩:CO 51).1
def Bk:List aO:=[(.tmp 2)]
theorem Lw:MT 51 1 Bk Bj:=mM Go.Proofs.Tryz.func51 (by kernel_rfl) (by kernel_rfl) (by kernel_rfl)
noncomputable def y8:aA:=(⟨_,by conv=>lhs;reduce;simp only[cT,simprocAttr,-List.reduceReplicate]⟩:CO 52).1
def y9:List aO:=[(.cell 6 S6)]
theorem Jc:MT 52 3 y9 y8:=mM Go.Proofs.Tryz.func52 (by kernel_rfl) (by kernel_rfl) (by kernel_rfl)
def ie:aA:=(.seq (.region false [ji 4 (.box (.ar 32 L8) (.tmp 1)),ji 6 (.mv (.const (.slice none 0 0))),ji 7 (.mv (.const (it 0)))]) (.seq (.block 0 (.seq (.region false [jv 12 0,ji 13 (.yU false (.tmp 12) (.const (.pointer none))),jv 11 13]) (.cond (.tmp 11) (.seq (.region false [ji 6 (.mv (.const (.slice none 0 0))),ji 7 (.mv (.const (it 3)))]) .ret) (.seq (.region false [jv 15 0,ji 16 (.call 109 [.tmp 15]),ji 17 (.bin .eql (.tmp 16) (.const (it 0))),jv 14 17]) (.cond (.tmp 14) (.seq (.region false [ji 6 (.mv (.const (.slice none 0 0))),ji 7 (.mv (.const (it 7)))]) .ret) .skip))))) (.seq (.region false [jv 18 0,ji 19 (.nt (.tmp 18)),ji 20 (.b7 Lp (.tmp 19) 5),ji 21 (.load dk (.tmp 20)),jv 8 21]) (.seq (.region false [jv 22 0,ji 23 (.nt (.tmp 22)),ji 24 (.b7 Lp (.tmp 23) 5),ji 25 (.load dk (.tmp 24)),ji 26 (.bin .add (.tmp 25) (.const (u32 1#32))),ji 27 (.nt (.tmp 22)),ji 28 (.b7 Lp (.tmp 27) 5),⟨none,.store dk (.tmp 28) (.tmp 26),none⟩]) (.seq (.region true [jv 29 0,ji 30 (.nt (.tmp 29)),ji 31 (.b7 Lp (.tmp 30) 6),ji 32 (.load .ref (.tmp 31)),jv 33 2,ji 34 (.XE (.tmp 33)),⟨none,.pU LS LB (.tmp 32) (.tmp 34) (.const (.bool true)),none⟩]) (.seq (.draw [jv 35 0,jv 36 0,ji 37 (.nt (.tmp 36)),ji 38 (.b7 Lp (.tmp 37) 8),ji 39 (.load .ref (.tmp 38)),jv 40 2,ji 41 (.XE (.tmp 40)),ji 42 (.load (.ar 32 L8) (.tmp 4)),⟨some 43,.build S24 [(.raw (.string ⟨#[]⟩)),(.agg (.ar 32 L8) (List.replicate 32 (.raw (u8 0#8))))] [(0,.tmp 41),(1,.tmp 42)],none⟩,⟨some 44,.cP S24 1 (.agg S24 [(.raw (.string ⟨#[]⟩)),(.agg (.ar 32 L8) (List.replicate 32 (.raw (u8 0#8))))]) [(0,.tmp 43)],none⟩] [jv 35 0,jv 36 0,ji 37 (.nt (.tmp 36)),jv 40 2,ji 41 (.XE (.tmp 40)),ji 42 (.load (.ar 32 L8) (.tmp 4))] [(ji 45 (.append S24 48 (.tmp 39) (.tmp 44)),[jv 35 0,jv 36 0,ji 37 (.nt (.tmp 36)),jv 40 2,ji 41 (.XE (.tmp 40)),ji 42 (.load (.ar 32 L8) (.tmp 4))]),(ji 46 (.nt (.tmp 35)),[]),(ji 47 (.b7 Lp (.tmp 46) 8),[]),(⟨none,.store .ref (.tmp 47) (.tmp 45),none⟩,[])]) (.seq (.seq (.region true [jv 48 0,ji 49 (.nt (.tmp 48)),ji 50 (.b7 Lp (.tmp 49) 1),ji 51 (.load dk (.tmp 50)),jv 52 0,jv 53 8,ji 54 (.call 40 [.tmp 52,.tmp 53]),ji 55 (.load (.ar 32 L8) (.tmp 4)),jv 56 2,ji 57 (.call 111 [.tmp 54,.tmp 55,.tmp 56]),ji 58 (.call 110 [.tmp 51,.tmp 57]),ji 59 (.len (.tmp 58)),ji 60 (.mv (.const (it 0)))]) (.block 1 (.loop (.seq (.region false [ji 61 (.bin .lss (.tmp 60) (.tmp 59))]) (.seq (.cond (.tmp 61) .skip (.exit 1)) (.seq (.block 2 (.seq (.region false [jv 62 60,ji 63 (.eO LI (.tmp 58) (.tmp 60)),ji 64 (.load LI (.tmp 63)),jv 9 62,jv 10 64]) (.region false [jv 65 0,ji 66 (.nt (.tmp 65)),ji 67 (.b7 Lp (.tmp 66) 7),ji 68 (.load .ref (.tmp 67)),jv 69 8,jv 70 9,ji 71 (.build S16 [(.raw (u32 0#32)),(.raw (it 0))] [(0,.tmp 69),(1,.tmp 70)]),jv 72 10,⟨none,.pU S16 LI (.tmp 68) (.tmp 71) (.tmp 72),none⟩]))) (.region false [ji 73 (.bin .add (.tmp 60) (.const (it 1))),jv 60 73]))))))) (.seq (.region false [jv 74 0,jv 75 8,ji 76 (.load (.ar 32 L8) (.tmp 4)),jv 77 2,ji 78 (.call 54 [.tmp 74,.tmp 75,.tmp 76,.tmp 77]),ji 79 (.ext (.tmp 78) 0),ji 80 (.ext (.tmp 78) 1),jv 6 79,jv 7 80]) .ret))))))))
def ig:List aO:=[(.tmp 6),(.tmp 7)]
theorem Bl:MT 53 3 ig ie:=mM Go.Proofs.Tryz.func53 (by kernel_rfl) (by kernel_rfl) (by kernel_rfl)
noncomputable def qj:aA:=(⟨_,by conv=>lhs;reduce;simp only[cT,simprocAttr,-List.reduceReplicate]⟩:CO 54).1
def qn:List aO:=[(.tmp 8),(.tmp 9)]
theorem Ac:MT 54 4 qn qj:=mM Go.Proofs.Tryz.func54 (by kernel_rfl) (by kernel_rfl) (by kernel_rfl)
noncomputable def tz:aA:=(⟨_,by conv=>lhs;reduce;simp only[cT,simprocAttr,-List.reduceReplicate]⟩:CO 55).1
def tA:List aO:=[(.tmp 6),(.tmp 7)]
theorem Dr:MT 55 3 tA tz:=mM Go.Proofs.Tryz.func55 (by kernel_rfl) (by kernel_rfl) (by kernel_rfl)
noncomputable def iN:aA:=(⟨_,by conv=>lhs;reduce;simp only[cT,simprocAttr,-List.reduceReplicate]⟩:CO 56).1
def iO:List aO:=[(.tmp 8)]
theorem Hb:MT 56 4 iO iN:=mM Go.Proofs.Tryz.func56 (by kernel_rfl) (by kernel_rfl) (by kernel_rfl)
noncomputable def za:aA:=(⟨_,by conv=>lhs;reduce;simp only[cT,simprocAttr,-List.reduceReplicate]⟩:CO 57).1
def zb:List aO:=[(.tmp 0)]
theorem Jd:MT 57 0 zb za:=mM Go.Proofs.Tryz.func57 (by kernel_rfl) (by kernel_rfl) (by kernel_rfl)
noncomputable def wP:aA:=(⟨_,by conv=>lhs;reduce;simp only[cT,simprocAttr,-List.reduceReplicate]⟩:CO 58).1
def wQ:List aO:=[(.cell 2 S1),(.tmp 3)]
theorem Hc:MT 58 1 wQ wP:=mM Go.Proofs.Tryz.func58 (by kernel_rfl) (by kernel_rfl) (by kernel_rfl)
noncomputable def nC:aA:=(⟨_,by conv=>lhs;reduce;simp only[cT,simprocAttr,-List.reduceReplicate]⟩:CO 59).1
def nD:List aO:=[(.tmp 2)]
theorem vO:MT 59 1 nD nC:=mM Go.Proofs.Tryz.func59 (by kernel_rfl) (by kernel_rfl) (by kernel_rfl)
noncomputable def nE:aA:=(⟨_,by conv=>lhs;reduce;simp only[cT,simprocAttr,-List.reduceReplicate]⟩:CO 60).1
def nF:List aO:=[(.tmp 2)]
theorem vP:MT 60 1 nF nE:=mM Go.Proofs.Tryz.func60 (by kernel_rfl) (by kernel_rfl) (by kernel_rfl)
noncomputable def cm:aA:=(⟨_,by conv=>lhs;reduce;simp only[cT,simprocAttr,-List.reduceReplicate]⟩:CO 61).1
def cr:List aO:=[(.tmp 4)]
theorem Ds:MT 61 2 cr cm:=mM Go.Proofs.Tryz.func61 (by kernel_rfl) (by kernel_rfl) (by kernel_rfl)
noncomputable def oE:aA:=(⟨_,by conv=>lhs;reduce;simp only[cT,simprocAttr,-List.reduceReplicate]⟩:CO 62).1
def oF:List aO:=[(.tmp 6)]
theorem wR:MT 62 3 oF oE:=mM Go.Proofs.Tryz.func62 (by kernel_rfl) (by kernel_rfl) (by kernel_rfl)
noncomputable def nY:aA:=(⟨_,by conv=>lhs;reduce;simp only[cT,simprocAttr,-List.reduceReplicate]⟩:CO 63).1
def nZ:List aO:=[(.tmp 2),(.tmp 3)]
theorem VC:MT 63 1 nZ nY:=mM Go.Proofs.Tryz.func63 (by kernel_rfl) (by kernel_rfl) (by kernel_rfl)
def ii:aA:=(.seq (.region false [ji 4 (.mv (.const (.pointer none)))]) (.seq (.region false [jv 5 0,jv 6 1,ji 7 (.build S5 [(.raw (it 0)),(.agg (.ar 8192 L8) (List.replicate 8192 (.raw (u8 0#8)))),(.agg (.ar 64 L8) (List.replicate 64 (.raw (u8 0#8)))),(.raw (.pointer none)),(.raw (.pointer none))] [(3,.tmp 5),(4,.tmp 6)]),ji 8 (.box S5 (.tmp 7)),jv 4 8]) .ret))
def ij:List aO:=[(.tmp 4)]
theorem Bm:MT 64 2 ij ii:=mM Go.Proofs.Tryz.func64 (by kernel_rfl) (by kernel_rfl) (by kernel_rfl)
end Go.Am.F
namespace Go.Am.F
set_option maxRecDepth 100000
set_option maxHeartbeats 0
noncomputable def mU:aA:=(⟨_,by conv=>lhs;reduce;simp only[cT,simprocAttr,-List.reduceReplicate]⟩:CO 65).1
def mV:List aO:=[(.tmp 0)]
theorem Lx:MT 65 0 mV mU:=mM Go.Proofs.Tryz.func65 (by kernel_rfl) (by kernel_rfl) (by kernel_rfl)
noncomputable def Hd:aA:=(⟨_,by conv=>lhs;reduce;simp only[cT,simprocAttr,-List.reduceReplicate]⟩:CO 66).1
def He:List aO:=[(.cell 2 S3)]
theorem QP:MT 66 1 He Hd:=mM Go.Proofs.Tryz.func66 (by kernel_rfl) (by kernel_rfl) (by kernel_rfl)
noncomputable def uA:aA:=(⟨_,by conv=>lhs;reduce;simp only[cT,simprocAttr,-List.reduceReplicate]⟩:CO 67).1
def uB:List aO:=[(.tmp 0)]
theorem QQ:MT 67 0 uB uA:=mM Go.Proofs.Tryz.func67 (by kernel_rfl) (by kernel_rfl) (by kernel_rfl)
noncomputable def zc:aA:=(⟨_,by conv=>lhs;reduce;simp only[cT,simprocAttr,-List.reduceReplicate]⟩:CO 68).1
def zd:List aO:=[(.cell 8 S7)]
theorem Je:MT 68 4 zd zc:=mM Go.Proofs.Tryz.func68 (by kernel_rfl) (by kernel_rfl) (by kernel_rfl)
noncomputable def wS:aA:=(⟨_,by conv=>lhs;reduce;simp only[cT,simprocAttr,-List.reduceReplicate]⟩:CO 69).1
def wU:List aO:=[(.tmp 2)]
theorem Hf:MT 69 1 wU wS:=mM Go.Proofs.Tryz.func69 (by kernel_rfl) (by kernel_rfl) (by kernel_rfl)
def u7:aA:=(.seq (.region false [ji 4 (.box S1 (.tmp 1)),ji 5 (.box (.ar 2 LI) (.tmp 2)),ji 6 (.alloc S9 (.agg S9 [(.raw (it 0)),(.agg S1 [(.raw (u32 0#32)),(.raw (it 0)),(.raw (it 0)),(.raw (it 0))]),(.raw (.bool false)),(.raw (.bool false)),(.raw (it 0))]))]) (.seq (.block 0 (.seq (.region false [jv 11 0,ji 12 (.bin .eql (.tmp 11) (.const (it 4))),jv 10 12]) (.cond (.tmp 10) (.seq (.region false [ji 13 (.load S1 (.tmp 4)),ji 14 (.build S9 [(.raw (it 0)),(.agg S1 [(.raw (u32 0#32)),(.raw (it 0)),(.raw (it 0)),(.raw (it 0))]),(.raw (.bool false)),(.raw (.bool false)),(.raw (it 0))] [(0,.const (it (-1))),(1,.tmp 13),(4,.const (it 17))]),⟨none,.store S9 (.tmp 6) (.tmp 14),none⟩]) .ret) (.seq (.region false [jv 16 0,ji 17 (.bin .lss (.tmp 16) (.const (it 1))),jv 18 17,⟨some 19,.mv (.tmp 0),some (18,false)⟩,⟨some 20,.bin .gtr (.tmp 19) (.const (it 3)),some (18,false)⟩,ji 21 (.pick (.tmp 18) (.const (.bool true)) (.tmp 20)),jv 15 21]) (.cond (.tmp 15) (.seq (.region false [ji 22 (.load S1 (.tmp 4)),ji 23 (.build S9 [(.raw (it 0)),(.agg S1 [(.raw (u32 0#32)),(.raw (it 0)),(.raw (it 0)),(.raw (it 0))]),(.raw (.bool false)),(.raw (.bool false)),(.raw (it 0))] [(0,.const (it (-1))),(1,.tmp 22),(4,.const (it 14))]),⟨none,.store S9 (.tmp 6) (.tmp 23),none⟩]) .ret) .skip))))) (.seq (.region false [ji 24 (.mkf 133 (.tmp 5)),jv 7 24]) (.seq (.region false [ji 25 (.load S1 (.tmp 4)),ji 8 (.alloc S1 (.agg S1 [(.raw (u32 0#32)),(.raw (it 0)),(.raw (it 0)),(.raw (it 0))])),⟨none,.store S1 (.tmp 8) (.tmp 25),none⟩]) (.seq (.seq (.region false [jv 26 7,ji 27 (.b7 S1 (.tmp 4) 2),ji 28 (.load LI (.tmp 27)),ji 29 (.pS [43,104,120,130,133,162,170,193,194,208,224] (.tmp 26) [.tmp 28]),jv 30 29,⟨some 31,.b7 S1 (.tmp 4) 3,some (30,true)⟩,⟨some 32,.load LI (.tmp 31),some (30,true)⟩,⟨some 33,.bin .lss (.tmp 32) (.const (it 3)),some (30,true)⟩,ji 34 (.pick (.tmp 30) (.tmp 33) (.const (.bool false)))]) (.cond (.tmp 34) (.seq (.region false [ji 35 (.b7 S1 (.tmp 8) 3),ji 36 (.load LI (.tmp 35)),ji 37 (.bin .add (.tmp 36) (.const (it 1))),ji 38 (.b7 S1 (.tmp 8) 3),⟨none,.store LI (.tmp 38) (.tmp 37),none⟩]) (.seq (.region false [ji 39 (.b7 S1 (.tmp 4) 2),ji 40 (.load LI (.tmp 39)),ji 41 (.load S1 (.tmp 8)),ji 42 (.load S1 (.tmp 4)),ji 43 (.call 134 [.tmp 40,.tmp 41,.tmp 42,.const (.bool true)]),⟨none,.store S9 (.tmp 6) (.tmp 43),none⟩]) .ret)) .skip)) (.seq (.region false [ji 44 (.b7 S1 (.tmp 8) 2),⟨none,.store LI (.tmp 44) (.const (it (-1))),none⟩,ji 45 (.b7 S1 (.tmp 8) 3),⟨none,.store LI (.tmp 45) (.const (it 0)),none⟩]) (.seq (.seq (.region false [jv 46 7,ji 47 (.b7 S1 (.tmp 4) 1),ji 48 (.load LI (.tmp 47)),ji 49 (.pS [43,104,120,130,133,162,170,193,194,208,224] (.tmp 46) [.tmp 48])]) (.cond (.tmp 49) (.seq (.region false [ji 50 (.b7 S1 (.tmp 4) 1),ji 51 (.load LI (.tmp 50)),ji 52 (.load S1 (.tmp 8)),ji 53 (.load S1 (.tmp 4)),ji 54 (.call 134 [.tmp 51,.tmp 52,.tmp 53,.const (.bool false)]),⟨none,.store S9 (.tmp 6) (.tmp 54),none⟩]) .ret) .skip)) (.seq (.seq (.region false [ji 55 (.b7 S1 (.tmp 4) 1),ji 56 (.load LI (.tmp 55)),ji 57 (.bin .sub (.const (it 1)) (.tmp 56)),jv 9 57]) (.seq (.region false [jv 58 7,jv 59 9,ji 60 (.pS [43,104,120,130,133,162,170,193,194,208,224] (.tmp 58) [.tmp 59])]) (.cond (.tmp 60) (.seq (.region false [jv 61 9,ji 62 (.b7 S1 (.tmp 8) 1),⟨none,.store LI (.tmp 62) (.tmp 61),none⟩]) (.seq (.region false [jv 63 9,ji 64 (.load S1 (.tmp 8)),ji 65 (.load S1 (.tmp 4)),ji 66 (.call 134 [.tmp 63,.tmp 64,.tmp 65,.const (.bool false)]),⟨none,.store S9 (.tmp 6) (.tmp 66),none⟩]) .ret)) .skip))) (.seq (.region true [ji 67 (.load S1 (.tmp 8)),ji 68 (.load S1 (.tmp 8)),ji 69 (.load S1 (.tmp 4)),ji 70 (.Xe S1 true (.tmp 68) (.tmp 69)),ji 71 (.build S9 [(.raw (it 0)),(.agg S1 [(.raw (u32 0#32)),(.raw (it 0)),(.raw (it 0)),(.raw (it 0))]),(.raw (.bool false)),(.raw (.bool false)),(.raw (it 0))] [(0,.const (it (-1))),(1,.tmp 67),(2,.tmp 70),(4,.const (it 3))]),⟨none,.store S9 (.tmp 6) (.tmp 71),none⟩]) .ret)))))))))
def u9:List aO:=[(.cell 6 S9)]
theorem Fk:MT 70 3 u9 u7:=mM Go.Proofs.Tryz.func70 (by kernel_rfl) (by kernel_rfl) (by kernel_rfl)
noncomputable def vi:aA:=(⟨_,by conv=>lhs;reduce;simp only[cT,simprocAttr,-List.reduceReplicate]⟩:CO 71).1
def vj:List aO:=[(.tmp 2)]
theorem Fl:MT 71 1 vj vi:=mM Go.Proofs.Tryz.func71 (by kernel_rfl) (by kernel_rfl) (by kernel_rfl)
noncomputable def ze:aA:=(⟨_,by conv=>lhs;reduce;simp only[cT,simprocAttr,-List.reduceReplicate]⟩:CO 73).1
def zf:List aO:=[(.tmp 2)]
theorem Jf:MT 73 1 zf ze:=mM Go.Proofs.Tryz.func73 (by kernel_rfl) (by kernel_rfl) (by kernel_rfl)
noncomputable def wV:aA:=(⟨_,by conv=>lhs;reduce;simp only[cT,simprocAttr,-List.reduceReplicate]⟩:CO 76).1
def wW:List aO:=[(.tmp 2)]
theorem Hg:MT 76 1 wW wV:=mM Go.Proofs.Tryz.func76 (by kernel_rfl) (by kernel_rfl) (by kernel_rfl)
noncomputable def jH:aA:=(⟨_,by conv=>lhs;reduce;simp only[cT,simprocAttr,-List.reduceReplicate]⟩:CO 77).1
def jJ:List aO:=[(.tmp 2)]
theorem pB:MT 77 1 jJ jH:=mM Go.Proofs.Tryz.func77 (by kernel_rfl) (by kernel_rfl) (by kernel_rfl)
noncomputable def qo:aA:=(⟨_,by conv=>lhs;reduce;simp only[cT,simprocAttr,-List.reduceReplicate]⟩:CO 78).1
def qp:List aO:=[(.tmp 2)]
theorem Ad:MT 78 1 qp qo:=mM Go.Proofs.Tryz.func78 (by kernel_rfl) (by kernel_rfl) (by kernel_rfl)
noncomputable def nG:aA:=(⟨_,by conv=>lhs;reduce;simp only[cT,simprocAttr,-List.reduceReplicate]⟩:CO 79).1
def nH:List aO:=[(.tmp 2)]
theorem vQ:MT 79 1 nH nG:=mM Go.Proofs.Tryz.func79 (by kernel_rfl) (by kernel_rfl) (by kernel_rfl)
noncomputable def fM:aA:=(⟨_,by conv=>lhs;reduce;simp only[cT,simprocAttr,-List.reduceReplicate]⟩:CO 80).1
def fN:List aO:=[(.tmp 4),(.tmp 5)]
theorem wX:MT 80 2 fN fM:=mM Go.Proofs.Tryz.func80 (by kernel_rfl) (by kernel_rfl) (by kernel_rfl)
noncomputable def fj:aA:=(⟨_,by conv=>lhs;reduce;simp only[cT,simprocAttr,-List.reduceReplicate]⟩:CO 81).1
def fk:List aO:=[(.tmp 2),(.tmp 3)]
theorem vR:MT 81 1 fk fj:=mM Go.Proofs.Tryz.func81 (by kernel_rfl) (by kernel_rfl) (by kernel_rfl)
noncomputable def eU:aA:=(⟨_,by conv=>lhs;reduce;simp only[cT,simprocAttr,-List.reduceReplicate]⟩:CO 82).1
def eV:List aO:=[(.tmp 2),(.tmp 3)]
theorem uC:MT 82 1 eV eU:=mM Go.Proofs.Tryz.func82 (by kernel_rfl) (by kernel_rfl) (by kernel_rfl)
noncomputable def ky:aA:=(⟨_,by conv=>lhs;reduce;simp only[cT,simprocAttr,-List.reduceReplicate]⟩:CO 84).1
def kz:List aO:=[(.tmp 2)]
theorem ra:MT 84 1 kz ky:=mM Go.Proofs.Tryz.func84 (by kernel_rfl) (by kernel_rfl) (by kernel_rfl)
def Hh:aA:=(.seq (.region false [ji 3 (.box (.ar 32 L8) (.tmp 1)),ji 4 (.alloc rB (.agg rB [(.raw (.pointer none)),(.raw (.slice none 0 0)),(.agg (.ar 16 L8) (List.replicate 16 (.raw (u8 0#8)))),(.raw (u32 0#32)),(.agg (.ar 32 L8) (List.replicate 32 (.raw (u8 0#8))))]))]) (.seq (.region false [jv 6 0,ji 7 (.call 10 [.tmp 6]),jv 5 7]) (.seq (.region true [jv 8 0,jv 9 5,jv 10 5,ji 11 (.slice L8 (.tmp 10) (some (.const (it 8))) (some (.const (it 24))) none),ji 12 (.s2a 16 L8 (.tmp 11)),ji 13 (.load (.ar 16 L8) (.tmp 12)),jv 14 5,ji 15 (.slice L8 (.tmp 14) (some (.const (it 4))) none none),ji 16 (.call 141 [.tmp 15]),ji 17 (.load (.ar 32 L8) (.tmp 3)),ji 18 (.build rB [(.raw (.pointer none)),(.raw (.slice none 0 0)),(.agg (.ar 16 L8) (List.replicate 16 (.raw (u8 0#8)))),(.raw (u32 0#32)),(.agg (.ar 32 L8) (List.replicate 32 (.raw (u8 0#8))))] [(0,.tmp 8),(1,.tmp 9),(2,.tmp 13),(3,.tmp 16),(4,.tmp 17)]),⟨none,.store rB (.tmp 4) (.tmp 18),none⟩]) .ret)))
def Hi:List aO:=[(.cell 4 rB)]
noncomputable def Bn:aA:=(⟨_,by conv=>lhs;reduce;simp only[cT,simprocAttr,-List.reduceReplicate]⟩:CO 88).1
def Bo:List aO:=[(.tmp 6)]
theorem Lz:MT 88 3 Bo Bn:=mM Go.Proofs.Tryz.func88 (by kernel_rfl) (by kernel_rfl) (by kernel_rfl)
def Ez:aA:=(.seq (.region false [ji 2 (.mv (.const (u32 0#32))),ji 3 (.mv (.const (.slice none 0 0))),ji 4 (.mv (.const (u32 0#32))),ji 5 (.mv (.const (.slice none 0 0))),ji 6 (.mv (.const (it 0)))]) (.seq (.region false [ji 7 (.mv (.const (.func (.func 144) #[] #[])))]) (.seq (.region false [jv 19 0,ji 8 (.alloc .ref (.raw (.slice none 0 0))),⟨none,.store .ref (.tmp 8) (.tmp 19),none⟩]) (.seq (.region false [ji 21 (.call 145 [.tmp 8,.const (it 4)]),jv 20 21,ji 22 (.ext (.tmp 20) 0),ji 23 (.ext (.tmp 20) 1),jv 9 22,jv 10 23]) (.seq (.seq (.region false [jv 24 10,ji 25 (.un .not (.tmp 24)),jv 26 25,⟨some 27,.load .ref (.tmp 8),some (26,false)⟩,⟨some 28,.len (.tmp 27),some (26,false)⟩,⟨some 29,.bin .lss (.tmp 28) (.const (it 4)),some (26,false)⟩,ji 30 (.pick (.tmp 26) (.const (.bool true)) (.tmp 29))]) (.cond (.tmp 30) (.seq (.region false [jv 31 7,ji 32 (.pS [144] (.tmp 31) [.const (it 2)]),ji 33 (.ext (.tmp 32) 0),ji 34 (.ext (.tmp 32) 1),ji 35 (.ext (.tmp 32) 2),ji 36 (.ext (.tmp 32) 3),ji 37 (.ext (.tmp 32) 4),jv 2 33,jv 3 34,jv 4 35,jv 5 36,jv 6 37]) .ret) .skip)) (.seq (.region false [ji 39 (.load .ref (.tmp 8)),ji 40 (.call 146 [.tmp 39]),ji 41 (.call 37 [.tmp 40]),jv 38 41,ji 42 (.ext (.tmp 38) 0),ji 43 (.ext (.tmp 38) 1),ji 11 (.alloc sr (.agg sr [(.raw (it 0)),(.raw (it 0)),(.raw (it 0))])),⟨none,.store sr (.tmp 11) (.tmp 42),none⟩,jv 10 43]) (.seq (.seq (.region false [jv 44 10,ji 45 (.un .not (.tmp 44))]) (.cond (.tmp 45) (.seq (.region false [jv 46 7,ji 47 (.pS [144] (.tmp 46) [.const (it 6)]),ji 48 (.ext (.tmp 47) 0),ji 49 (.ext (.tmp 47) 1),ji 50 (.ext (.tmp 47) 2),ji 51 (.ext (.tmp 47) 3),ji 52 (.ext (.tmp 47) 4),jv 2 48,jv 3 49,jv 4 50,jv 5 51,jv 6 52]) .ret) .skip)) (.seq (.region false [ji 54 (.b7 sr (.tmp 11) 1),ji 55 (.load LI (.tmp 54)),ji 56 (.bin .add (.tmp 55) (.const (it 1))),ji 57 (.bin .mul (.const (it 32)) (.tmp 56)),ji 58 (.bin .add (.const (it 4)) (.tmp 57)),ji 59 (.call 145 [.tmp 8,.tmp 58]),jv 53 59,ji 60 (.ext (.tmp 53) 0),ji 61 (.ext (.tmp 53) 1),jv 12 60,jv 10 61]) (.seq (.seq (.region false [jv 62 10,ji 63 (.un .not (.tmp 62)),jv 64 63,⟨some 65,.load .ref (.tmp 8),some (64,false)⟩,⟨some 66,.len (.tmp 65),some (64,false)⟩,⟨some 67,.bin .lss (.tmp 66) (.const (it 4)),some (64,false)⟩,ji 68 (.pick (.tmp 64) (.const (.bool true)) (.tmp 67))]) (.cond (.tmp 68) (.seq (.region false [jv 69 7,ji 70 (.pS [144] (.tmp 69) [.const (it 2)]),ji 71 (.ext (.tmp 70) 0),ji 72 (.ext (.tmp 70) 1),ji 73 (.ext (.tmp 70) 2),ji 74 (.ext (.tmp 70) 3),ji 75 (.ext (.tmp 70) 4),jv 2 71,jv 3 72,jv 4 73,jv 5 74,jv 6 75]) .ret) .skip)) (.seq (.region false [ji 76 (.load .ref (.tmp 8)),ji 77 (.call 146 [.tmp 76]),jv 13 77]) (.seq (.region false [jv 79 13,ji 80 (.call 36 [.tmp 79]),jv 78 80,ji 81 (.ext (.tmp 78) 0),ji 82 (.ext (.tmp 78) 1),jv 14 81,jv 10 82]) (.seq (.seq (.region false [jv 83 10,ji 84 (.un .not (.tmp 83))]) (.cond (.tmp 84) (.seq (.region false [jv 85 7,ji 86 (.pS [144] (.tmp 85) [.const (it 6)]),ji 87 (.ext (.tmp 86) 0),ji 88 (.ext (.tmp 86) 1),ji 89 (.ext (.tmp 86) 2),ji 90 (.ext (.tmp 86) 3),ji 91 (.ext (.tmp 86) 4),jv 2 87,jv 3 88,jv 4 89,jv 5 90,jv 6 91]) .ret) .skip)) (.seq (.region false [ji 92 (.load .ref (.tmp 8)),ji 93 (.slice L8 (.tmp 92) (some (.const (it 4))) none none),⟨none,.store .ref (.tmp 8) (.tmp 93),none⟩]) (.seq (.region false [jv 94 9,ji 95 (.call 146 [.tmp 94]),jv 15 95]) (.seq (.seq (.region false [ji 96 (.load .ref (.tmp 8)),ji 97 (.len (.tmp 96)),jv 98 14,ji 99 (.bin .mul (.const (it 32)) (.tmp 98)),ji 100 (.bin .neq (.tmp 97) (.tmp 99)),jv 101 100,⟨some 102,.mv (.tmp 15),some (101,false)⟩,⟨some 103,.mv (.tmp 14),some (101,false)⟩,⟨some 104,.bin .shr (.tmp 102) (.tmp 103),some (101,false)⟩,⟨some 105,.bin .neq (.tmp 104) (.const (u32 0#32)),some (101,false)⟩,ji 106 (.pick (.tmp 101) (.const (.bool true)) (.tmp 105))]) (.cond (.tmp 106) (.seq (.region false [jv 107 7,ji 108 (.pS [144] (.tmp 107) [.const (it 2)]),ji 109 (.ext (.tmp 108) 0),ji 110 (.ext (.tmp 108) 1),ji 111 (.ext (.tmp 108) 2),ji 112 (.ext (.tmp 108) 3),ji 113 (.ext (.tmp 108) 4),jv 2 109,jv 3 110,jv 4 111,jv 5 112,jv 6 113]) .ret) .skip)) (.seq (.region false [ji 16 (.mv (.const (.slice none 0 0)))]) (.seq (.block 0 (.loop (.seq (.seq (.region false [ji 114 (.load .ref (.tmp 8)),ji 115 (.len (.tmp 114)),ji 116 (.bin .gtr (.tmp 115) (.const (it 0)))]) (.cond (.tmp 116) .skip (.exit 0))) (.block 1 (.seq (.region false [ji 118 (.call 145 [.tmp 8,.const (it 32)]),jv 117 118,ji 119 (.ext (.tmp 117) 0),ji 120 (.ext (.tmp 117) 1),jv 17 119,jv 18 120]) (.region false [jv 121 16,jv 122 17,ji 123 (.s2a 32 L8 (.tmp 122)),ji 124 (.load (.ar 32 L8) (.tmp 123)),ji 125 (.cP (.ar 32 L8) 1 (.agg (.ar 32 L8) (List.replicate 32 (.raw (u8 0#8)))) [(0,.tmp 124)]),ji 126 (.append (.ar 32 L8) 32 (.tmp 121) (.tmp 125)),jv 16 126])))))) (.seq (.region false [jv 127 15,ji 128 (.cP L8 0 (.raw (u8 0#8)) []),jv 129 12,ji 130 (.append L8 1 (.tmp 128) (.tmp 129)),jv 131 13,jv 132 16,jv 2 127,jv 3 130,jv 4 131,jv 5 132,ji 6 (.mv (.const (it 0)))]) .ret))))))))))))))))))
def EA:List aO:=[(.tmp 2),(.tmp 3),(.tmp 4),(.tmp 5),(.tmp 6)]
theorem N6:MT 89 1 EA Ez:=mM Go.Proofs.Tryz.func89 (by kernel_rfl) (by kernel_rfl) (by kernel_rfl)
noncomputable def EB:aA:=(⟨_,by conv=>lhs;reduce;simp only[cT,simprocAttr,-List.reduceReplicate]⟩:CO 90).1
def EC:List aO:=[(.cell 6 (.ar 32 L8)),(.tmp 7)]
theorem N7:MT 90 3 EC EB:=mM Go.Proofs.Tryz.func90 (by kernel_rfl) (by kernel_rfl) (by kernel_rfl)
def wY:aA:=(.seq (.region false [ji 5 (.box rB (.tmp 0)),ji 7 (.box (.ar 32 L8) (.tmp 2)),ji 8 (.box (.ar 32 L8) (.tmp 3)),ji 10 (.alloc kx (.agg kx [(.raw (it 0)),(.raw (.slice none 0 0)),(.raw (.slice none 0 0)),(.agg ua [(.raw (u32 0#32)),(.raw (it 0)),(.raw (it 0))]),(.agg (.ar 32 L8) (List.replicate 32 (.raw (u8 0#8))))])),ji 11 (.mv (.const (.bool false)))]) (.seq (.region false [ji 12 (.mv (.const (.slice none 0 0)))]) (.seq (.region false [jv 22 1,jv 23 4,ji 24 (.len (.tmp 23)),ji 25 (.bin .shl (.const (u32 1#32)) (.tmp 24)),ji 26 (.bin .add (.tmp 22) (.tmp 25)),jv 13 26]) (.seq (.draw [ji 28 (.load rB (.tmp 5)),jv 29 13,ji 30 (.call 150 []),ji 31 (.load (.ar 32 L8) (.tmp 7)),ji 32 (.cP (.ar 32 L8) 1 (.agg (.ar 32 L8) (List.replicate 32 (.raw (u8 0#8)))) [(0,.tmp 31)]),ji 33 (.call 149 [.tmp 28,.tmp 29,.tmp 30,.tmp 32]),ji 34 (.load rB (.tmp 5)),jv 35 13,ji 36 (.call 150 []),ji 37 (.load (.ar 32 L8) (.tmp 8)),ji 38 (.cP (.ar 32 L8) 1 (.agg (.ar 32 L8) (List.replicate 32 (.raw (u8 0#8)))) [(0,.tmp 37)]),ji 39 (.call 149 [.tmp 34,.tmp 35,.tmp 36,.tmp 38]),ji 40 (.call 148 [.tmp 33,.tmp 39]),jv 27 40,ji 41 (.ext (.tmp 27) 0),ji 42 (.ext (.tmp 27) 1),ji 14 (.alloc kx (.agg kx [(.raw (it 0)),(.raw (.slice none 0 0)),(.raw (.slice none 0 0)),(.agg ua [(.raw (u32 0#32)),(.raw (it 0)),(.raw (it 0))]),(.agg (.ar 32 L8) (List.replicate 32 (.raw (u8 0#8))))]))] [ji 42 (.ext (.tmp 27) 1)] [(⟨none,.store kx (.tmp 14) (.tmp 41),none⟩,[ji 42 (.ext (.tmp 27) 1)]),(jv 15 42,[])]) (.seq (.region false [jv 43 12,ji 44 (.load kx (.tmp 14)),ji 45 (.cP kx 1 (.agg kx [(.raw (it 0)),(.raw (.slice none 0 0)),(.raw (.slice none 0 0)),(.agg ua [(.raw (u32 0#32)),(.raw (it 0)),(.raw (it 0))]),(.agg (.ar 32 L8) (List.replicate 32 (.raw (u8 0#8))))]) [(0,.tmp 44)]),ji 46 (.append kx 112 (.tmp 43) (.tmp 45)),jv 12 46]) (.seq (.region true [ji 47 (.b7 rB (.tmp 5) 2),ji 48 (.load (.ar 16 L8) (.tmp 47)),jv 49 13,ji 50 (.load (.ar 32 L8) (.tmp 7)),ji 51 (.call 41 [.tmp 48,.tmp 49,.tmp 50]),ji 52 (.b7 rB (.tmp 5) 2),ji 53 (.load (.ar 16 L8) (.tmp 52)),jv 54 13,ji 55 (.load (.ar 32 L8) (.tmp 8)),ji 56 (.call 41 [.tmp 53,.tmp 54,.tmp 55]),ji 16 (.alloc (.ar 32 L8) (.agg (.ar 32 L8) (List.replicate 32 (.raw (u8 0#8))))),ji 17 (.alloc (.ar 32 L8) (.agg (.ar 32 L8) (List.replicate 32 (.raw (u8 0#8))))),⟨none,.store (.ar 32 L8) (.tmp 16) (.tmp 51),none⟩,⟨none,.store (.ar 32 L8) (.tmp 17) (.tmp 56),none⟩]) (.seq (.seq (.region false [ji 57 (.b7 rB (.tmp 5) 0),ji 58 (.load .ref (.tmp 57)),jv 59 1,ji 60 (.call 113 [.tmp 58,.tmp 59]),ji 61 (.len (.tmp 60)),ji 62 (.mv (.const (it 0)))]) (.block 0 (.loop (.seq (.region false [ji 63 (.bin .lss (.tmp 62) (.tmp 61))]) (.seq (.cond (.tmp 63) .skip (.exit 0)) (.seq (.block 1 (.seq (.region false [jv 64 62,ji 65 (.eO (.ar 32 L8) (.tmp 60) (.tmp 62)),ji 66 (.load (.ar 32 L8) (.tmp 65)),ji 19 (.alloc (.ar 32 L8) (.agg (.ar 32 L8) (List.replicate 32 (.raw (u8 0#8))))),jv 18 64,⟨none,.store (.ar 32 L8) (.tmp 19) (.tmp 66),none⟩]) (.seq (.region false [jv 67 13,ji 68 (.bin .shr (.tmp 67) (.const (u64 1#64))),jv 20 68]) (.seq (.seq (.region false [jv 69 13,ji 70 (.bin .and (.tmp 69) (.const (u32 1#32))),ji 71 (.bin .eql (.tmp 70) (.const (u32 1#32)))]) (.cond (.tmp 71) (.seq (.draw [ji 73 (.load rB (.tmp 5)),jv 74 20,ji 75 (.call 151 []),ji 76 (.load (.ar 32 L8) (.tmp 19)),ji 77 (.load (.ar 32 L8) (.tmp 16)),ji 78 (.cP (.ar 32 L8) 2 (.agg (.ar 32 L8) (List.replicate 32 (.raw (u8 0#8)))) [(0,.tmp 76),(1,.tmp 77)]),ji 79 (.call 149 [.tmp 73,.tmp 74,.tmp 75,.tmp 78]),ji 80 (.load rB (.tmp 5)),jv 81 20,ji 82 (.call 151 []),jv 83 4,jv 84 18,ji 85 (.eO (.ar 32 L8) (.tmp 83) (.tmp 84)),ji 86 (.load (.ar 32 L8) (.tmp 85)),ji 87 (.load (.ar 32 L8) (.tmp 17)),ji 88 (.cP (.ar 32 L8) 2 (.agg (.ar 32 L8) (List.replicate 32 (.raw (u8 0#8)))) [(0,.tmp 86),(1,.tmp 87)]),ji 89 (.call 149 [.tmp 80,.tmp 81,.tmp 82,.tmp 88]),ji 90 (.call 148 [.tmp 79,.tmp 89]),jv 72 90,ji 91 (.ext (.tmp 72) 0),ji 92 (.ext (.tmp 72) 1)] [ji 92 (.ext (.tmp 72) 1)] [(⟨none,.store kx (.tmp 14) (.tmp 91),none⟩,[ji 92 (.ext (.tmp 72) 1)])]) (.AL [ji 93 (.b7 rB (.tmp 5) 2),ji 94 (.load (.ar 16 L8) (.tmp 93)),jv 95 20,ji 96 (.load (.ar 32 L8) (.tmp 19)),ji 97 (.load (.ar 32 L8) (.tmp 16)),ji 98 (.call 42 [.tmp 94,.tmp 95,.tmp 96,.tmp 97]),ji 99 (.b7 rB (.tmp 5) 2),ji 100 (.load (.ar 16 L8) (.tmp 99)),jv 101 20,jv 102 4,jv 103 18,ji 104 (.eO (.ar 32 L8) (.tmp 102) (.tmp 103)),ji 105 (.load (.ar 32 L8) (.tmp 104)),ji 106 (.load (.ar 32 L8) (.tmp 17))] [ji 107 (.call 42 [.tmp 100,.tmp 101,.tmp 105,.tmp 106]),⟨none,.store (.ar 32 L8) (.tmp 16) (.tmp 98),none⟩,⟨none,.store (.ar 32 L8) (.tmp 17) (.tmp 107),none⟩])) (.seq (.draw [ji 109 (.load rB (.tmp 5)),jv 110 20,ji 111 (.call 151 []),ji 112 (.load (.ar 32 L8) (.tmp 16)),ji 113 (.load (.ar 32 L8) (.tmp 19)),ji 114 (.cP (.ar 32 L8) 2 (.agg (.ar 32 L8) (List.replicate 32 (.raw (u8 0#8)))) [(0,.tmp 112),(1,.tmp 113)]),ji 115 (.call 149 [.tmp 109,.tmp 110,.tmp 111,.tmp 114]),ji 116 (.load rB (.tmp 5)),jv 117 20,ji 118 (.call 151 []),ji 119 (.load (.ar 32 L8) (.tmp 17)),jv 120 4,jv 121 18,ji 122 (.eO (.ar 32 L8) (.tmp 120) (.tmp 121)),ji 123 (.load (.ar 32 L8) (.tmp 122)),ji 124 (.cP (.ar 32 L8) 2 (.agg (.ar 32 L8) (List.replicate 32 (.raw (u8 0#8)))) [(0,.tmp 119),(1,.tmp 123)]),ji 125 (.call 149 [.tmp 116,.tmp 117,.tmp 118,.tmp 124]),ji 126 (.call 148 [.tmp 115,.tmp 125]),jv 108 126,ji 127 (.ext (.tmp 108) 0),ji 128 (.ext (.tmp 108) 1)] [ji 128 (.ext (.tmp 108) 1)] [(⟨none,.store kx (.tmp 14) (.tmp 127),none⟩,[ji 128 (.ext (.tmp 108) 1)])]) (.AL [ji 129 (.b7 rB (.tmp 5) 2),ji 130 (.load (.ar 16 L8) (.tmp 129)),jv 131 20,ji 132 (.load (.ar 32 L8) (.tmp 16)),ji 133 (.load (.ar 32 L8) (.tmp 19)),ji 134 (.call 42 [.tmp 130,.tmp 131,.tmp 132,.tmp 133]),ji 135 (.b7 rB (.tmp 5) 2),ji 136 (.load (.ar 16 L8) (.tmp 135)),jv 137 20,ji 138 (.load (.ar 32 L8) (.tmp 17)),jv 139 4,jv 140 18,ji 141 (.eO (.ar 32 L8) (.tmp 139) (.tmp 140)),ji 142 (.load (.ar 32 L8) (.tmp 141))] [ji 143 (.call 42 [.tmp 136,.tmp 137,.tmp 138,.tmp 142]),⟨none,.store (.ar 32 L8) (.tmp 16) (.tmp 134),none⟩,⟨none,.store (.ar 32 L8) (.tmp 17) (.tmp 143),none⟩])))) (.seq (.region false [jv 144 12,ji 145 (.load kx (.tmp 14)),ji 146 (.cP kx 1 (.agg kx [(.raw (it 0)),(.raw (.slice none 0 0)),(.raw (.slice none 0 0)),(.agg ua [(.raw (u32 0#32)),(.raw (it 0)),(.raw (it 0))]),(.agg (.ar 32 L8) (List.replicate 32 (.raw (u8 0#8))))]) [(0,.tmp 145)]),ji 147 (.append kx 112 (.tmp 144) (.tmp 146)),jv 12 147]) (.region false [jv 148 20,jv 13 148])))))) (.region false [ji 149 (.bin .add (.tmp 62) (.const (it 1))),jv 62 149]))))))) (.seq (.seq (.region false [jv 150 12,ji 151 (.len (.tmp 150)),ji 152 (.bin .sub (.tmp 151) (.const (it 1))),jv 21 152]) (.block 2 (.loop (.seq (.seq (.region false [jv 153 21,ji 154 (.bin .geq (.tmp 153) (.const (it 0)))]) (.cond (.tmp 154) .skip (.exit 2))) (.seq (.block 3 (.seq (.AL [jv 157 12,jv 158 21,ji 159 (.eO kx (.tmp 157) (.tmp 158)),ji 160 (.b7 kx (.tmp 159) 1),ji 161 (.load .ref (.tmp 160)),jv 162 12,jv 163 21,ji 164 (.eO kx (.tmp 162) (.tmp 163)),ji 165 (.b7 kx (.tmp 164) 2),ji 166 (.load .ref (.tmp 165))] [ji 167 (.call 94 [.tmp 161,.tmp 166]),ji 168 (.un .not (.tmp 167))]) (.cond (.tmp 168) (.seq (.region false [jv 169 12,jv 170 21,ji 171 (.eO kx (.tmp 169) (.tmp 170)),ji 172 (.load kx (.tmp 171)),⟨none,.store kx (.tmp 10) (.tmp 172),none⟩,ji 11 (.mv (.const (.bool true)))]) .ret) .skip))) (.region false [jv 155 21,ji 156 (.bin .sub (.tmp 155) (.const (it 1))),jv 21 156])))))) (.seq (.region false [ji 173 (.build kx [(.raw (it 0)),(.raw (.slice none 0 0)),(.raw (.slice none 0 0)),(.agg ua [(.raw (u32 0#32)),(.raw (it 0)),(.raw (it 0))]),(.agg (.ar 32 L8) (List.replicate 32 (.raw (u8 0#8))))] []),⟨none,.store kx (.tmp 10) (.tmp 173),none⟩,ji 11 (.mv (.const (.bool false)))]) .ret)))))))))
def wZ:List aO:=[(.cell 10 kx),(.tmp 11)]
def yI:aA:=(.seq (.region false [ji 4 (.box rB (.tmp 0)),ji 8 (.alloc kx (.agg kx [(.raw (it 0)),(.raw (.slice none 0 0)),(.raw (.slice none 0 0)),(.agg ua [(.raw (u32 0#32)),(.raw (it 0)),(.raw (it 0))]),(.agg (.ar 32 L8) (List.replicate 32 (.raw (u8 0#8))))]))]) (.seq (.region false [ji 31 (.load rB (.tmp 4)),jv 32 1,ji 33 (.call 91 [.tmp 31,.tmp 32]),ji 9 (.alloc Ze (.agg Ze [(.agg (.ar 16 L8) (List.replicate 16 (.raw (u8 0#8)))),(.raw (u32 0#32))])),⟨none,.store Ze (.tmp 9) (.tmp 33),none⟩]) (.seq (.region false [ji 35 (.b7 rB (.tmp 4) 3),ji 36 (.load dk (.tmp 35)),ji 37 (.call 37 [.tmp 36]),jv 34 37,ji 38 (.ext (.tmp 34) 0),ji 39 (.ext (.tmp 34) 1),ji 10 (.alloc sr (.agg sr [(.raw (it 0)),(.raw (it 0)),(.raw (it 0))])),⟨none,.store sr (.tmp 10) (.tmp 38),none⟩,jv 11 39]) (.seq (.region false [ji 40 (.b7 sr (.tmp 10) 0),ji 41 (.load LI (.tmp 40)),ji 42 (.bin .shl (.const (it 1)) (.tmp 41)),ji 43 (.bin .sub (.tmp 42) (.const (it 1))),jv 12 43]) (.seq (.region false [jv 45 2,ji 46 (.call 147 [.tmp 45]),jv 44 46,ji 47 (.ext (.tmp 44) 0),ji 48 (.ext (.tmp 44) 1),ji 49 (.ext (.tmp 44) 2),ji 50 (.ext (.tmp 44) 3),ji 14 (.alloc (.ar 32 L8) (.agg (.ar 32 L8) (List.replicate 32 (.raw (u8 0#8))))),jv 13 47,⟨none,.store (.ar 32 L8) (.tmp 14) (.tmp 48),none⟩,jv 15 49,jv 16 50]) (.seq (.AL [ji 51 (.b7 rB (.tmp 4) 3),ji 52 (.load dk (.tmp 51)),ji 53 (.load Ze (.tmp 9)),ji 54 (.load (.ar 32 L8) (.tmp 14)),jv 55 3,ji 56 (.call 111 [.tmp 53,.tmp 54,.tmp 55])] [ji 57 (.call 110 [.tmp 52,.tmp 56]),jv 17 57]) (.seq (.region false [ji 18 (.mv (.const (.slice none 0 0))),ji 19 (.mv (.const (.slice none 0 0)))]) (.seq (.seq (.region false [jv 58 17,ji 59 (.len (.tmp 58)),ji 60 (.mv (.const (it 0)))]) (.block 0 (.loop (.seq (.region false [ji 61 (.bin .lss (.tmp 60) (.tmp 59))]) (.seq (.cond (.tmp 61) .skip (.exit 0)) (.seq (.block 1 (.seq (.region false [jv 62 60,ji 63 (.eO LI (.tmp 58) (.tmp 60)),ji 64 (.load LI (.tmp 63)),jv 20 62,jv 21 64]) (.seq (.region false [jv 65 18,ji 66 (.load rB (.tmp 4)),jv 67 1,jv 68 20,jv 69 12,ji 70 (.build ua [(.raw (u32 0#32)),(.raw (it 0)),(.raw (it 0))] [(0,.tmp 67),(1,.tmp 68),(2,.tmp 69)]),ji 71 (.call 152 [.tmp 66,.tmp 70]),ji 72 (.cP (.ar 32 L8) 1 (.agg (.ar 32 L8) (List.replicate 32 (.raw (u8 0#8)))) [(0,.tmp 71)]),ji 73 (.append (.ar 32 L8) 32 (.tmp 65) (.tmp 72)),jv 18 73]) (.region true [jv 74 19,ji 75 (.load Ze (.tmp 9)),jv 76 20,jv 77 21,jv 78 12,jv 79 15,jv 80 20,ji 81 (.eO (.ar 32 L8) (.tmp 79) (.tmp 80)),ji 82 (.load (.ar 32 L8) (.tmp 81)),ji 83 (.call 98 [.tmp 75,.tmp 76,.tmp 77,.tmp 78,.tmp 82]),ji 84 (.cP (.ar 32 L8) 1 (.agg (.ar 32 L8) (List.replicate 32 (.raw (u8 0#8)))) [(0,.tmp 83)]),ji 85 (.append (.ar 32 L8) 32 (.tmp 74) (.tmp 84)),jv 19 85])))) (.region false [ji 86 (.bin .add (.tmp 60) (.const (it 1))),jv 60 86]))))))) (.seq (.seq (.draw [ji 88 (.load rB (.tmp 4)),jv 89 1,ji 90 (.call 153 []),jv 91 18,ji 92 (.call 149 [.tmp 88,.tmp 89,.tmp 90,.tmp 91]),ji 93 (.load rB (.tmp 4)),jv 94 1,ji 95 (.call 153 []),jv 96 19,ji 97 (.call 149 [.tmp 93,.tmp 94,.tmp 95,.tmp 96]),ji 98 (.call 148 [.tmp 92,.tmp 97]),jv 87 98,ji 99 (.ext (.tmp 87) 0),ji 100 (.ext (.tmp 87) 1),ji 22 (.alloc kx (.agg kx [(.raw (it 0)),(.raw (.slice none 0 0)),(.raw (.slice none 0 0)),(.agg ua [(.raw (u32 0#32)),(.raw (it 0)),(.raw (it 0))]),(.agg (.ar 32 L8) (List.replicate 32 (.raw (u8 0#8))))]))] [ji 100 (.ext (.tmp 87) 1)] [(⟨none,.store kx (.tmp 22) (.tmp 99),none⟩,[ji 100 (.ext (.tmp 87) 1)]),(jv 23 100,[])]) (.seq (.region false [jv 101 23]) (.cond (.tmp 101) (.seq (.region false [ji 102 (.load kx (.tmp 22)),⟨none,.store kx (.tmp 8) (.tmp 102),none⟩]) .ret) .skip))) (.seq (.seq (.region false [jv 103 17,ji 104 (.len (.tmp 103)),ji 105 (.mv (.const (it 0)))]) (.block 2 (.loop (.seq (.region false [ji 106 (.bin .lss (.tmp 105) (.tmp 104))]) (.seq (.cond (.tmp 106) .skip (.exit 2)) (.seq (.block 3 (.seq (.region false [jv 107 105,ji 108 (.eO LI (.tmp 103) (.tmp 105)),ji 109 (.load LI (.tmp 108)),jv 24 107,jv 25 109]) (.seq (.region false [jv 110 1,jv 111 24,jv 112 25,ji 113 (.build ua [(.raw (u32 0#32)),(.raw (it 0)),(.raw (it 0))] [(0,.tmp 110),(1,.tmp 111),(2,.tmp 112)]),ji 26 (.alloc ua (.agg ua [(.raw (u32 0#32)),(.raw (it 0)),(.raw (it 0))])),⟨none,.store ua (.tmp 26) (.tmp 113),none⟩]) (.seq (.region false [ji 114 (.b7 rB (.tmp 4) 0),ji 115 (.load .ref (.tmp 114)),ji 116 (.load ua (.tmp 26)),ji 117 (.call 97 [.tmp 115,.tmp 116]),ji 118 (.un .not (.tmp 117))]) (.cond (.tmp 118) (.seq (.AL [ji 119 (.load rB (.tmp 4)),ji 120 (.load ua (.tmp 26)),jv 121 15,jv 122 24,ji 123 (.eO (.ar 32 L8) (.tmp 121) (.tmp 122)),ji 124 (.load (.ar 32 L8) (.tmp 123)),jv 125 12] [ji 126 (.call 154 [.tmp 119,.tmp 120,.tmp 124,.tmp 125]),⟨none,.store kx (.tmp 8) (.tmp 126),none⟩]) .ret) .skip))))) (.region false [ji 127 (.bin .add (.tmp 105) (.const (it 1))),jv 105 127]))))))) (.seq (.region false [ji 129 (.b7 rB (.tmp 4) 0),ji 130 (.load .ref (.tmp 129)),jv 131 1,ji 132 (.call 155 [.tmp 130,.tmp 131]),jv 128 132,ji 133 (.ext (.tmp 128) 0),ji 134 (.ext (.tmp 128) 1),ji 28 (.alloc (.ar 32 L8) (.agg (.ar 32 L8) (List.replicate 32 (.raw (u8 0#8))))),jv 27 133,⟨none,.store (.ar 32 L8) (.tmp 28) (.tmp 134),none⟩]) (.seq (.SS [ji 136 (.load rB (.tmp 4)),jv 137 1,ji 139 (.load (.ar 32 L8) (.tmp 28)),ji 140 (.cP (.ar 32 L8) 1 (.agg (.ar 32 L8) (List.replicate 32 (.raw (u8 0#8)))) [(0,.tmp 139)]),jv 142 27,ji 144 (.load rB (.tmp 4)),jv 145 1,ji 147 (.load (.ar 32 L8) (.tmp 14)),ji 148 (.cP (.ar 32 L8) 1 (.agg (.ar 32 L8) (List.replicate 32 (.raw (u8 0#8)))) [(0,.tmp 147)]),jv 150 3,ji 29 (.alloc kx (.agg kx [(.raw (it 0)),(.raw (.slice none 0 0)),(.raw (.slice none 0 0)),(.agg ua [(.raw (u32 0#32)),(.raw (it 0)),(.raw (it 0))]),(.agg (.ar 32 L8) (List.replicate 32 (.raw (u8 0#8))))]))] [ji 136 (.load rB (.tmp 4)),jv 137 1,ji 139 (.load (.ar 32 L8) (.tmp 28)),ji 140 (.cP (.ar 32 L8) 1 (.agg (.ar 32 L8) (List.replicate 32 (.raw (u8 0#8)))) [(0,.tmp 139)]),jv 142 27,ji 144 (.load rB (.tmp 4)),jv 145 1,ji 147 (.load (.ar 32 L8) (.tmp 14)),ji 148 (.cP (.ar 32 L8) 1 (.agg (.ar 32 L8) (List.replicate 32 (.raw (u8 0#8)))) [(0,.tmp 147)]),jv 150 3,ji 29 (.alloc kx (.agg kx [(.raw (it 0)),(.raw (.slice none 0 0)),(.raw (.slice none 0 0)),(.agg ua [(.raw (u32 0#32)),(.raw (it 0)),(.raw (it 0))]),(.agg (.ar 32 L8) (List.replicate 32 (.raw (u8 0#8))))]))] [(ji 138 (.call 156 []),[],[ji 136 (.load rB (.tmp 4)),jv 137 1,ji 139 (.load (.ar 32 L8) (.tmp 28)),ji 140 (.cP (.ar 32 L8) 1 (.agg (.ar 32 L8) (List.replicate 32 (.raw (u8 0#8)))) [(0,.tmp 139)]),jv 142 27,ji 144 (.load rB (.tmp 4)),jv 145 1,ji 147 (.load (.ar 32 L8) (.tmp 14)),ji 148 (.cP (.ar 32 L8) 1 (.agg (.ar 32 L8) (List.replicate 32 (.raw (u8 0#8)))) [(0,.tmp 147)]),jv 150 3,ji 29 (.alloc kx (.agg kx [(.raw (it 0)),(.raw (.slice none 0 0)),(.raw (.slice none 0 0)),(.agg ua [(.raw (u32 0#32)),(.raw (it 0)),(.raw (it 0))]),(.agg (.ar 32 L8) (List.replicate 32 (.raw (u8 0#8))))]))]),(ji 141 (.call 149 [.tmp 136,.tmp 137,.tmp 138,.tmp 140]),[],[jv 142 27,ji 144 (.load rB (.tmp 4)),jv 145 1,ji 147 (.load (.ar 32 L8) (.tmp 14)),ji 148 (.cP (.ar 32 L8) 1 (.agg (.ar 32 L8) (List.replicate 32 (.raw (u8 0#8)))) [(0,.tmp 147)]),jv 150 3,ji 29 (.alloc kx (.agg kx [(.raw (it 0)),(.raw (.slice none 0 0)),(.raw (.slice none 0 0)),(.agg ua [(.raw (u32 0#32)),(.raw (it 0)),(.raw (it 0))]),(.agg (.ar 32 L8) (List.replicate 32 (.raw (u8 0#8))))]))]),(ji 143 (.append L8 1 (.tmp 141) (.tmp 142)),[],[ji 144 (.load rB (.tmp 4)),jv 145 1,ji 147 (.load (.ar 32 L8) (.tmp 14)),ji 148 (.cP (.ar 32 L8) 1 (.agg (.ar 32 L8) (List.replicate 32 (.raw (u8 0#8)))) [(0,.tmp 147)]),jv 150 3,ji 29 (.alloc kx (.agg kx [(.raw (it 0)),(.raw (.slice none 0 0)),(.raw (.slice none 0 0)),(.agg ua [(.raw (u32 0#32)),(.raw (it 0)),(.raw (it 0))]),(.agg (.ar 32 L8) (List.replicate 32 (.raw (u8 0#8))))]))]),(ji 146 (.call 156 []),[],[ji 144 (.load rB (.tmp 4)),jv 145 1,ji 147 (.load (.ar 32 L8) (.tmp 14)),ji 148 (.cP (.ar 32 L8) 1 (.agg (.ar 32 L8) (List.replicate 32 (.raw (u8 0#8)))) [(0,.tmp 147)]),jv 150 3,ji 29 (.alloc kx (.agg kx [(.raw (it 0)),(.raw (.slice none 0 0)),(.raw (.slice none 0 0)),(.agg ua [(.raw (u32 0#32)),(.raw (it 0)),(.raw (it 0))]),(.agg (.ar 32 L8) (List.replicate 32 (.raw (u8 0#8))))]))]),(ji 149 (.call 149 [.tmp 144,.tmp 145,.tmp 146,.tmp 148]),[],[jv 150 3,ji 29 (.alloc kx (.agg kx [(.raw (it 0)),(.raw (.slice none 0 0)),(.raw (.slice none 0 0)),(.agg ua [(.raw (u32 0#32)),(.raw (it 0)),(.raw (it 0))]),(.agg (.ar 32 L8) (List.replicate 32 (.raw (u8 0#8))))]))]),(ji 151 (.append L8 1 (.tmp 149) (.tmp 150)),[],[ji 29 (.alloc kx (.agg kx [(.raw (it 0)),(.raw (.slice none 0 0)),(.raw (.slice none 0 0)),(.agg ua [(.raw (u32 0#32)),(.raw (it 0)),(.raw (it 0))]),(.agg (.ar 32 L8) (List.replicate 32 (.raw (u8 0#8))))]))]),(ji 152 (.call 148 [.tmp 143,.tmp 151]),[jv 135 152,ji 153 (.ext (.tmp 135) 0),ji 154 (.ext (.tmp 135) 1)],[ji 29 (.alloc kx (.agg kx [(.raw (it 0)),(.raw (.slice none 0 0)),(.raw (.slice none 0 0)),(.agg ua [(.raw (u32 0#32)),(.raw (it 0)),(.raw (it 0))]),(.agg (.ar 32 L8) (List.replicate 32 (.raw (u8 0#8))))])),jv 135 152,ji 153 (.ext (.tmp 135) 0),ji 154 (.ext (.tmp 135) 1)]),(⟨none,.store kx (.tmp 29) (.tmp 153),none⟩,[jv 30 154],[ji 154 (.ext (.tmp 135) 1),jv 30 154])]) (.seq (.region false [ji 155 (.load kx (.tmp 29)),⟨none,.store kx (.tmp 8) (.tmp 155),none⟩]) .ret)))))))))))))
def yJ:List aO:=[(.cell 8 kx)]
noncomputable def zg:aA:=(⟨_,by conv=>lhs;reduce;simp only[cT,simprocAttr,-List.reduceReplicate]⟩:CO 94).1
def zh:List aO:=[(.tmp 4)]
theorem Jg:MT 94 2 zh zg:=mM Go.Proofs.Tryz.func94 (by kernel_rfl) (by kernel_rfl) (by kernel_rfl)
noncomputable def J4:aA:=(⟨_,by conv=>lhs;reduce;simp only[cT,simprocAttr,-List.reduceReplicate]⟩:CO 95).1
def J5:List aO:=[(.cell 2 (.ar 32 L8))]
theorem VD:MT 95 1 J5 J4:=mM Go.Proofs.Tryz.func95 (by kernel_rfl) (by kernel_rfl) (by kernel_rfl)
noncomputable def ED:aA:=(⟨_,by conv=>lhs;reduce;simp only[cT,simprocAttr,-List.reduceReplicate]⟩:CO 98).1
def EE:List aO:=[(.cell 10 (.ar 32 L8))]
theorem N8:MT 98 5 EE ED:=mM Go.Proofs.Tryz.func98 (by kernel_rfl) (by kernel_rfl) (by kernel_rfl)
noncomputable def vk:aA:=(⟨_,by conv=>lhs;reduce;simp only[cT,simprocAttr,-List.reduceReplicate]⟩:CO 99).1
def vl:List aO:=[(.tmp 2)]
theorem Fm:MT 99 1 vl vk:=mM Go.Proofs.Tryz.func99 (by kernel_rfl) (by kernel_rfl) (by kernel_rfl)
noncomputable def Bp:aA:=(⟨_,by conv=>lhs;reduce;simp only[cT,simprocAttr,-List.reduceReplicate]⟩:CO 100).1
def Bq:List aO:=[(.cell 6 (.ar 32 L8))]
theorem LA:MT 100 3 Bq Bp:=mM Go.Proofs.Tryz.func100 (by kernel_rfl) (by kernel_rfl) (by kernel_rfl)
noncomputable def Hj:aA:=(⟨_,by conv=>lhs;reduce;simp only[cT,simprocAttr,-List.reduceReplicate]⟩:CO 101).1
def Hk:List aO:=[(.cell 4 (.ar 32 L8))]
theorem QR:MT 101 2 Hk Hj:=mM Go.Proofs.Tryz.func101 (by kernel_rfl) (by kernel_rfl) (by kernel_rfl)
noncomputable def Hl:aA:=(⟨_,by conv=>lhs;reduce;simp only[cT,simprocAttr,-List.reduceReplicate]⟩:CO 102).1
def Hm:List aO:=[(.cell 8 (.ar 32 L8))]
theorem QS:MT 102 4 Hm Hl:=mM Go.Proofs.Tryz.func102 (by kernel_rfl) (by kernel_rfl) (by kernel_rfl)
noncomputable def w7:aA:=(⟨_,by conv=>lhs;reduce;simp only[cT,simprocAttr,-List.reduceReplicate]⟩:CO 103).1
def w8:List aO:=[(.tmp 4)]
theorem Hn:MT 103 2 w8 w7:=mM Go.Proofs.Tryz.func103 (by kernel_rfl) (by kernel_rfl) (by kernel_rfl)
noncomputable def iF:aA:=(⟨_,by conv=>lhs;reduce;simp only[cT,simprocAttr,-List.reduceReplicate]⟩:CO 104).1
def iG:List aO:=[(.tmp 2),(.tmp 3)]
theorem QT:MT 104 1 iG iF:=mM Go.Proofs.Tryz.func104 (by kernel_rfl) (by kernel_rfl) (by kernel_rfl)
noncomputable def w9:aA:=(⟨_,by conv=>lhs;reduce;simp only[cT,simprocAttr,-List.reduceReplicate]⟩:CO 105).1
def xc:List aO:=[(.tmp 4)]
theorem Ho:MT 105 2 xc w9:=mM Go.Proofs.Tryz.func105 (by kernel_rfl) (by kernel_rfl) (by kernel_rfl)
noncomputable def Br:aA:=(⟨_,by conv=>lhs;reduce;simp only[cT,simprocAttr,-List.reduceReplicate]⟩:CO 106).1
def Bs:List aO:=[(.tmp 2)]
theorem LC:MT 106 1 Bs Br:=mM Go.Proofs.Tryz.func106 (by kernel_rfl) (by kernel_rfl) (by kernel_rfl)
noncomputable def vn:aA:=(⟨_,by conv=>lhs;reduce;simp only[cT,simprocAttr,-List.reduceReplicate]⟩:CO 107).1
def vo:List aO:=[(.tmp 6)]
theorem Fo:MT 107 3 vo vn:=mM Go.Proofs.Tryz.func107 (by kernel_rfl) (by kernel_rfl) (by kernel_rfl)
noncomputable def fO:aA:=(⟨_,by conv=>lhs;reduce;simp only[cT,simprocAttr,-List.reduceReplicate]⟩:CO 108).1
def fP:List aO:=[(.tmp 6)]
theorem xd:MT 108 3 fP fO:=mM Go.Proofs.Tryz.func108 (by kernel_rfl) (by kernel_rfl) (by kernel_rfl)
noncomputable def rG:aA:=(⟨_,by conv=>lhs;reduce;simp only[cT,simprocAttr,-List.reduceReplicate]⟩:CO 109).1
def rH:List aO:=[(.tmp 2)]
theorem Bu:MT 109 1 rH rG:=mM Go.Proofs.Tryz.func109 (by kernel_rfl) (by kernel_rfl) (by kernel_rfl)
noncomputable def Bv:aA:=(⟨_,by conv=>lhs;reduce;simp only[cT,simprocAttr,-List.reduceReplicate]⟩:CO 110).1
def Bw:List aO:=[(.tmp 4)]
theorem LD:MT 110 2 Bw Bv:=mM Go.Proofs.Tryz.func110 (by kernel_rfl) (by kernel_rfl) (by kernel_rfl)
noncomputable def Hp:aA:=(⟨_,by conv=>lhs;reduce;simp only[cT,simprocAttr,-List.reduceReplicate]⟩:CO 111).1
def Hq:List aO:=[(.cell 6 (.ar 32 L8))]
theorem QU:MT 111 3 Hq Hp:=mM Go.Proofs.Tryz.func111 (by kernel_rfl) (by kernel_rfl) (by kernel_rfl)
noncomputable def Ae:aA:=(⟨_,by conv=>lhs;reduce;simp only[cT,simprocAttr,-List.reduceReplicate]⟩:CO 112).1
def Af:List aO:=[(.tmp 10),(.tmp 11)]
theorem QV:MT 112 5 Af Ae:=mM Go.Proofs.Tryz.func112 (by kernel_rfl) (by kernel_rfl) (by kernel_rfl)
noncomputable def rI:aA:=(⟨_,by conv=>lhs;reduce;simp only[cT,simprocAttr,-List.reduceReplicate]⟩:CO 113).1
def rK:List aO:=[(.tmp 4)]
theorem Bx:MT 113 2 rK rI:=mM Go.Proofs.Tryz.func113 (by kernel_rfl) (by kernel_rfl) (by kernel_rfl)
noncomputable def By:aA:=(⟨_,by conv=>lhs;reduce;simp only[cT,simprocAttr,-List.reduceReplicate]⟩:CO 114).1
def Bz:List aO:=[(.tmp 4)]
theorem LF:MT 114 2 Bz By:=mM Go.Proofs.Tryz.func114 (by kernel_rfl) (by kernel_rfl) (by kernel_rfl)
noncomputable def pe:aA:=(⟨_,by conv=>lhs;reduce;simp only[cT,simprocAttr,-List.reduceReplicate]⟩:CO 116).1
def pg:List aO:=[(.tmp 8),(.tmp 9)]
theorem yK:MT 116 4 pg pe:=mM Go.Proofs.Tryz.func116 (by kernel_rfl) (by kernel_rfl) (by kernel_rfl)
noncomputable def cZ:aA:=(⟨_,by conv=>lhs;reduce;simp only[cT,simprocAttr,-List.reduceReplicate]⟩:CO 117).1
def df:List aO:=[(.tmp 8)]
theorem Ag:MT 117 4 df cZ:=mM Go.Proofs.Tryz.func117 (by kernel_rfl) (by kernel_rfl) (by kernel_rfl)
noncomputable def vp:aA:=(⟨_,by conv=>lhs;reduce;simp only[cT,simprocAttr,-List.reduceReplicate]⟩:CO 118).1
def vq:List aO:=[(.cell 0 S1)]
theorem Fp:MT 118 0 vq vp:=mM Go.Proofs.Tryz.func118 (by kernel_rfl) (by kernel_rfl) (by kernel_rfl)
noncomputable def vt:aA:=(⟨_,by conv=>lhs;reduce;simp only[cT,simprocAttr,-List.reduceReplicate]⟩:CO 119).1
def vu:List aO:=[(.cell 2 S1),(.tmp 3)]
theorem Fq:MT 119 1 vu vt:=mM Go.Proofs.Tryz.func119 (by kernel_rfl) (by kernel_rfl) (by kernel_rfl)
noncomputable def xf:aA:=(⟨_,by conv=>lhs;reduce;simp only[cT,simprocAttr,-List.reduceReplicate]⟩:CO 120).1
def xg:List aO:=[(.tmp 2)]
theorem Hr:MT 120 1 xg xf:=mM Go.Proofs.Tryz.func120 (by kernel_rfl) (by kernel_rfl) (by kernel_rfl)
noncomputable def dS:aA:=(⟨_,by conv=>lhs;reduce;simp only[cT,simprocAttr,-List.reduceReplicate]⟩:CO 121).1
def dU:List aO:=[(.tmp 4)]
theorem yL:MT 121 2 dU dS:=mM Go.Proofs.Tryz.func121 (by kernel_rfl) (by kernel_rfl) (by kernel_rfl)
noncomputable def b6:aA:=(⟨_,by conv=>lhs;reduce;simp only[cT,simprocAttr,-List.reduceReplicate]⟩:CO 122).1
def eC:List aO:=[(.tmp 4)]
theorem Ah:MT 122 2 eC b6:=mM Go.Proofs.Tryz.func122 (by kernel_rfl) (by kernel_rfl) (by kernel_rfl)
noncomputable def eW:aA:=(⟨_,by conv=>lhs;reduce;simp only[cT,simprocAttr,-List.reduceReplicate]⟩:CO 123).1
def eX:List aO:=[(.tmp 4)]
theorem BA:MT 123 2 eX eW:=mM Go.Proofs.Tryz.func123 (by kernel_rfl) (by kernel_rfl) (by kernel_rfl)
noncomputable def cH:aA:=(⟨_,by conv=>lhs;reduce;simp only[cT,simprocAttr,-List.reduceReplicate]⟩:CO 124).1
def cI:List aO:=[]
theorem Ai:MT 124 2 cI cH:=mM Go.Proofs.Tryz.func124 (by kernel_rfl) (by kernel_rfl) (by kernel_rfl)
noncomputable def eD:aA:=(⟨_,by conv=>lhs;reduce;simp only[cT,simprocAttr,-List.reduceReplicate]⟩:CO 125).1
def eE:List aO:=[(.tmp 4)]
theorem Aj:MT 125 2 eE eD:=mM Go.Proofs.Tryz.func125 (by kernel_rfl) (by kernel_rfl) (by kernel_rfl)
end Go.Am.F
namespace Go.Am.F
set_option maxRecDepth 100000
set_option maxHeartbeats 0
noncomputable def dW:aA:=(⟨_,by conv=>lhs;reduce;simp only[cT,simprocAttr,-List.reduceReplicate]⟩:CO 126).1
def dY:List aO:=[(.tmp 4)]
theorem yM:MT 126 2 dY dW:=mM Go.Proofs.Tryz.func126 (by kernel_rfl) (by kernel_rfl) (by kernel_rfl)
noncomputable def bn:aA:=(⟨_,by conv=>lhs;reduce;simp only[cT,simprocAttr,-List.reduceReplicate]⟩:CO 127).1
def eF:List aO:=[]
theorem Ak:MT 127 2 eF bn:=mM Go.Proofs.Tryz.func127 (by kernel_rfl) (by kernel_rfl) (by kernel_rfl)
noncomputable def qq:aA:=(⟨_,by conv=>lhs;reduce;simp only[cT,simprocAttr,-List.reduceReplicate]⟩:CO 128).1
def qs:List aO:=[(.tmp 0)]
theorem QW:MT 128 0 qs qq:=mM Go.Proofs.Tryz.func128 (by kernel_rfl) (by kernel_rfl) (by kernel_rfl)
noncomputable def Hs:aA:=(⟨_,by conv=>lhs;reduce;simp only[cT,simprocAttr,-List.reduceReplicate]⟩:CO 129).1
def Ht:List aO:=[(.cell 0 S26)]
theorem QX:MT 129 0 Ht Hs:=mM Go.Proofs.Tryz.func129 (by kernel_rfl) (by kernel_rfl) (by kernel_rfl)
noncomputable def zi:aA:=(⟨_,by conv=>lhs;reduce;simp only[cT,simprocAttr,-List.reduceReplicate]⟩:CO 130).1
def zj:List aO:=[(.tmp 2)]
theorem Jh:MT 130 1 zj zi:=mM Go.Proofs.Tryz.func130 (by kernel_rfl) (by kernel_rfl) (by kernel_rfl)
noncomputable def iP:aA:=(⟨_,by conv=>lhs;reduce;simp only[cT,simprocAttr,-List.reduceReplicate]⟩:CO 131).1
def iQ:List aO:=[(.cell 6 S6),(.tmp 7),(.tmp 8)]
theorem Dt:MT 131 3 iQ iP:=mM Go.Proofs.Tryz.func131 (by kernel_rfl) (by kernel_rfl) (by kernel_rfl)
noncomputable def BB:aA:=(⟨_,by conv=>lhs;reduce;simp only[cT,simprocAttr,-List.reduceReplicate]⟩:CO 132).1
def BC:List aO:=[(.tmp 2)]
theorem LG:MT 132 1 BC BB:=mM Go.Proofs.Tryz.func132 (by kernel_rfl) (by kernel_rfl) (by kernel_rfl)
def ik:aA:=(.seq (.region false [ji 3 (.mv (.const (.bool false)))]) (.seq (.region false [jv 4 0,ji 5 (.call 130 [.tmp 4]),jv 6 5,⟨some 7,.mv (.tmp 0),some (6,true)⟩,⟨some 8,.wg 2 LI (.tmp 1) (.tmp 7),some (6,true)⟩,⟨some 9,.load LI (.tmp 8),some (6,true)⟩,⟨some 10,.bin .eql (.tmp 9) (.const (it 0)),some (6,true)⟩,ji 11 (.pick (.tmp 6) (.tmp 10) (.const (.bool false))),jv 3 11]) .ret))
def iq:List aO:=[(.tmp 3)]
def vv:aA:=(.seq (.region false [ji 5 (.box S1 (.tmp 1)),ji 6 (.box S1 (.tmp 2)),ji 8 (.alloc S9 (.agg S9 [(.raw (it 0)),(.agg S1 [(.raw (u32 0#32)),(.raw (it 0)),(.raw (it 0)),(.raw (it 0))]),(.raw (.bool false)),(.raw (.bool false)),(.raw (it 0))]))]) (.seq (.region true [jv 9 0,ji 10 (.load S1 (.tmp 5)),ji 11 (.load S1 (.tmp 5)),ji 12 (.load S1 (.tmp 6)),ji 13 (.Xe S1 true (.tmp 11) (.tmp 12)),jv 14 3,ji 15 (.build S9 [(.raw (it 0)),(.agg S1 [(.raw (u32 0#32)),(.raw (it 0)),(.raw (it 0)),(.raw (it 0))]),(.raw (.bool false)),(.raw (.bool false)),(.raw (it 0))] [(0,.tmp 9),(1,.tmp 10),(2,.tmp 13),(3,.tmp 14)]),⟨none,.store S9 (.tmp 8) (.tmp 15),none⟩]) .ret))
def vz:List aO:=[(.cell 8 S9)]
theorem Fs:MT 134 4 vz vv:=mM Go.Proofs.Tryz.func134 (by kernel_rfl) (by kernel_rfl) (by kernel_rfl)
noncomputable def N9:aA:=(⟨_,by conv=>lhs;reduce;simp only[cT,simprocAttr,-List.reduceReplicate]⟩:CO 135).1
def Oa:List aO:=[(.tmp 4)]
theorem Zg:MT 135 2 Oa N9:=mM Go.Proofs.Tryz.func135 (by kernel_rfl) (by kernel_rfl) (by kernel_rfl)
noncomputable def dK:aA:=(⟨_,by conv=>lhs;reduce;simp only[cT,simprocAttr,-List.reduceReplicate]⟩:CO 137).1
def dL:List aO:=[(.cell 2 S1),(.tmp 3)]
theorem uE:MT 137 1 dL dK:=mM Go.Proofs.Tryz.func137 (by kernel_rfl) (by kernel_rfl) (by kernel_rfl)
noncomputable def gj:aA:=(⟨_,by conv=>lhs;reduce;simp only[cT,simprocAttr,-List.reduceReplicate]⟩:CO 138).1
def gk:List aO:=[(.cell 4 S7)]
theorem yN:MT 138 2 gk gj:=mM Go.Proofs.Tryz.func138 (by kernel_rfl) (by kernel_rfl) (by kernel_rfl)
noncomputable def Hu:aA:=(⟨_,by conv=>lhs;reduce;simp only[cT,simprocAttr,-List.reduceReplicate]⟩:CO 142).1
def Hv:List aO:=[(.cell 6 (.ar 32 L8)),(.tmp 7)]
theorem QY:MT 142 3 Hv Hu:=mM Go.Proofs.Tryz.func142 (by kernel_rfl) (by kernel_rfl) (by kernel_rfl)
noncomputable def Hw:aA:=(⟨_,by conv=>lhs;reduce;simp only[cT,simprocAttr,-List.reduceReplicate]⟩:CO 143).1
def Hx:List aO:=[(.cell 2 S29),(.tmp 3)]
theorem QZ:MT 143 1 Hx Hw:=mM Go.Proofs.Tryz.func143 (by kernel_rfl) (by kernel_rfl) (by kernel_rfl)
noncomputable def zk:aA:=(⟨_,by conv=>lhs;reduce;simp only[cT,simprocAttr,-List.reduceReplicate]⟩:CO 144).1
def zm:List aO:=[(.tmp 2),(.tmp 3),(.tmp 4),(.tmp 5),(.tmp 6)]
theorem Ji:MT 144 1 zm zk:=mM Go.Proofs.Tryz.func144 (by kernel_rfl) (by kernel_rfl) (by kernel_rfl)
noncomputable def jZ:aA:=(⟨_,by conv=>lhs;reduce;simp only[cT,simprocAttr,-List.reduceReplicate]⟩:CO 145).1
def j2:List aO:=[(.tmp 4),(.tmp 5)]
theorem Q1:MT 145 2 j2 jZ:=mM Go.Proofs.Tryz.func145 (by kernel_rfl) (by kernel_rfl) (by kernel_rfl)
noncomputable def J6:aA:=(⟨_,by conv=>lhs;reduce;simp only[cT,simprocAttr,-List.reduceReplicate]⟩:CO 146).1
def J7:List aO:=[(.tmp 2)]
theorem VE:MT 146 1 J7 J6:=mM Go.Proofs.Tryz.func146 (by kernel_rfl) (by kernel_rfl) (by kernel_rfl)
noncomputable def EF:aA:=(⟨_,by conv=>lhs;reduce;simp only[cT,simprocAttr,-List.reduceReplicate]⟩:CO 147).1
def EG:List aO:=[(.tmp 2),(.cell 3 (.ar 32 L8)),(.tmp 4),(.tmp 5)]
theorem Ob:MT 147 1 EG EF:=mM Go.Proofs.Tryz.func147 (by kernel_rfl) (by kernel_rfl) (by kernel_rfl)
def xh:aA:=(.seq (.region false [ji 4 (.box rB (.tmp 0)),ji 5 (.box ua (.tmp 1)),ji 6 (.box (.ar 32 L8) (.tmp 2)),ji 8 (.alloc kx (.agg kx [(.raw (it 0)),(.raw (.slice none 0 0)),(.raw (.slice none 0 0)),(.agg ua [(.raw (u32 0#32)),(.raw (it 0)),(.raw (it 0))]),(.agg (.ar 32 L8) (List.replicate 32 (.raw (u8 0#8))))]))]) (.seq (.region false [ji 17 (.load rB (.tmp 4)),ji 18 (.load ua (.tmp 5)),ji 19 (.call 152 [.tmp 17,.tmp 18]),ji 9 (.alloc (.ar 32 L8) (.agg (.ar 32 L8) (List.replicate 32 (.raw (u8 0#8))))),⟨none,.store (.ar 32 L8) (.tmp 9) (.tmp 19),none⟩]) (.seq (.seq (.region false [ji 20 (.load (.ar 32 L8) (.tmp 9)),ji 21 (.load (.ar 32 L8) (.tmp 6)),ji 22 (.Xe (.ar 32 L8) false (.tmp 20) (.tmp 21))]) (.cond (.tmp 22) (.seq (.region false [ji 23 (.load ua (.tmp 5)),ji 24 (.load (.ar 32 L8) (.tmp 6)),ji 25 (.build kx [(.raw (it 0)),(.raw (.slice none 0 0)),(.raw (.slice none 0 0)),(.agg ua [(.raw (u32 0#32)),(.raw (it 0)),(.raw (it 0))]),(.agg (.ar 32 L8) (List.replicate 32 (.raw (u8 0#8))))] [(0,.const (it 2)),(3,.tmp 23),(4,.tmp 24)]),⟨none,.store kx (.tmp 8) (.tmp 25),none⟩]) .ret) .skip)) (.seq (.region false [ji 26 (.load rB (.tmp 4)),ji 27 (.b7 ua (.tmp 5) 0),ji 28 (.load dk (.tmp 27)),ji 29 (.call 91 [.tmp 26,.tmp 28]),ji 10 (.alloc Ze (.agg Ze [(.agg (.ar 16 L8) (List.replicate 16 (.raw (u8 0#8)))),(.raw (u32 0#32))])),⟨none,.store Ze (.tmp 10) (.tmp 29),none⟩]) (.seq (.seq (.region false [ji 30 (.b7 ua (.tmp 5) 2),ji 31 (.load LI (.tmp 30)),jv 11 31]) (.block 0 (.loop (.seq (.seq (.region false [jv 32 11,jv 33 3,ji 34 (.bin .lss (.tmp 32) (.tmp 33))]) (.cond (.tmp 34) .skip (.exit 0))) (.seq (.block 1 (.seq (.region true [ji 37 (.load Ze (.tmp 10)),ji 38 (.b7 ua (.tmp 5) 1),ji 39 (.load LI (.tmp 38)),jv 40 11,ji 41 (.load (.ar 32 L8) (.tmp 9)),ji 42 (.call 160 [.tmp 37,.tmp 39,.tmp 40,.tmp 41]),ji 43 (.load Ze (.tmp 10)),ji 44 (.b7 ua (.tmp 5) 1),ji 45 (.load LI (.tmp 44)),jv 46 11,ji 47 (.load (.ar 32 L8) (.tmp 6)),ji 48 (.call 160 [.tmp 43,.tmp 45,.tmp 46,.tmp 47]),ji 12 (.alloc (.ar 32 L8) (.agg (.ar 32 L8) (List.replicate 32 (.raw (u8 0#8))))),ji 13 (.alloc (.ar 32 L8) (.agg (.ar 32 L8) (List.replicate 32 (.raw (u8 0#8))))),⟨none,.store (.ar 32 L8) (.tmp 12) (.tmp 42),none⟩,⟨none,.store (.ar 32 L8) (.tmp 13) (.tmp 48),none⟩]) (.seq (.seq (.region false [ji 49 (.load (.ar 32 L8) (.tmp 12)),ji 50 (.load (.ar 32 L8) (.tmp 13)),ji 51 (.Xe (.ar 32 L8) false (.tmp 49) (.tmp 50))]) (.cond (.tmp 51) (.seq (.region false [ji 52 (.b7 ua (.tmp 5) 1),ji 53 (.load LI (.tmp 52)),ji 54 (.bin .shr (.tmp 53) (.const (u64 8#64))),ji 55 (.conv .u8 (.tmp 54)),ji 56 (.b7 ua (.tmp 5) 1),ji 57 (.load LI (.tmp 56)),ji 58 (.conv .u8 (.tmp 57)),jv 59 11,ji 60 (.conv .u8 (.tmp 59)),ji 61 (.cP L8 3 (.raw (u8 0#8)) [(0,.tmp 55),(1,.tmp 58),(2,.tmp 60)]),jv 14 61]) (.seq (.draw [ji 63 (.load rB (.tmp 4)),ji 64 (.b7 ua (.tmp 5) 0),ji 65 (.load dk (.tmp 64)),jv 66 14,ji 67 (.load (.ar 32 L8) (.tmp 9)),ji 68 (.cP (.ar 32 L8) 1 (.agg (.ar 32 L8) (List.replicate 32 (.raw (u8 0#8)))) [(0,.tmp 67)]),ji 69 (.call 149 [.tmp 63,.tmp 65,.tmp 66,.tmp 68]),ji 70 (.load rB (.tmp 4)),ji 71 (.b7 ua (.tmp 5) 0),ji 72 (.load dk (.tmp 71)),jv 73 14,ji 74 (.load (.ar 32 L8) (.tmp 6)),ji 75 (.cP (.ar 32 L8) 1 (.agg (.ar 32 L8) (List.replicate 32 (.raw (u8 0#8)))) [(0,.tmp 74)]),ji 76 (.call 149 [.tmp 70,.tmp 72,.tmp 73,.tmp 75]),ji 77 (.call 148 [.tmp 69,.tmp 76]),jv 62 77,ji 78 (.ext (.tmp 62) 0),ji 79 (.ext (.tmp 62) 1),ji 15 (.alloc kx (.agg kx [(.raw (it 0)),(.raw (.slice none 0 0)),(.raw (.slice none 0 0)),(.agg ua [(.raw (u32 0#32)),(.raw (it 0)),(.raw (it 0))]),(.agg (.ar 32 L8) (List.replicate 32 (.raw (u8 0#8))))]))] [ji 79 (.ext (.tmp 62) 1)] [(⟨none,.store kx (.tmp 15) (.tmp 78),none⟩,[ji 79 (.ext (.tmp 62) 1)]),(jv 16 79,[])]) (.seq (.region false [ji 80 (.load kx (.tmp 15)),⟨none,.store kx (.tmp 8) (.tmp 80),none⟩]) .ret))) .skip)) (.draw [ji 81 (.load (.ar 32 L8) (.tmp 12)),ji 82 (.load (.ar 32 L8) (.tmp 13))] [ji 82 (.load (.ar 32 L8) (.tmp 13))] [(⟨none,.store (.ar 32 L8) (.tmp 9) (.tmp 81),none⟩,[ji 82 (.load (.ar 32 L8) (.tmp 13))]),(⟨none,.store (.ar 32 L8) (.tmp 6) (.tmp 82),none⟩,[])])))) (.region false [jv 35 11,ji 36 (.bin .add (.tmp 35) (.const (it 1))),jv 11 36])))))) (.seq (.region false [ji 83 (.build kx [(.raw (it 0)),(.raw (.slice none 0 0)),(.raw (.slice none 0 0)),(.agg ua [(.raw (u32 0#32)),(.raw (it 0)),(.raw (it 0))]),(.agg (.ar 32 L8) (List.replicate 32 (.raw (u8 0#8))))] []),⟨none,.store kx (.tmp 8) (.tmp 83),none⟩]) .ret))))))
def xj:List aO:=[(.cell 8 kx)]
def BD:aA:=(.seq (.region false [ji 4 (.mv (.const (.slice none 0 0))),ji 5 (.alloc (.ar 32 L8) (.agg (.ar 32 L8) (List.replicate 32 (.raw (u8 0#8)))))]) (.seq (.seq (.region false [jv 6 0,ji 7 (.yU false (.tmp 6) (.const (.pointer none))),jv 8 7,⟨some 9,.mv (.tmp 1),some (8,false)⟩,⟨some 10,.conv .u64 (.tmp 9),some (8,false)⟩,⟨some 11,.mv (.tmp 0),some (8,false)⟩,⟨some 12,.nt (.tmp 11),some (8,false)⟩,⟨some 13,.b7 Lp (.tmp 12) 8,some (8,false)⟩,⟨some 14,.load .ref (.tmp 13),some (8,false)⟩,⟨some 15,.len (.tmp 14),some (8,false)⟩,⟨some 16,.conv .u64 (.tmp 15),some (8,false)⟩,⟨some 17,.bin .geq (.tmp 10) (.tmp 16),some (8,false)⟩,ji 18 (.pick (.tmp 8) (.const (.bool true)) (.tmp 17))]) (.cond (.tmp 18) (.seq (.region false [ji 19 (.build (.ar 32 L8) (List.replicate 32 (.raw (u8 0#8))) []),ji 4 (.mv (.const (.slice none 0 0))),⟨none,.store (.ar 32 L8) (.tmp 5) (.tmp 19),none⟩]) .ret) .skip)) (.seq (.region true [jv 20 0,ji 21 (.nt (.tmp 20)),ji 22 (.b7 Lp (.tmp 21) 8),ji 23 (.load .ref (.tmp 22)),jv 24 1,ji 25 (.eO S24 (.tmp 23) (.tmp 24)),ji 26 (.b7 S24 (.tmp 25) 0),ji 27 (.load LS (.tmp 26)),ji 28 (.s2b (.tmp 27)),jv 29 0,ji 30 (.nt (.tmp 29)),ji 31 (.b7 Lp (.tmp 30) 8),ji 32 (.load .ref (.tmp 31)),jv 33 1,ji 34 (.eO S24 (.tmp 32) (.tmp 33)),ji 35 (.b7 S24 (.tmp 34) 1),ji 36 (.load (.ar 32 L8) (.tmp 35)),jv 4 28,⟨none,.store (.ar 32 L8) (.tmp 5) (.tmp 36),none⟩]) .ret)))
def BE:List aO:=[(.tmp 4),(.cell 5 (.ar 32 L8))]
noncomputable def J8:aA:=(⟨_,by conv=>lhs;reduce;simp only[cT,simprocAttr,-List.reduceReplicate]⟩:CO 157).1
def J9:List aO:=[(.cell 0 M2)]
theorem VF:MT 157 0 J9 J8:=mM Go.Proofs.Tryz.func157 (by kernel_rfl) (by kernel_rfl) (by kernel_rfl)
noncomputable def tB:aA:=(⟨_,by conv=>lhs;reduce;simp only[cT,simprocAttr,-List.reduceReplicate]⟩:CO 158).1
def tC:List aO:=[(.cell 4 M2)]
theorem Du:MT 158 2 tC tB:=mM Go.Proofs.Tryz.func158 (by kernel_rfl) (by kernel_rfl) (by kernel_rfl)
noncomputable def vA:aA:=(⟨_,by conv=>lhs;reduce;simp only[cT,simprocAttr,-List.reduceReplicate]⟩:CO 159).1
def vB:List aO:=[(.cell 2 (.ar 32 L8))]
theorem Ft:MT 159 1 vB vA:=mM Go.Proofs.Tryz.func159 (by kernel_rfl) (by kernel_rfl) (by kernel_rfl)
noncomputable def Hy:aA:=(⟨_,by conv=>lhs;reduce;simp only[cT,simprocAttr,-List.reduceReplicate]⟩:CO 160).1
def Hz:List aO:=[(.cell 8 (.ar 32 L8))]
theorem Q2:MT 160 4 Hz Hy:=mM Go.Proofs.Tryz.func160 (by kernel_rfl) (by kernel_rfl) (by kernel_rfl)
noncomputable def EH:aA:=(⟨_,by conv=>lhs;reduce;simp only[cT,simprocAttr,-List.reduceReplicate]⟩:CO 161).1
def EI:List aO:=[(.cell 2 M2)]
theorem Oc:MT 161 1 EI EH:=mM Go.Proofs.Tryz.func161 (by kernel_rfl) (by kernel_rfl) (by kernel_rfl)
noncomputable def Ka:aA:=(⟨_,by conv=>lhs;reduce;simp only[cT,simprocAttr,-List.reduceReplicate]⟩:CO 162).1
def Kb:List aO:=[(.tmp 2)]
theorem VG:MT 162 1 Kb Ka:=mM Go.Proofs.Tryz.func162 (by kernel_rfl) (by kernel_rfl) (by kernel_rfl)
noncomputable def vC:aA:=(⟨_,by conv=>lhs;reduce;simp only[cT,simprocAttr,-List.reduceReplicate]⟩:CO 163).1
def vD:List aO:=[(.tmp 4),(.tmp 5)]
theorem Fu:MT 163 2 vD vC:=mM Go.Proofs.Tryz.func163 (by kernel_rfl) (by kernel_rfl) (by kernel_rfl)
noncomputable def iR:aA:=(⟨_,by conv=>lhs;reduce;simp only[cT,simprocAttr,-List.reduceReplicate]⟩:CO 165).1
def iS:List aO:=[(.tmp 8)]
theorem Dv:MT 165 4 iS iR:=mM Go.Proofs.Tryz.func165 (by kernel_rfl) (by kernel_rfl) (by kernel_rfl)
noncomputable def HA:aA:=(⟨_,by conv=>lhs;reduce;simp only[cT,simprocAttr,-List.reduceReplicate]⟩:CO 166).1
def HB:List aO:=[(.tmp 6)]
theorem Q3:MT 166 3 HB HA:=mM Go.Proofs.Tryz.func166 (by kernel_rfl) (by kernel_rfl) (by kernel_rfl)
noncomputable def HD:aA:=(⟨_,by conv=>lhs;reduce;simp only[cT,simprocAttr,-List.reduceReplicate]⟩:CO 167).1
def HE:List aO:=[(.tmp 2)]
theorem Q4:MT 167 1 HE HD:=mM Go.Proofs.Tryz.func167 (by kernel_rfl) (by kernel_rfl) (by kernel_rfl)
noncomputable def qt:aA:=(⟨_,by conv=>lhs;reduce;simp only[cT,simprocAttr,-List.reduceReplicate]⟩:CO 168).1
def qu:List aO:=[(.tmp 4)]
theorem Al:MT 168 2 qu qt:=mM Go.Proofs.Tryz.func168 (by kernel_rfl) (by kernel_rfl) (by kernel_rfl)
noncomputable def gE:aA:=(⟨_,by conv=>lhs;reduce;simp only[cT,simprocAttr,-List.reduceReplicate]⟩:CO 169).1
def gF:List aO:=[]
theorem Dw:MT 169 2 gF gE:=mM Go.Proofs.Tryz.func169 (by kernel_rfl) (by kernel_rfl) (by kernel_rfl)
noncomputable def BF:aA:=(⟨_,by conv=>lhs;reduce;simp only[cT,simprocAttr,-List.reduceReplicate]⟩:CO 170).1
def BG:List aO:=[(.tmp 2),(.tmp 3)]
theorem LH:MT 170 1 BG BF:=mM Go.Proofs.Tryz.func170 (by kernel_rfl) (by kernel_rfl) (by kernel_rfl)
noncomputable def fQ:aA:=(⟨_,by conv=>lhs;reduce;simp only[cT,simprocAttr,-List.reduceReplicate]⟩:CO 171).1
def fR:List aO:=[(.tmp 8)]
theorem xk:MT 171 4 fR fQ:=mM Go.Proofs.Tryz.func171 (by kernel_rfl) (by kernel_rfl) (by kernel_rfl)
noncomputable def iT:aA:=(⟨_,by conv=>lhs;reduce;simp only[cT,simprocAttr,-List.reduceReplicate]⟩:CO 172).1
def iU:List aO:=[]
theorem HF:MT 172 3 iU iT:=mM Go.Proofs.Tryz.func172 (by kernel_rfl) (by kernel_rfl) (by kernel_rfl)
noncomputable def gG:aA:=(⟨_,by conv=>lhs;reduce;simp only[cT,simprocAttr,-List.reduceReplicate]⟩:CO 173).1
def gH:List aO:=[(.tmp 4)]
theorem Dx:MT 173 2 gH gG:=mM Go.Proofs.Tryz.func173 (by kernel_rfl) (by kernel_rfl) (by kernel_rfl)
noncomputable def qv:aA:=(⟨_,by conv=>lhs;reduce;simp only[cT,simprocAttr,-List.reduceReplicate]⟩:CO 174).1
def qw:List aO:=[(.cell 6 S26),(.tmp 7)]
theorem An:MT 174 3 qw qv:=mM Go.Proofs.Tryz.func174 (by kernel_rfl) (by kernel_rfl) (by kernel_rfl)
noncomputable def xn:aA:=(⟨_,by conv=>lhs;reduce;simp only[cT,simprocAttr,-List.reduceReplicate]⟩:CO 175).1
def xp:List aO:=[(.cell 4 (.ar 32 L8)),(.tmp 5)]
theorem HG:MT 175 2 xp xn:=mM Go.Proofs.Tryz.func175 (by kernel_rfl) (by kernel_rfl) (by kernel_rfl)
noncomputable def qx:aA:=(⟨_,by conv=>lhs;reduce;simp only[cT,simprocAttr,-List.reduceReplicate]⟩:CO 176).1
def qy:List aO:=[(.cell 2 (.ar 32 L8))]
theorem Ao:MT 176 1 qy qx:=mM Go.Proofs.Tryz.func176 (by kernel_rfl) (by kernel_rfl) (by kernel_rfl)
noncomputable def iV:aA:=(⟨_,by conv=>lhs;reduce;simp only[cT,simprocAttr,-List.reduceReplicate]⟩:CO 177).1
def iW:List aO:=[(.tmp 8)]
theorem Dy:MT 177 4 iW iV:=mM Go.Proofs.Tryz.func177 (by kernel_rfl) (by kernel_rfl) (by kernel_rfl)
noncomputable def gq:aA:=(⟨_,by conv=>lhs;reduce;simp only[cT,simprocAttr,-List.reduceReplicate]⟩:CO 178).1
def gu:List aO:=[(.tmp 10)]
theorem yO:MT 178 5 gu gq:=mM Go.Proofs.Tryz.func178 (by kernel_rfl) (by kernel_rfl) (by kernel_rfl)
noncomputable def ir:aA:=(⟨_,by conv=>lhs;reduce;simp only[cT,simprocAttr,-List.reduceReplicate]⟩:CO 179).1
def iu:List aO:=[(.tmp 4)]
theorem BH:MT 179 2 iu ir:=mM Go.Proofs.Tryz.func179 (by kernel_rfl) (by kernel_rfl) (by kernel_rfl)
noncomputable def iv:aA:=(⟨_,by conv=>lhs;reduce;simp only[cT,simprocAttr,-List.reduceReplicate]⟩:CO 180).1
def iw:List aO:=[]
theorem BI:MT 180 1 iw iv:=mM Go.Proofs.Tryz.func180 (by kernel_rfl) (by kernel_rfl) (by kernel_rfl)
noncomputable def jm:aA:=(⟨_,by conv=>lhs;reduce;simp only[cT,simprocAttr,-List.reduceReplicate]⟩:CO 181).1
def jn:List aO:=[]
theorem Fv:MT 181 1 jn jm:=mM Go.Proofs.Tryz.func181 (by kernel_rfl) (by kernel_rfl) (by kernel_rfl)
noncomputable def gZ:aA:=(⟨_,by conv=>lhs;reduce;simp only[cT,simprocAttr,-List.reduceReplicate]⟩:CO 182).1
def hU:List aO:=[(.cell 2 S6),(.tmp 3),(.tmp 4),(.tmp 5)]
theorem Fw:MT 182 1 hU gZ:=mM Go.Proofs.Tryz.func182 (by kernel_rfl) (by kernel_rfl) (by kernel_rfl)
def gB:aA:=(.seq (.region false [ji 2 (.mv (.const (it 0)))]) (.seq (.region false [jv 3 0,⟨some 4,.ue (.const (.string ⟨#[0,1,1,2,1,2,2,3,1,2,2,3,2,3,3,4,1,2,2,3,2,3,3,4,2,3,3,4,3,4,4,5,1,2,2,3,2,3,3,4,2,3,3,4,3,4,4,5,2,3,3,4,3,4,4,5,3,4,4,5,4,5,5,6,1,2,2,3,2,3,3,4,2,3,3,4,3,4,4,5,2,3,3,4,3,4,4,5,3,4,4,5,4,5,5,6,2,3,3,4,3,4,4,5,3,4,4,5,4,5,5,6,3,4,4,5,4,5,5,6,4,5,5,6,5,6,6,7,1,2,2,3,2,3,3,4,2,3,3,4,3,4,4,5,2,3,3,4,3,4,4,5,3,4,4,5,4,5,5,6,2,3,3,4,3,4,4,5,3,4,4,5,4,5,5,6,3,4,4,5,4,5,5,6,4,5,5,6,5,6,6,7,2,3,3,4,3,4,4,5,3,4,4,5,4,5,5,6,3,4,4,5,4,5,5,6,4,5,5,6,5,6,6,7,3,4,4,5,4,5,5,6,4,5,5,6,5,6,6,7,4,5,5,6,5,6,6,7,5,6,6,7,6,7,7,8]⟩)) (.tmp 3),none⟩,ji 5 (.conv .i64 (.tmp 4)),jv 2 5]) .ret))
def mW:List aO:=[(.tmp 2)]
theorem uF:MT 183 1 mW gB:=mM Go.Proofs.Tryz.func183 (by kernel_rfl) (by kernel_rfl) (by kernel_rfl)
noncomputable def EJ:aA:=(⟨_,by conv=>lhs;reduce;simp only[cT,simprocAttr,-List.reduceReplicate]⟩:CO 184).1
def EK:List aO:=[(.cell 4 (.ar 8 dk))]
theorem Od:MT 184 2 EK EJ:=mM Go.Proofs.Tryz.func184 (by kernel_rfl) (by kernel_rfl) (by kernel_rfl)
noncomputable def BJ:aA:=(⟨_,by conv=>lhs;reduce;simp only[cT,simprocAttr,-List.reduceReplicate]⟩:CO 185).1
def BK:List aO:=[(.cell 2 (.ar 32 L8))]
theorem LJ:MT 185 1 BK BJ:=mM Go.Proofs.Tryz.func185 (by kernel_rfl) (by kernel_rfl) (by kernel_rfl)
noncomputable def Kc:aA:=(⟨_,by conv=>lhs;reduce;simp only[cT,simprocAttr,-List.reduceReplicate]⟩:CO 186).1
def Kd:List aO:=[(.tmp 2)]
theorem VH:MT 186 1 Kd Kc:=mM Go.Proofs.Tryz.func186 (by kernel_rfl) (by kernel_rfl) (by kernel_rfl)
noncomputable def rL:aA:=(⟨_,by conv=>lhs;reduce;simp only[cT,simprocAttr,-List.reduceReplicate]⟩:CO 188).1
def rM:List aO:=[(.tmp 4),(.tmp 5)]
theorem BL:MT 188 2 rM rL:=mM Go.Proofs.Tryz.func188 (by kernel_rfl) (by kernel_rfl) (by kernel_rfl)
noncomputable def qz:aA:=(⟨_,by conv=>lhs;reduce;simp only[cT,simprocAttr,-List.reduceReplicate]⟩:CO 189).1
def qA:List aO:=[(.tmp 4)]
theorem Ap:MT 189 2 qA qz:=mM Go.Proofs.Tryz.func189 (by kernel_rfl) (by kernel_rfl) (by kernel_rfl)
noncomputable def fm:aA:=(⟨_,by conv=>lhs;reduce;simp only[cT,simprocAttr,-List.reduceReplicate]⟩:CO 190).1
def fo:List aO:=[(.tmp 10),(.tmp 11),(.tmp 12)]
theorem vS:MT 190 5 fo fm:=mM Go.Proofs.Tryz.func190 (by kernel_rfl) (by kernel_rfl) (by kernel_rfl)
noncomputable def iK:aA:=(⟨_,by conv=>lhs;reduce;simp only[cT,simprocAttr,-List.reduceReplicate]⟩:CO 192).1
def iL:List aO:=[(.tmp 4)]
theorem yP:MT 192 2 iL iK:=mM Go.Proofs.Tryz.func192 (by kernel_rfl) (by kernel_rfl) (by kernel_rfl)
noncomputable def BM:aA:=(⟨_,by conv=>lhs;reduce;simp only[cT,simprocAttr,-List.reduceReplicate]⟩:CO 193).1
def BN:List aO:=[(.tmp 2)]
theorem LK:MT 193 1 BN BM:=mM Go.Proofs.Tryz.func193 (by kernel_rfl) (by kernel_rfl) (by kernel_rfl)
noncomputable def Oe:aA:=(⟨_,by conv=>lhs;reduce;simp only[cT,simprocAttr,-List.reduceReplicate]⟩:CO 194).1
def Of:List aO:=[(.tmp 2),(.tmp 3)]
theorem Zh:MT 194 1 Of Oe:=mM Go.Proofs.Tryz.func194 (by kernel_rfl) (by kernel_rfl) (by kernel_rfl)
noncomputable def EL:aA:=(⟨_,by conv=>lhs;reduce;simp only[cT,simprocAttr,-List.reduceReplicate]⟩:CO 195).1
def EM:List aO:=[(.tmp 2)]
theorem Og:MT 195 1 EM EL:=mM Go.Proofs.Tryz.func195 (by kernel_rfl) (by kernel_rfl) (by kernel_rfl)
noncomputable def fy:aA:=(⟨_,by conv=>lhs;reduce;simp only[cT,simprocAttr,-List.reduceReplicate]⟩:CO 196).1
def fz:List aO:=[(.tmp 4)]
theorem Dz:MT 196 2 fz fy:=mM Go.Proofs.Tryz.func196 (by kernel_rfl) (by kernel_rfl) (by kernel_rfl)
noncomputable def iX:aA:=(⟨_,by conv=>lhs;reduce;simp only[cT,simprocAttr,-List.reduceReplicate]⟩:CO 197).1
def iY:List aO:=[(.tmp 4),(.tmp 5)]
theorem DA:MT 197 2 iY iX:=mM Go.Proofs.Tryz.func197 (by kernel_rfl) (by kernel_rfl) (by kernel_rfl)
noncomputable def BO:aA:=(⟨_,by conv=>lhs;reduce;simp only[cT,simprocAttr,-List.reduceReplicate]⟩:CO 198).1
def BP:List aO:=[(.cell 6 (.ar 32 L8))]
theorem LL:MT 198 3 BP BO:=mM Go.Proofs.Tryz.func198 (by kernel_rfl) (by kernel_rfl) (by kernel_rfl)
noncomputable def ix:aA:=(⟨_,by conv=>lhs;reduce;simp only[cT,simprocAttr,-List.reduceReplicate]⟩:CO 199).1
def iy:List aO:=[(.tmp 4)]
theorem BQ:MT 199 2 iy ix:=mM Go.Proofs.Tryz.func199 (by kernel_rfl) (by kernel_rfl) (by kernel_rfl)
noncomputable def fU:aA:=(⟨_,by conv=>lhs;reduce;simp only[cT,simprocAttr,-List.reduceReplicate]⟩:CO 200).1
def fV:List aO:=[(.tmp 4)]
theorem BR:MT 200 2 fV fU:=mM Go.Proofs.Tryz.func200 (by kernel_rfl) (by kernel_rfl) (by kernel_rfl)
noncomputable def tD:aA:=(⟨_,by conv=>lhs;reduce;simp only[cT,simprocAttr,-List.reduceReplicate]⟩:CO 201).1
def tE:List aO:=[(.cell 2 S6),(.tmp 3)]
theorem DB:MT 201 1 tE tD:=mM Go.Proofs.Tryz.func201 (by kernel_rfl) (by kernel_rfl) (by kernel_rfl)
noncomputable def BS:aA:=(⟨_,by conv=>lhs;reduce;simp only[cT,simprocAttr,-List.reduceReplicate]⟩:CO 202).1
def BT:List aO:=[(.cell 2 (.ar 64 dk))]
theorem LM:MT 202 1 BT BS:=mM Go.Proofs.Tryz.func202 (by kernel_rfl) (by kernel_rfl) (by kernel_rfl)
noncomputable def lH:aA:=(⟨_,by conv=>lhs;reduce;simp only[cT,simprocAttr,-List.reduceReplicate]⟩:CO 203).1
def lI:List aO:=[(.tmp 4)]
theorem sx:MT 203 2 lI lH:=mM Go.Proofs.Tryz.func203 (by kernel_rfl) (by kernel_rfl) (by kernel_rfl)
noncomputable def zn:aA:=(⟨_,by conv=>lhs;reduce;simp only[cT,simprocAttr,-List.reduceReplicate]⟩:CO 204).1
def zo:List aO:=[(.tmp 2),(.tmp 3),(.tmp 4)]
theorem Jj:MT 204 1 zo zn:=mM Go.Proofs.Tryz.func204 (by kernel_rfl) (by kernel_rfl) (by kernel_rfl)
noncomputable def cJ:aA:=(⟨_,by conv=>lhs;reduce;simp only[cT,simprocAttr,-List.reduceReplicate]⟩:CO 205).1
def cK:List aO:=[(.tmp 4)]
theorem sy:MT 205 2 cK cJ:=mM Go.Proofs.Tryz.func205 (by kernel_rfl) (by kernel_rfl) (by kernel_rfl)
noncomputable def Ke:aA:=(⟨_,by conv=>lhs;reduce;simp only[cT,simprocAttr,-List.reduceReplicate]⟩:CO 206).1
def Kf:List aO:=[(.cell 2 S34)]
theorem VI:MT 206 1 Kf Ke:=mM Go.Proofs.Tryz.func206 (by kernel_rfl) (by kernel_rfl) (by kernel_rfl)
noncomputable def xq:aA:=(⟨_,by conv=>lhs;reduce;simp only[cT,simprocAttr,-List.reduceReplicate]⟩:CO 207).1
def xu:List aO:=[(.cell 4 S34)]
theorem HH:MT 207 2 xu xq:=mM Go.Proofs.Tryz.func207 (by kernel_rfl) (by kernel_rfl) (by kernel_rfl)
noncomputable def Kg:aA:=(⟨_,by conv=>lhs;reduce;simp only[cT,simprocAttr,-List.reduceReplicate]⟩:CO 208).1
def Kh:List aO:=[(.tmp 2)]
theorem VJ:MT 208 1 Kh Kg:=mM Go.Proofs.Tryz.func208 (by kernel_rfl) (by kernel_rfl) (by kernel_rfl)
noncomputable def zp:aA:=(⟨_,by conv=>lhs;reduce;simp only[cT,simprocAttr,-List.reduceReplicate]⟩:CO 209).1
def zq:List aO:=[(.cell 2 (.ar 32 L8))]
theorem Jk:MT 209 1 zq zp:=mM Go.Proofs.Tryz.func209 (by kernel_rfl) (by kernel_rfl) (by kernel_rfl)
noncomputable def rO:aA:=(⟨_,by conv=>lhs;reduce;simp only[cT,simprocAttr,-List.reduceReplicate]⟩:CO 210).1
def rP:List aO:=[(.tmp 4)]
theorem BU:MT 210 2 rP rO:=mM Go.Proofs.Tryz.func210 (by kernel_rfl) (by kernel_rfl) (by kernel_rfl)
noncomputable def xv:aA:=(⟨_,by conv=>lhs;reduce;simp only[cT,simprocAttr,-List.reduceReplicate]⟩:CO 211).1
def xy:List aO:=[(.tmp 2)]
theorem HI:MT 211 1 xy xv:=mM Go.Proofs.Tryz.func211 (by kernel_rfl) (by kernel_rfl) (by kernel_rfl)
noncomputable def HJ:aA:=(⟨_,by conv=>lhs;reduce;simp only[cT,simprocAttr,-List.reduceReplicate]⟩:CO 212).1
def HK:List aO:=[(.tmp 2)]
theorem Q5:MT 212 1 HK HJ:=mM Go.Proofs.Tryz.func212 (by kernel_rfl) (by kernel_rfl) (by kernel_rfl)
end Go.Am.F
namespace Go.Am.F
set_option maxRecDepth 100000
set_option maxHeartbeats 0
noncomputable def nI:aA:=(⟨_,by conv=>lhs;reduce;simp only[cT,simprocAttr,-List.reduceReplicate]⟩:CO 213).1
def nK:List aO:=[(.tmp 2)]
theorem vT:MT 213 1 nK nI:=mM Go.Proofs.Tryz.func213 (by kernel_rfl) (by kernel_rfl) (by kernel_rfl)
noncomputable def zt:aA:=(⟨_,by conv=>lhs;reduce;simp only[cT,simprocAttr,-List.reduceReplicate]⟩:CO 214).1
def zu:List aO:=[(.tmp 2),(.tmp 3)]
theorem Jl:MT 214 1 zu zt:=mM Go.Proofs.Tryz.func214 (by kernel_rfl) (by kernel_rfl) (by kernel_rfl)
noncomputable def qB:aA:=(⟨_,by conv=>lhs;reduce;simp only[cT,simprocAttr,-List.reduceReplicate]⟩:CO 215).1
def qC:List aO:=[(.tmp 4)]
theorem Aq:MT 215 2 qC qB:=mM Go.Proofs.Tryz.func215 (by kernel_rfl) (by kernel_rfl) (by kernel_rfl)
def EN:aA:=(.seq (.region false [⟨some 6,.mv (.const (.string ⟨#[]⟩)),none⟩]) (.seq (.region false [ji 7 (.call 220 []),jv 8 0,jv 9 1,jv 10 2,ji 11 (.build sr [(.raw (it 0)),(.raw (it 0)),(.raw (it 0))] [(0,.tmp 8),(1,.tmp 9),(2,.tmp 10)]),⟨some 12,.M9 sr y5 false (.agg y5 [(.raw (.string ⟨#[]⟩))]) (.tmp 7) (.tmp 11),none⟩,ji 13 (.field y5 (.tmp 12) 0),jv 6 13]) .ret))
def EO:List aO:=[(.tmp 6)]
theorem Oh:MT 216 3 EO EN:=mM Go.Proofs.Tryz.func216 (by kernel_rfl) (by kernel_rfl) (by kernel_rfl)
noncomputable def nL:aA:=(⟨_,by conv=>lhs;reduce;simp only[cT,simprocAttr,-List.reduceReplicate]⟩:CO 217).1
def nM:List aO:=[(.tmp 2)]
theorem vU:MT 217 1 nM nL:=mM Go.Proofs.Tryz.func217 (by kernel_rfl) (by kernel_rfl) (by kernel_rfl)
noncomputable def Ki:aA:=(⟨_,by conv=>lhs;reduce;simp only[cT,simprocAttr,-List.reduceReplicate]⟩:CO 218).1
def Kj:List aO:=[(.tmp 4)]
theorem VK:MT 218 2 Kj Ki:=mM Go.Proofs.Tryz.func218 (by kernel_rfl) (by kernel_rfl) (by kernel_rfl)
noncomputable def vE:aA:=(⟨_,by conv=>lhs;reduce;simp only[cT,simprocAttr,-List.reduceReplicate]⟩:CO 219).1
def vF:List aO:=[(.tmp 4)]
theorem Fx:MT 219 2 vF vE:=mM Go.Proofs.Tryz.func219 (by kernel_rfl) (by kernel_rfl) (by kernel_rfl)
def mX:aA:=(.seq (.region false [ji 0 (.mv (.const (.map none)))]) (.seq (.region false [ji 9 (.mkm sr y5),jv 1 9]) (.seq (.seq (.region false [ji 2 (.mv (.const (it 1)))]) (.block 0 (.loop (.seq (.seq (.region false [jv 10 2,ji 11 (.bin .leq (.tmp 10) (.const (it 5)))]) (.cond (.tmp 11) .skip (.exit 0))) (.seq (.block 1 (.region false [jv 14 1,jv 15 2,ji 16 (.build sr [(.raw (it 0)),(.raw (it 0)),(.raw (it 0))] [(0,.const (it 0)),(1,.const (it 0)),(2,.tmp 15)]),⟨some 17,.build y5 [(.raw (.string ⟨#[]⟩))] [(0,.const (.string ⟨#[114,119]⟩))],none⟩,⟨none,.pU sr y5 (.tmp 14) (.tmp 16) (.tmp 17),none⟩])) (.region false [jv 12 2,ji 13 (.bin .add (.tmp 12) (.const (it 1))),jv 2 13])))))) (.seq (.seq (.region false [ji 18 (.mv (.const (it 0)))]) (.block 2 (.loop (.seq (.region false [ji 19 (.bin .lss (.tmp 18) (.const (it 3)))]) (.seq (.cond (.tmp 19) .skip (.exit 2)) (.seq (.block 3 (.seq (.region false [jv 20 18,jv 3 20]) (.seq (.region false [jv 21 1,jv 22 3,ji 23 (.build sr [(.raw (it 0)),(.raw (it 0)),(.raw (it 0))] [(0,.const (it 2)),(1,.tmp 22),(2,.const (it 1))]),⟨some 24,.build y5 [(.raw (.string ⟨#[]⟩))] [(0,.const (.string ⟨#[114]⟩))],none⟩,⟨none,.pU sr y5 (.tmp 21) (.tmp 23) (.tmp 24),none⟩]) (.seq (.region false [jv 25 1,jv 26 3,ji 27 (.build sr [(.raw (it 0)),(.raw (it 0)),(.raw (it 0))] [(0,.const (it 2)),(1,.tmp 26),(2,.const (it 2))]),⟨some 28,.build y5 [(.raw (.string ⟨#[]⟩))] [(0,.const (.string ⟨#[114,119]⟩))],none⟩,⟨none,.pU sr y5 (.tmp 25) (.tmp 27) (.tmp 28),none⟩]) (.seq (.region false [jv 29 1,jv 30 3,ji 31 (.build sr [(.raw (it 0)),(.raw (it 0)),(.raw (it 0))] [(0,.const (it 2)),(1,.tmp 30),(2,.const (it 3))]),⟨some 32,.build y5 [(.raw (.string ⟨#[]⟩))] [(0,.const (.string ⟨#[114]⟩))],none⟩,⟨none,.pU sr y5 (.tmp 29) (.tmp 31) (.tmp 32),none⟩]) (.region false [jv 33 1,jv 34 3,ji 35 (.build sr [(.raw (it 0)),(.raw (it 0)),(.raw (it 0))] [(0,.const (it 3)),(1,.tmp 34),(2,.const (it 4))]),⟨some 36,.build y5 [(.raw (.string ⟨#[]⟩))] [(0,.const (.string ⟨#[114,119]⟩))],none⟩,⟨none,.pU sr y5 (.tmp 33) (.tmp 35) (.tmp 36),none⟩])))))) (.region false [ji 37 (.bin .add (.tmp 18) (.const (it 1))),jv 18 37]))))))) (.seq (.region false [jv 38 1,ji 39 (.build sr [(.raw (it 0)),(.raw (it 0)),(.raw (it 0))] [(0,.const (it 2)),(1,.const (it 0)),(2,.const (it 1))]),⟨some 40,.build y5 [(.raw (.string ⟨#[]⟩))] [(0,.const (.string ⟨#[114,119]⟩))],none⟩,⟨none,.pU sr y5 (.tmp 38) (.tmp 39) (.tmp 40),none⟩]) (.seq (.seq (.region false [ji 4 (.mv (.const (it 1)))]) (.block 4 (.loop (.seq (.seq (.region false [jv 41 4,ji 42 (.bin .lss (.tmp 41) (.const (it 3)))]) (.cond (.tmp 42) .skip (.exit 4))) (.seq (.block 5 (.seq (.region false [jv 45 1,jv 46 4,ji 47 (.build sr [(.raw (it 0)),(.raw (it 0)),(.raw (it 0))] [(0,.const (it 1)),(1,.tmp 46),(2,.const (it 1))]),⟨some 48,.build y5 [(.raw (.string ⟨#[]⟩))] [(0,.const (.string ⟨#[114,120]⟩))],none⟩,⟨none,.pU sr y5 (.tmp 45) (.tmp 47) (.tmp 48),none⟩]) (.seq (.region false [jv 49 1,jv 50 4,ji 51 (.build sr [(.raw (it 0)),(.raw (it 0)),(.raw (it 0))] [(0,.const (it 1)),(1,.tmp 50),(2,.const (it 2))]),⟨some 52,.build y5 [(.raw (.string ⟨#[]⟩))] [(0,.const (.string ⟨#[114,119]⟩))],none⟩,⟨none,.pU sr y5 (.tmp 49) (.tmp 51) (.tmp 52),none⟩]) (.seq (.region false [jv 53 1,jv 54 4,ji 55 (.build sr [(.raw (it 0)),(.raw (it 0)),(.raw (it 0))] [(0,.const (it 1)),(1,.tmp 54),(2,.const (it 3))]),⟨some 56,.build y5 [(.raw (.string ⟨#[]⟩))] [(0,.const (.string ⟨#[114]⟩))],none⟩,⟨none,.pU sr y5 (.tmp 53) (.tmp 55) (.tmp 56),none⟩]) (.seq (.region false [jv 57 1,jv 58 4,ji 59 (.build sr [(.raw (it 0)),(.raw (it 0)),(.raw (it 0))] [(0,.const (it 1)),(1,.tmp 58),(2,.const (it 4))]),⟨some 60,.build y5 [(.raw (.string ⟨#[]⟩))] [(0,.const (.string ⟨#[114,119]⟩))],none⟩,⟨none,.pU sr y5 (.tmp 57) (.tmp 59) (.tmp 60),none⟩]) (.region false [jv 61 1,jv 62 4,ji 63 (.build sr [(.raw (it 0)),(.raw (it 0)),(.raw (it 0))] [(0,.const (it 1)),(1,.tmp 62),(2,.const (it 5))]),⟨some 64,.build y5 [(.raw (.string ⟨#[]⟩))] [(0,.const (.string ⟨#[114]⟩))],none⟩,⟨none,.pU sr y5 (.tmp 61) (.tmp 63) (.tmp 64),none⟩])))))) (.region false [jv 43 4,ji 44 (.bin .add (.tmp 43) (.const (it 1))),jv 4 44])))))) (.seq (.region false [jv 65 1,ji 66 (.build sr [(.raw (it 0)),(.raw (it 0)),(.raw (it 0))] [(0,.const (it 1)),(1,.const (it 2)),(2,.const (it 1))]),⟨some 67,.build y5 [(.raw (.string ⟨#[]⟩))] [(0,.const (.string ⟨#[114,119,120]⟩))],none⟩,⟨none,.pU sr y5 (.tmp 65) (.tmp 66) (.tmp 67),none⟩]) (.seq (.seq (.region false [ji 68 (.cP LI 2 (.raw (it 0)) [(0,.const (it 1)),(1,.const (it 2))]),ji 69 (.len (.tmp 68)),ji 70 (.mv (.const (it 0)))]) (.block 6 (.loop (.seq (.region false [ji 71 (.bin .lss (.tmp 70) (.tmp 69))]) (.seq (.cond (.tmp 71) .skip (.exit 6)) (.seq (.block 7 (.seq (.region false [ji 72 (.eO LI (.tmp 68) (.tmp 70)),ji 73 (.load LI (.tmp 72)),jv 6 73]) (.region false [jv 74 1,jv 75 6,ji 76 (.build sr [(.raw (it 0)),(.raw (it 0)),(.raw (it 0))] [(0,.const (it 3)),(1,.const (it 2)),(2,.tmp 75)]),⟨some 77,.build y5 [(.raw (.string ⟨#[]⟩))] [(0,.const (.string ⟨#[114,119]⟩))],none⟩,⟨none,.pU sr y5 (.tmp 74) (.tmp 76) (.tmp 77),none⟩]))) (.region false [ji 78 (.bin .add (.tmp 70) (.const (it 1))),jv 70 78]))))))) (.seq (.seq (.region false [ji 79 (.cP LI 2 (.raw (it 0)) [(0,.const (it 3)),(1,.const (it 5))]),ji 80 (.len (.tmp 79)),ji 81 (.mv (.const (it 0)))]) (.block 8 (.loop (.seq (.region false [ji 82 (.bin .lss (.tmp 81) (.tmp 80))]) (.seq (.cond (.tmp 82) .skip (.exit 8)) (.seq (.block 9 (.seq (.region false [ji 83 (.eO LI (.tmp 79) (.tmp 81)),ji 84 (.load LI (.tmp 83)),jv 8 84]) (.region false [jv 85 1,jv 86 8,ji 87 (.build sr [(.raw (it 0)),(.raw (it 0)),(.raw (it 0))] [(0,.const (it 3)),(1,.const (it 2)),(2,.tmp 86)]),⟨some 88,.build y5 [(.raw (.string ⟨#[]⟩))] [(0,.const (.string ⟨#[114]⟩))],none⟩,⟨none,.pU sr y5 (.tmp 85) (.tmp 87) (.tmp 88),none⟩]))) (.region false [ji 89 (.bin .add (.tmp 81) (.const (it 1))),jv 81 89]))))))) (.seq (.region false [jv 90 1,jv 0 90]) .ret))))))))))
def mY:List aO:=[(.tmp 0)]
theorem HM:MT 220 0 mY mX:=mM Go.Proofs.Tryz.func220 (by kernel_rfl) (by kernel_rfl) (by kernel_rfl)
noncomputable def jq:aA:=(⟨_,by conv=>lhs;reduce;simp only[cT,simprocAttr,-List.reduceReplicate]⟩:CO 221).1
def jt:List aO:=[(.tmp 4)]
theorem oX:MT 221 2 jt jq:=mM Go.Proofs.Tryz.func221 (by kernel_rfl) (by kernel_rfl) (by kernel_rfl)
noncomputable def iz:aA:=(⟨_,by conv=>lhs;reduce;simp only[cT,simprocAttr,-List.reduceReplicate]⟩:CO 222).1
def iA:List aO:=[(.tmp 4)]
theorem mZ:MT 222 2 iA iz:=mM Go.Proofs.Tryz.func222 (by kernel_rfl) (by kernel_rfl) (by kernel_rfl)
end Go.Am.F
namespace Go.Am
theorem Zi{α:Type}(rd:D->Option α)(pre:α->Bool)(out:α->D×Rows)(d:D):mc rd pre out [d] []=(rd d).bind λx=>bif pre x then some (out x)else none:=by
 simp only[mc];cases rd d<;>rfl
theorem Zj{α β:Type}(rd:D->Option α)(rd':D->Option β)(pre:α->β->Bool)(out:α->β->D×Rows)(d e:D):
  ux rd rd' pre out [d,e] []=(rd d).bind λx=>(rd' e).bind λy=>bif pre x y then some (out x y)else none:=by
 simp only[ux];cases rd d<;>cases rd' e<;>rfl
def I0{α β γ:Type}(rd:D->Option α)(rd':D->Option β)(Fy:D->Option γ)(pre:α->β->γ->Bool)(out:α->β->γ->D×Rows):Fn
 |[d,e,f],[]=>match rd d,rd' e,Fy f with
  |some x,some y,some z=>bif pre x y z then some (out x y z)else none
  | _,_,_=>none
 | _,_=>none
theorem fS{α β γ:Type}{rd:D->Option α}{rd':D->Option β}{Fy:D->Option γ}{pre:α->β->γ->Bool}{out:α->β->γ->D×Rows}{ds:List D}{rows:Rows}{r:D×Rows}(h:I0 rd rd' Fy pre out ds rows=some r):
  ∃d e f x y z,ds=[d,e,f]/\rows=[]/\rd d=some x/\rd' e=some y/\Fy f=some z/\pre x y z=true/\r=out x y z:=by
 unfold I0 at h
 split at h
 ·rename_i d e f
  split at h
  ·rename_i x y z hx hy hz
   cases hp:pre x y z with
   |false=>rw[hp]at h;cases h
   |true=>rw[hp]at h;cases h;exact⟨d,e,f,x,y,z,rfl,rfl,hx,hy,hz,hp,rfl⟩
  ·cases h
 ·cases h
theorem Ar{α β γ:Type}(rd:D->Option α)(rd':D->Option β)(Fy:D->Option γ)(pre:α->β->γ->Bool)(out:α->β->γ->D×Rows)(d e f:D):
  I0 rd rd' Fy pre out [d,e,f] []=(rd d).bind λx=>(rd' e).bind λy=>(Fy f).bind λz=>bif pre x y z then some (out x y z)else none:=by
 simp only[I0];cases rd d<;>cases rd' e<;>cases Fy f<;>rfl
theorem cv{P:Program}{G:Nat->Option D}{f:FuncId}{A:j9}{F:Fn}(hA:aP G P f A)
  (h:∀ds rows r,F ds rows=some r->rows=[]/\∃ds',aW Xq ds ds'/\A ds' [] (λd rows=>yE rows d r.1 r.2)):aP G P f (Fn.run F):=by
 intro ds rows K hr ρ w T args hrows lS yA hargs hG
 unfold Fn.run at hr
 obtain⟨r,hr,hk⟩:=ak hr
 obtain⟨rfl,ds',h1,h2⟩:=h ds rows r hr
 have Y5:∀r,ρ r=none:=λr=>lS r (by simp)
 have hargs':aW (VR ρ w T) ds' args.toList:=by
  refine⟨by rw[<-h1.len];exact hargs.len,λi x y hx hy=>?_⟩
  have hi:i<ds.length:=by rw[h1.len];exact cU hx
  have hd:=aaw hi
  exact(h1.at_ i _ x hd hx).vr (hargs.at_ i _ y hd hy)
 exact(hA ds' [] _ h2 ρ w T args hrows lS yA hargs' hG).mono λe w' hb=>Dc.Li Y5 hb λd rows hx=>⟨_,_,hx,hk⟩
theorem eB.nrm{d:D}{l:List (BitVec 8)}(h:eB d l):∃e,Xq d (.cD L8 (bs l) e):=by
 rcases h with⟨rfl,rfl⟩|⟨e,rfl⟩
 ·exact⟨true,.nil _ _⟩
 ·exact⟨e,.refl _⟩
theorem cy{d:D}{l:List (BitVec 8)}(h:dq d=some l):∃e,Xq d (.cD L8 (bs l) e):=(fx h).nrm
noncomputable def oG{α:Type}(s:Sh)(mk:α->D):D->Option (List α)
 | .raw (.slice none 0 0)=>some []
 | .cD t l _=>bif t==s then dC (bE mk) l else none
 | _=>none
theorem yf{α:Type}{s:Sh}{mk:α->D}{d:D}{l:List α}(h:oG s mk d=some l):∃e,Xq d (.cD s (l.map mk) e):=by
 unfold oG at h
 split at h
 ·cases h;exact⟨true,.nil _ _⟩
 ·rename_i t l0 e
  cases hb:(t==s)with
  |false=>rw[hb]at h;cases h
  | true =>
   rw[hb]at h
   have:t=s:=by simpa using hb
   subst this
   obtain⟨g1,g2⟩:=jT h
   have:l0=l.map mk:=by
    apply ac1
    ·simp[g1]
    ·intro i h1 h2
     have h3:i<l.length:=by omega
     have:=aF (g2 i _ _ (aaw h1) (aaw h3))
     simpa using this
   rw[this]
   exact⟨e,.refl _⟩
 ·cases h
theorem HN{α:Type}{s:Sh}{mk:α->D}(Y6:∀x y,mk x=mk y->x=y)(l:List α)(e:Bool):oG s mk (.cD s (l.map mk) e)=some l:=by
 simp only[oG]
 rw[show(s==s)=true by simp,aaY]
 induction l with
 |nil=>rfl
 |cons x l ih=>simp only[abw,dC,bA Y6,ih]
theorem Q6(l:List (BitVec 8))(i:Nat)(x:BitVec 8):(bs l).set i (.raw (u8 x))=bs (l.set i x):=by simp[bs,acP]
theorem jd(l:List (BitVec 8)):(bs l).take l.length=bs l:=by rw[<-aB l,aa6]
theorem Zk(l:List (BitVec 8))(e:Bool)(i:Nat)(h:i<l.length)(rows:Rows)(k:D->Rows->Prop):oU L8 (i:Int) rows k (.cD L8 (bs l) e)=k (.b5 (.raw (u8 (l.getD i 0#8)))) rows:=by
 have:=gP (k:=k) (rows:=rows) (n:=(i:Int)) (.inr ⟨e,rfl⟩:eB (.cD L8 (bs l) e) l) (by omega)
 simpa using this
theorem bg{C:aX}{a:aA}{Q:fE->Env->Rows->Prop}(N:Nat)(I:Nat->Env->Rows->Prop)
  (Zl:∀i,i<N->∀env rows,I i env rows->∀R:Env->Rows->Prop,(∀env' aa,I (i+1) env' aa->R env' aa)->aw C a (Vv R Q) env rows)
  (hend:∀env rows,I N env rows->∀R:Env->Rows->Prop,aw C a (Vv R Q) env rows){env:Env}{rows:Rows}(h0:I 0 env rows):JZ C a Q env rows:=by
 refine s5 (λk env rows=>∃i,k=N-i/\i<=N/\I i env rows) ?_ N ⟨0,by simp,by omega,h0⟩
 rintro k env rows ⟨i,rfl,hi,hh⟩ R hR
 rcases aa1 i N with h|h
 ·exact Zl i h env rows hh R (λenv' aa h1=>hR (N-(i+1)) env' aa (by omega) ⟨i+1,rfl,by omega,h1⟩)
 ·have:i=N:=by omega
  subst this
  exact hend env rows hh R
theorem bx(R l:Rows):live (R++l) R.length=live l 0:=by
 simp only[live]
 rw[aaT (aaL _),acr]
theorem cg(R l:Rows)(k:Nat):live (R++l) (R.length+k)=live l k:=by
 simp only[live]
 rw[aaT (by omega)]
 simp
theorem Oi(R l:Rows)(x:Option Row):(R++l).set R.length x=R++l.set 0 x:=by rw[acp _ _ (aaL _)];simp
theorem Oj(R l:Rows)(k:Nat)(x:Option Row):(R++l).set (R.length+k) x=R++l.set k x:=by rw[acp _ _ (by omega)];simp
theorem aj{R:Rows}{r:Nat}{y:Row}(h:live R r=some y)(l:Rows):live (R++l) r=some y:=bG h
theorem cj(i:Nat)(h:i<9223372036854775807):wz ((i:Int)+1)=((i+1:Nat):Int):=by rw[be (by omega)];omega
end Go.Am
namespace Go.Am
set_option linter.defProp false
def ag:=(And.intro (And.intro (And.intro (And.intro (And.intro (And.intro @q_skip @YI) (And.intro @Vn (And.intro @q_draw1 @q_draw))) (And.intro (And.intro @q_tail @q_stab) (And.intro @q_st2 (And.intro @q_ta0 @q_ta1)))) (And.intro (And.intro (And.intro @q_drawf @q_stabF) (And.intro @q_intF (And.intro @q_tf0 @q_tf1))) (And.intro (And.intro @q_seq (And.intro @q_cond @q_block)) (And.intro @q_loop (And.intro @q_exit @q_ret))))) (And.intro (And.intro (And.intro (And.intro @q_fr @q_fn) (And.intro @q_sn (And.intro @q_sr @q_se))) (And.intro (And.intro @q_bn @q_br) (And.intro @q_be (And.intro @q_on @q_oc)))) (And.intro (And.intro (And.intro @q_og @q_ko) (And.intro @q_lk (And.intro @o_mv @o_pick))) (And.intro (And.intro @o_bin (And.intro @o_eqa @o_un)) (And.intro @o_conv (And.intro @o_alloc @o_box)))))) (And.intro (And.intro (And.intro (And.intro (And.intro @o_build @YJ) (And.intro @o_load (And.intro @o_store @o_nilc))) (And.intro (And.intro @o_faddr @o_field) (And.intro @YK (And.intro @YL @o_index)))) (And.intro (And.intro (And.intro @YM @YN) (And.intro @o_slice (And.intro @o_mks @o_ext))) (And.intro (And.intro @o_len (And.intro @YO @YP)) (And.intro @Vo (And.intro @o_copy @YQ))))) (And.intro (And.intro (And.intro (And.intro @o_b2s @o_s2b) (And.intro @o_call (And.intro @q_fns @q_fnn))) (And.intro (And.intro @o_callv @o_eqnil) (And.intro @o_eqsn (And.intro @o_s2a @o_frzb)))) (And.intro (And.intro (And.intro @o_mnz @o_mkm) (And.intro @o_mset (And.intro @o_mget @o_clr))) (And.intro (And.intro @o_mkf (And.intro @o_idxb @lp_s)) (And.intro @lp_n (And.intro @lp_r @lp_e)))))))
def ah:=(And.intro (And.intro (And.intro (And.intro (And.intro (And.intro (And.intro @q_st0 (And.intro @q_st1 @q_sf0)) (And.intro (And.intro @q_sf1 @q_sf2) (And.intro @q_sfm @q_sfl))) (And.intro (And.intro @q_sff (And.intro @q_qfn @q_qgl)) (And.intro (And.intro @q_a0 @q_a1) (And.intro @q_at @q_ac)))) (And.intro (And.intro (And.intro @n_raw (And.intro @n_ptr @n_sl)) (And.intro (And.intro @n_lst @q_r1) (And.intro @q_r0 @q_r2))) (And.intro (And.intro (And.intro @sl_sl @sl_lst) (And.intro @sl_nil @so_sl)) (And.intro (And.intro @so_lst @so_nil) (And.intro @el_sl @el_lst))))) (And.intro (And.intro (And.intro (And.intro @lv_0 (And.intro @lv_s @lv_new)) (And.intro (And.intro @g_row @g_nil) (And.intro @g_agg @s_row))) (And.intro (And.intro (And.intro @s_nil @s_agg) (And.intro @sub_0 @sub_s)) (And.intro (And.intro @sub_ar @a_nil) (And.intro @a_sl @most_eq)))) (And.intro (And.intro (And.intro @be (And.intro @q_bd @q_skl)) (And.intro (And.intro @q_sks @q_ct) (And.intro @q_cf @q_gtt))) (And.intro (And.intro (And.intro @q_gtf @q_gft) (And.intro @q_gff @q_gz)) (And.intro (And.intro @q_bs @q_et) (And.intro @q_ec @q_eg)))))) (And.intro (And.intro (And.intro (And.intro (And.intro @q_ps (And.intro @q_pn @q_es0)) (And.intro (And.intro @q_es1 @q_eo0) (And.intro @q_eo1 @eL_c))) (And.intro (And.intro @q_ixl (And.intro @q_ixs @mm_c)) (And.intro (And.intro @mf_n @mf_c) (And.intro @fold_it @q_frq)))) (And.intro (And.intro (And.intro @q_qfr (And.intro @q_qfq @q_ors)) (And.intro (And.intro @q_orn @q_qrn) (And.intro @nb_nn @nb_pn))) (And.intro (And.intro (And.intro @nb_cn @asIt_it) (And.intro @mr_mp @me_mp)) (And.intro (And.intro @mr_ft @q_pk) (And.intro @q_pkt @q_pkf))))) (And.intro (And.intro (And.intro (And.intro @q_f0 (And.intro @q_f1 @asI_it)) (And.intro (And.intro @asI_u8 @isSc_u8) (And.intro @asI_u32 @YS))) (And.intro (And.intro (And.intro @asI_u64 @YT) (And.intro @isSc_it @isSc_b)) (And.intro (And.intro @isSc_s @YU) (And.intro @YV @sh_beq)))) (And.intro (And.intro (And.intro @YW (And.intro @fits_sl @YX)) (And.intro (And.intro @fits_mp @Vp) (And.intro @cv_8_32 @cv_8_it))) (And.intro (And.intro (And.intro @cv_it_8 @YY) (And.intro @cv_32_8 @YZ)) (And.intro (And.intro @Y0 @Y1) (And.intro @cv_64_8 @Y2))))))) (And.intro (And.intro (And.intro (And.intro (And.intro (And.intro @Y3 (And.intro @ze_n @ze_c)) (And.intro (And.intro @b_sub8 @b_and8) (And.intro @b_or8 @b_xor8))) (And.intro (And.intro @Vq (And.intro @b_rem8 @b_eql8)) (And.intro (And.intro @b_neq8 @Vt) (And.intro @Vu @b_add32)))) (And.intro (And.intro (And.intro @b_sub32 (And.intro @b_mul32 @b_and32)) (And.intro (And.intro @b_or32 @b_xor32) (And.intro @Qw @b_rem32))) (And.intro (And.intro (And.intro @b_eql32 @b_neq32) (And.intro @b_lss32 @b_leq32)) (And.intro (And.intro @b_gtr32 @b_geq32) (And.intro @Qx @Qy))))) (And.intro (And.intro (And.intro (And.intro @Qz (And.intro @QA @u_not32)) (And.intro (And.intro @b_add64 @b_sub64) (And.intro @b_mul64 @b_and64))) (And.intro (And.intro (And.intro @b_rem64 @b_gtr64) (And.intro @b_geq64 @QC)) (And.intro (And.intro @QD @QE) (And.intro @b_addi @b_subi)))) (And.intro (And.intro (And.intro @b_muli (And.intro @b_quoi @b_remi)) (And.intro (And.intro @b_eqli @b_lssi) (And.intro @b_leqi @b_gtri))) (And.intro (And.intro (And.intro @b_geqi @b_neqi) (And.intro @b_eqls @u_notb)) (And.intro (And.intro @aaK @aaY.{1}) (And.intro @aaR.{1} @abf.{0,0})))))) (And.intro (And.intro (And.intro (And.intro (And.intro @acf.{0,0} (And.intro @adj.{0} @Option.getD_none.{0})) (And.intro (And.intro @aa9 @aci) (And.intro @aec.{1} @aba.{0}))) (And.intro (And.intro @aa0.{0} (And.intro @aax.{0} @abb.{0})) (And.intro (And.intro @aaC.{0,0} @List.set_cons_zero.{0}) (And.intro @List.set_cons_succ.{0} @ad3.{0})))) (And.intro (And.intro (And.intro @List.replicate_zero.{0} (And.intro @abD.{0} @ab7.{0})) (And.intro (And.intro @abr.{0} @acI.{0}) (And.intro @q_rn @q_rr))) (And.intro (And.intro (And.intro @q_re @abw.{0,0}) (And.intro @adO.{0,0} @Int.ofNat_zero)) (And.intro (And.intro @abn @abC) (And.intro @ab6.{1} @abS.{0}))))) (And.intro (And.intro (And.intro (And.intro @forall_eq'.{1} (And.intro @abu.{0} @List.take_succ_cons.{0})) (And.intro (And.intro @acq.{0} @List.drop_succ_cons.{0}) (And.intro @List.take_nil.{0} @List.drop_nil.{0}))) (And.intro (And.intro (And.intro @ne_eq.{1} @aea) (And.intro @BitVec.ofNat_eq_ofNat @abO)) (And.intro (And.intro @adu @acG) (And.intro @acz @ace)))) (And.intro (And.intro (And.intro @Bool.or_true (And.intro @Bool.or_false @adN)) (And.intro (And.intro @acA @Bool.not_eq_true) (And.intro @Bool.not_eq_false @aaG))) (And.intro (And.intro (And.intro @aaH @acv) (And.intro @aeG @adH)) (And.intro (And.intro @aem @aey) (And.intro @Int.le_refl @aaL))))))))
def amC:=(And.intro (And.intro (And.intro (And.intro @mT @wH) (And.intro @YR @Zi)) (And.intro (And.intro @Zj @Ar) (And.intro @wJ @Lm))) (And.intro (And.intro (And.intro @gA @FP) (And.intro @oV @aB)) (And.intro (And.intro @jd @Option.bind_none.{0,0}) (And.intro @eK (And.intro @fH @Q6)))))
def aQ:=(And.intro (And.intro @bx (And.intro @cg @Oi)) (And.intro (And.intro @Oj @aaP.{0}) (And.intro @aa4.{0} @acN)))
end Go.Am

import Derived.Test.YtgcejocgnfkciaaGreatDoorKc13
namespace Go.Am.F
set_option maxRecDepth 100000
set_option maxHeartbeats 0
set_option linter.unusedVariables false
set_option linter.unusedSimpArgs false
noncomputable def bk:aB:=(⟨_,by conv=>lhs;reduce;simp only[cV,simprocAttr,-List.reduceReplicate]⟩:CO 127).1
def dS:List aU:=[]
theorem yx:MT 127 2 dS bk:=mM Go.Proofs.Tryz.func127 (by kernel_rfl) (by kernel_rfl) (by kernel_rfl)
noncomputable def pc:aB:=(⟨_,by conv=>lhs;reduce;simp only[cV,simprocAttr,-List.reduceReplicate]⟩:CO 128).1
def pd:List aU:=[(.tmp 0)]
theorem OJ:MT 128 0 pd pc:=mM Go.Proofs.Tryz.func128 (by kernel_rfl) (by kernel_rfl) (by kernel_rfl)
noncomputable def FB:aB:=(⟨_,by conv=>lhs;reduce;simp only[cV,simprocAttr,-List.reduceReplicate]⟩:CO 129).1
def FC:List aU:=[(.cell 0 S26)]
theorem OK:MT 129 0 FC FB:=mM Go.Proofs.Tryz.func129 (by kernel_rfl) (by kernel_rfl) (by kernel_rfl)
noncomputable def xD:aB:=(⟨_,by conv=>lhs;reduce;simp only[cV,simprocAttr,-List.reduceReplicate]⟩:CO 130).1
def xE:List aU:=[(.tmp 2)]
theorem Hh:MT 130 1 xE xD:=mM Go.Proofs.Tryz.func130 (by kernel_rfl) (by kernel_rfl) (by kernel_rfl)
noncomputable def ii:aB:=(⟨_,by conv=>lhs;reduce;simp only[cV,simprocAttr,-List.reduceReplicate]⟩:CO 131).1
def ij:List aU:=[(.cell 6 S6),(.tmp 7),(.tmp 8)]
theorem Bs:MT 131 3 ij ii:=mM Go.Proofs.Tryz.func131 (by kernel_rfl) (by kernel_rfl) (by kernel_rfl)
noncomputable def zV:aB:=(⟨_,by conv=>lhs;reduce;simp only[cV,simprocAttr,-List.reduceReplicate]⟩:CO 132).1
def zW:List aU:=[(.tmp 2)]
theorem JG:MT 132 1 zW zV:=mM Go.Proofs.Tryz.func132 (by kernel_rfl) (by kernel_rfl) (by kernel_rfl)
def gJ:aB:=(.seq (.region false [ji 3 (.mv (.const (.bool false)))]) (.seq (.region false [jv 4 0,ji 5 (.call 130 [.tmp 4]),jv 6 5,⟨some 7,.mv (.tmp 0),some (6,true)⟩,⟨some 8,.uJ 2 LI (.tmp 1) (.tmp 7),some (6,true)⟩,⟨some 9,.load LI (.tmp 8),some (6,true)⟩,⟨some 10,.bin .eql (.tmp 9) (.const (it 0)),some (6,true)⟩,ji 11 (.pick (.tmp 6) (.tmp 10) (.const (.bool false))),jv 3 11]) .ret))
def gK:List aU:=[(.tmp 3)]
def tX:aB:=(.seq (.region false [ji 5 (.box S1 (.tmp 1)),ji 6 (.box S1 (.tmp 2)),ji 8 (.alloc S9 (.agg S9 [(.raw (it 0)),(.agg S1 [(.raw (u32 0#32)),(.raw (it 0)),(.raw (it 0)),(.raw (it 0))]),(.raw (.bool false)),(.raw (.bool false)),(.raw (it 0))]))]) (.seq (.region true [jv 9 0,ji 10 (.load S1 (.tmp 5)),ji 11 (.load S1 (.tmp 5)),ji 12 (.load S1 (.tmp 6)),ji 13 (.ZT S1 true (.tmp 11) (.tmp 12)),jv 14 3,ji 15 (.build S9 [(.raw (it 0)),(.agg S1 [(.raw (u32 0#32)),(.raw (it 0)),(.raw (it 0)),(.raw (it 0))]),(.raw (.bool false)),(.raw (.bool false)),(.raw (it 0))] [(0,.tmp 9),(1,.tmp 10),(2,.tmp 13),(3,.tmp 14)]),⟨none,.store S9 (.tmp 8) (.tmp 15),none⟩]) .ret))
def tY:List aU:=[(.cell 8 S9)]
theorem Dz:MT 134 4 tY tX:=mM Go.Proofs.Tryz.func134 (by kernel_rfl) (by kernel_rfl) (by kernel_rfl)
noncomputable def L5:aB:=(⟨_,by conv=>lhs;reduce;simp only[cV,simprocAttr,-List.reduceReplicate]⟩:CO 135).1
def L6:List aU:=[(.tmp 4)]
theorem W8:MT 135 2 L6 L5:=mM Go.Proofs.Tryz.func135 (by kernel_rfl) (by kernel_rfl) (by kernel_rfl)
noncomputable def PH:aB:=(⟨_,by conv=>lhs;reduce;simp only[cV,simprocAttr,-List.reduceReplicate]⟩:CO 136).1
def PI:List aU:=[(.tmp 2)]
theorem ZM:MT 136 1 PI PH:=mM Go.Proofs.Tryz.func136 (by kernel_rfl) (by kernel_rfl) (by kernel_rfl)
noncomputable def FD:aB:=(⟨_,by conv=>lhs;reduce;simp only[cV,simprocAttr,-List.reduceReplicate]⟩:CO 142).1
def FE:List aU:=[(.cell 6 (.ar 32 L8)),(.tmp 7)]
theorem OL:MT 142 3 FE FD:=mM Go.Proofs.Tryz.func142 (by kernel_rfl) (by kernel_rfl) (by kernel_rfl)
noncomputable def FF:aB:=(⟨_,by conv=>lhs;reduce;simp only[cV,simprocAttr,-List.reduceReplicate]⟩:CO 143).1
def FG:List aU:=[(.cell 2 S29),(.tmp 3)]
theorem OM:MT 143 1 FG FF:=mM Go.Proofs.Tryz.func143 (by kernel_rfl) (by kernel_rfl) (by kernel_rfl)
noncomputable def xF:aB:=(⟨_,by conv=>lhs;reduce;simp only[cV,simprocAttr,-List.reduceReplicate]⟩:CO 144).1
def xG:List aU:=[(.tmp 2),(.tmp 3),(.tmp 4),(.tmp 5),(.tmp 6)]
theorem Hi:MT 144 1 xG xF:=mM Go.Proofs.Tryz.func144 (by kernel_rfl) (by kernel_rfl) (by kernel_rfl)
noncomputable def jn:aB:=(⟨_,by conv=>lhs;reduce;simp only[cV,simprocAttr,-List.reduceReplicate]⟩:CO 145).1
def jq:List aU:=[(.tmp 4),(.tmp 5)]
theorem ON:MT 145 2 jq jn:=mM Go.Proofs.Tryz.func145 (by kernel_rfl) (by kernel_rfl) (by kernel_rfl)
noncomputable def H8:aB:=(⟨_,by conv=>lhs;reduce;simp only[cV,simprocAttr,-List.reduceReplicate]⟩:CO 146).1
def H9:List aU:=[(.tmp 2)]
theorem Tn:MT 146 1 H9 H8:=mM Go.Proofs.Tryz.func146 (by kernel_rfl) (by kernel_rfl) (by kernel_rfl)
noncomputable def Cx:aB:=(⟨_,by conv=>lhs;reduce;simp only[cV,simprocAttr,-List.reduceReplicate]⟩:CO 147).1
def Cy:List aU:=[(.tmp 2),(.cell 3 (.ar 32 L8)),(.tmp 4),(.tmp 5)]
theorem L7:MT 147 1 Cy Cx:=mM Go.Proofs.Tryz.func147 (by kernel_rfl) (by kernel_rfl) (by kernel_rfl)
noncomputable def Ia:aB:=(⟨_,by conv=>lhs;reduce;simp only[cV,simprocAttr,-List.reduceReplicate]⟩:CO 157).1
def Ib:List aU:=[(.cell 0 KM)]
theorem To:MT 157 0 Ib Ia:=mM Go.Proofs.Tryz.func157 (by kernel_rfl) (by kernel_rfl) (by kernel_rfl)
noncomputable def rS:aB:=(⟨_,by conv=>lhs;reduce;simp only[cV,simprocAttr,-List.reduceReplicate]⟩:CO 158).1
def rU:List aU:=[(.cell 4 KM)]
theorem Bu:MT 158 2 rU rS:=mM Go.Proofs.Tryz.func158 (by kernel_rfl) (by kernel_rfl) (by kernel_rfl)
noncomputable def tZ:aB:=(⟨_,by conv=>lhs;reduce;simp only[cV,simprocAttr,-List.reduceReplicate]⟩:CO 159).1
def ua:List aU:=[(.cell 2 (.ar 32 L8))]
theorem DA:MT 159 1 ua tZ:=mM Go.Proofs.Tryz.func159 (by kernel_rfl) (by kernel_rfl) (by kernel_rfl)
noncomputable def FH:aB:=(⟨_,by conv=>lhs;reduce;simp only[cV,simprocAttr,-List.reduceReplicate]⟩:CO 160).1
def FI:List aU:=[(.cell 8 (.ar 32 L8))]
theorem OO:MT 160 4 FI FH:=mM Go.Proofs.Tryz.func160 (by kernel_rfl) (by kernel_rfl) (by kernel_rfl)
noncomputable def Cz:aB:=(⟨_,by conv=>lhs;reduce;simp only[cV,simprocAttr,-List.reduceReplicate]⟩:CO 161).1
def CK:List aU:=[(.cell 2 KM)]
theorem L9:MT 161 1 CK Cz:=mM Go.Proofs.Tryz.func161 (by kernel_rfl) (by kernel_rfl) (by kernel_rfl)
noncomputable def Ic:aB:=(⟨_,by conv=>lhs;reduce;simp only[cV,simprocAttr,-List.reduceReplicate]⟩:CO 162).1
def Ie:List aU:=[(.tmp 2)]
theorem Tp:MT 162 1 Ie Ic:=mM Go.Proofs.Tryz.func162 (by kernel_rfl) (by kernel_rfl) (by kernel_rfl)
noncomputable def uc:aB:=(⟨_,by conv=>lhs;reduce;simp only[cV,simprocAttr,-List.reduceReplicate]⟩:CO 163).1
def ud:List aU:=[(.tmp 4),(.tmp 5)]
theorem DB:MT 163 2 ud uc:=mM Go.Proofs.Tryz.func163 (by kernel_rfl) (by kernel_rfl) (by kernel_rfl)
noncomputable def ik:aB:=(⟨_,by conv=>lhs;reduce;simp only[cV,simprocAttr,-List.reduceReplicate]⟩:CO 165).1
def iq:List aU:=[(.tmp 8)]
theorem Bv:MT 165 4 iq ik:=mM Go.Proofs.Tryz.func165 (by kernel_rfl) (by kernel_rfl) (by kernel_rfl)
noncomputable def FJ:aB:=(⟨_,by conv=>lhs;reduce;simp only[cV,simprocAttr,-List.reduceReplicate]⟩:CO 166).1
def FK:List aU:=[(.tmp 6)]
theorem OP:MT 166 3 FK FJ:=mM Go.Proofs.Tryz.func166 (by kernel_rfl) (by kernel_rfl) (by kernel_rfl)
noncomputable def FL:aB:=(⟨_,by conv=>lhs;reduce;simp only[cV,simprocAttr,-List.reduceReplicate]⟩:CO 167).1
def FM:List aU:=[(.tmp 2)]
theorem OQ:MT 167 1 FM FL:=mM Go.Proofs.Tryz.func167 (by kernel_rfl) (by kernel_rfl) (by kernel_rfl)
noncomputable def pe:aB:=(⟨_,by conv=>lhs;reduce;simp only[cV,simprocAttr,-List.reduceReplicate]⟩:CO 168).1
def pf:List aU:=[(.tmp 4)]
theorem yy:MT 168 2 pf pe:=mM Go.Proofs.Tryz.func168 (by kernel_rfl) (by kernel_rfl) (by kernel_rfl)
noncomputable def fP:aB:=(⟨_,by conv=>lhs;reduce;simp only[cV,simprocAttr,-List.reduceReplicate]⟩:CO 169).1
def fQ:List aU:=[]
theorem Bw:MT 169 2 fQ fP:=mM Go.Proofs.Tryz.func169 (by kernel_rfl) (by kernel_rfl) (by kernel_rfl)
noncomputable def zX:aB:=(⟨_,by conv=>lhs;reduce;simp only[cV,simprocAttr,-List.reduceReplicate]⟩:CO 170).1
def zY:List aU:=[(.tmp 2),(.tmp 3)]
theorem JH:MT 170 1 zY zX:=mM Go.Proofs.Tryz.func170 (by kernel_rfl) (by kernel_rfl) (by kernel_rfl)
noncomputable def fo:aB:=(⟨_,by conv=>lhs;reduce;simp only[cV,simprocAttr,-List.reduceReplicate]⟩:CO 171).1
def fp:List aU:=[(.tmp 8)]
theorem vF:MT 171 4 fp fo:=mM Go.Proofs.Tryz.func171 (by kernel_rfl) (by kernel_rfl) (by kernel_rfl)
noncomputable def ir:aB:=(⟨_,by conv=>lhs;reduce;simp only[cV,simprocAttr,-List.reduceReplicate]⟩:CO 172).1
def iu:List aU:=[]
theorem FN:MT 172 3 iu ir:=mM Go.Proofs.Tryz.func172 (by kernel_rfl) (by kernel_rfl) (by kernel_rfl)
noncomputable def fR:aB:=(⟨_,by conv=>lhs;reduce;simp only[cV,simprocAttr,-List.reduceReplicate]⟩:CO 173).1
def fS:List aU:=[(.tmp 4)]
theorem Bx:MT 173 2 fS fR:=mM Go.Proofs.Tryz.func173 (by kernel_rfl) (by kernel_rfl) (by kernel_rfl)
noncomputable def pg:aB:=(⟨_,by conv=>lhs;reduce;simp only[cV,simprocAttr,-List.reduceReplicate]⟩:CO 174).1
def pi:List aU:=[(.cell 6 S26),(.tmp 7)]
theorem yz:MT 174 3 pi pg:=mM Go.Proofs.Tryz.func174 (by kernel_rfl) (by kernel_rfl) (by kernel_rfl)
noncomputable def vG:aB:=(⟨_,by conv=>lhs;reduce;simp only[cV,simprocAttr,-List.reduceReplicate]⟩:CO 175).1
def vH:List aU:=[(.cell 4 (.ar 32 L8)),(.tmp 5)]
theorem FO:MT 175 2 vH vG:=mM Go.Proofs.Tryz.func175 (by kernel_rfl) (by kernel_rfl) (by kernel_rfl)
noncomputable def pj:aB:=(⟨_,by conv=>lhs;reduce;simp only[cV,simprocAttr,-List.reduceReplicate]⟩:CO 176).1
def po:List aU:=[(.cell 2 (.ar 32 L8))]
theorem yA:MT 176 1 po pj:=mM Go.Proofs.Tryz.func176 (by kernel_rfl) (by kernel_rfl) (by kernel_rfl)
noncomputable def iv:aB:=(⟨_,by conv=>lhs;reduce;simp only[cV,simprocAttr,-List.reduceReplicate]⟩:CO 177).1
def iw:List aU:=[(.tmp 8)]
theorem By:MT 177 4 iw iv:=mM Go.Proofs.Tryz.func177 (by kernel_rfl) (by kernel_rfl) (by kernel_rfl)
noncomputable def fE:aB:=(⟨_,by conv=>lhs;reduce;simp only[cV,simprocAttr,-List.reduceReplicate]⟩:CO 178).1
def fF:List aU:=[(.tmp 10)]
theorem w5:MT 178 5 fF fE:=mM Go.Proofs.Tryz.func178 (by kernel_rfl) (by kernel_rfl) (by kernel_rfl)
noncomputable def gL:aB:=(⟨_,by conv=>lhs;reduce;simp only[cV,simprocAttr,-List.reduceReplicate]⟩:CO 179).1
def gM:List aU:=[(.tmp 4)]
theorem zZ:MT 179 2 gM gL:=mM Go.Proofs.Tryz.func179 (by kernel_rfl) (by kernel_rfl) (by kernel_rfl)
noncomputable def gN:aB:=(⟨_,by conv=>lhs;reduce;simp only[cV,simprocAttr,-List.reduceReplicate]⟩:CO 180).1
def gO:List aU:=[]
theorem z8:MT 180 1 gO gN:=mM Go.Proofs.Tryz.func180 (by kernel_rfl) (by kernel_rfl) (by kernel_rfl)
noncomputable def iM:aB:=(⟨_,by conv=>lhs;reduce;simp only[cV,simprocAttr,-List.reduceReplicate]⟩:CO 181).1
def iN:List aU:=[]
theorem DC:MT 181 1 iN iM:=mM Go.Proofs.Tryz.func181 (by kernel_rfl) (by kernel_rfl) (by kernel_rfl)
noncomputable def gz:aB:=(⟨_,by conv=>lhs;reduce;simp only[cV,simprocAttr,-List.reduceReplicate]⟩:CO 182).1
def gA:List aU:=[(.cell 2 S6),(.tmp 3),(.tmp 4),(.tmp 5)]
theorem DD:MT 182 1 gA gz:=mM Go.Proofs.Tryz.func182 (by kernel_rfl) (by kernel_rfl) (by kernel_rfl)
def fN:aB:=(.seq (.region false [ji 2 (.mv (.const (it 0)))]) (.seq (.region false [jv 3 0,⟨some 4,.sI (.const (.string ⟨#[0,1,1,2,1,2,2,3,1,2,2,3,2,3,3,4,1,2,2,3,2,3,3,4,2,3,3,4,3,4,4,5,1,2,2,3,2,3,3,4,2,3,3,4,3,4,4,5,2,3,3,4,3,4,4,5,3,4,4,5,4,5,5,6,1,2,2,3,2,3,3,4,2,3,3,4,3,4,4,5,2,3,3,4,3,4,4,5,3,4,4,5,4,5,5,6,2,3,3,4,3,4,4,5,3,4,4,5,4,5,5,6,3,4,4,5,4,5,5,6,4,5,5,6,5,6,6,7,1,2,2,3,2,3,3,4,2,3,3,4,3,4,4,5,2,3,3,4,3,4,4,5,3,4,4,5,4,5,5,6,2,3,3,4,3,4,4,5,3,4,4,5,4,5,5,6,3,4,4,5,4,5,5,6,4,5,5,6,5,6,6,7,2,3,3,4,3,4,4,5,3,4,4,5,4,5,5,6,3,4,4,5,4,5,5,6,4,5,5,6,5,6,6,7,3,4,4,5,4,5,5,6,4,5,5,6,5,6,6,7,4,5,5,6,5,6,6,7,5,6,6,7,6,7,7,8]⟩)) (.tmp 3),none⟩,ji 5 (.conv .i64 (.tmp 4)),jv 2 5]) .ret))
def lW:List aU:=[(.tmp 2)]
theorem tn:MT 183 1 lW fN:=mM Go.Proofs.Tryz.func183 (by kernel_rfl) (by kernel_rfl) (by kernel_rfl)
noncomputable def CM:aB:=(⟨_,by conv=>lhs;reduce;simp only[cV,simprocAttr,-List.reduceReplicate]⟩:CO 184).1
def CN:List aU:=[(.cell 4 (.ar 8 dk))]
theorem Ma:MT 184 2 CN CM:=mM Go.Proofs.Tryz.func184 (by kernel_rfl) (by kernel_rfl) (by kernel_rfl)
noncomputable def z9:aB:=(⟨_,by conv=>lhs;reduce;simp only[cV,simprocAttr,-List.reduceReplicate]⟩:CO 185).1
def Aa:List aU:=[(.cell 2 (.ar 32 L8))]
theorem JI:MT 185 1 Aa z9:=mM Go.Proofs.Tryz.func185 (by kernel_rfl) (by kernel_rfl) (by kernel_rfl)
noncomputable def If:aB:=(⟨_,by conv=>lhs;reduce;simp only[cV,simprocAttr,-List.reduceReplicate]⟩:CO 186).1
def Ig:List aU:=[(.tmp 2)]
theorem Tq:MT 186 1 Ig If:=mM Go.Proofs.Tryz.func186 (by kernel_rfl) (by kernel_rfl) (by kernel_rfl)
noncomputable def qw:aB:=(⟨_,by conv=>lhs;reduce;simp only[cV,simprocAttr,-List.reduceReplicate]⟩:CO 188).1
def qx:List aU:=[(.tmp 4),(.tmp 5)]
theorem Ab:MT 188 2 qx qw:=mM Go.Proofs.Tryz.func188 (by kernel_rfl) (by kernel_rfl) (by kernel_rfl)
noncomputable def pq:aB:=(⟨_,by conv=>lhs;reduce;simp only[cV,simprocAttr,-List.reduceReplicate]⟩:CO 189).1
def pw:List aU:=[(.tmp 4)]
theorem yB:MT 189 2 pw pq:=mM Go.Proofs.Tryz.func189 (by kernel_rfl) (by kernel_rfl) (by kernel_rfl)
noncomputable def eO:aB:=(⟨_,by conv=>lhs;reduce;simp only[cV,simprocAttr,-List.reduceReplicate]⟩:CO 190).1
def eP:List aU:=[(.tmp 10),(.tmp 11),(.tmp 12)]
theorem uy:MT 190 5 eP eO:=mM Go.Proofs.Tryz.func190 (by kernel_rfl) (by kernel_rfl) (by kernel_rfl)
noncomputable def gZ:aB:=(⟨_,by conv=>lhs;reduce;simp only[cV,simprocAttr,-List.reduceReplicate]⟩:CO 192).1
def hU:List aU:=[(.tmp 4)]
theorem w7:MT 192 2 hU gZ:=mM Go.Proofs.Tryz.func192 (by kernel_rfl) (by kernel_rfl) (by kernel_rfl)
noncomputable def Ac:aB:=(⟨_,by conv=>lhs;reduce;simp only[cV,simprocAttr,-List.reduceReplicate]⟩:CO 193).1
def Ad:List aU:=[(.tmp 2)]
theorem JJ:MT 193 1 Ad Ac:=mM Go.Proofs.Tryz.func193 (by kernel_rfl) (by kernel_rfl) (by kernel_rfl)
noncomputable def Mb:aB:=(⟨_,by conv=>lhs;reduce;simp only[cV,simprocAttr,-List.reduceReplicate]⟩:CO 194).1
def Mc:List aU:=[(.tmp 2),(.tmp 3)]
theorem W9:MT 194 1 Mc Mb:=mM Go.Proofs.Tryz.func194 (by kernel_rfl) (by kernel_rfl) (by kernel_rfl)
noncomputable def CP:aB:=(⟨_,by conv=>lhs;reduce;simp only[cV,simprocAttr,-List.reduceReplicate]⟩:CO 195).1
def CQ:List aU:=[(.tmp 2)]
theorem Md:MT 195 1 CQ CP:=mM Go.Proofs.Tryz.func195 (by kernel_rfl) (by kernel_rfl) (by kernel_rfl)
noncomputable def eV:aB:=(⟨_,by conv=>lhs;reduce;simp only[cV,simprocAttr,-List.reduceReplicate]⟩:CO 196).1
def eW:List aU:=[(.tmp 4)]
theorem Bz:MT 196 2 eW eV:=mM Go.Proofs.Tryz.func196 (by kernel_rfl) (by kernel_rfl) (by kernel_rfl)
noncomputable def ix:aB:=(⟨_,by conv=>lhs;reduce;simp only[cV,simprocAttr,-List.reduceReplicate]⟩:CO 197).1
def iy:List aU:=[(.tmp 4),(.tmp 5)]
theorem BA:MT 197 2 iy ix:=mM Go.Proofs.Tryz.func197 (by kernel_rfl) (by kernel_rfl) (by kernel_rfl)
noncomputable def Ae:aB:=(⟨_,by conv=>lhs;reduce;simp only[cV,simprocAttr,-List.reduceReplicate]⟩:CO 198).1
def Af:List aU:=[(.cell 6 (.ar 32 L8))]
theorem JK:MT 198 3 Af Ae:=mM Go.Proofs.Tryz.func198 (by kernel_rfl) (by kernel_rfl) (by kernel_rfl)
noncomputable def gP:aB:=(⟨_,by conv=>lhs;reduce;simp only[cV,simprocAttr,-List.reduceReplicate]⟩:CO 199).1
def gQ:List aU:=[(.tmp 4)]
theorem Ag:MT 199 2 gQ gP:=mM Go.Proofs.Tryz.func199 (by kernel_rfl) (by kernel_rfl) (by kernel_rfl)
noncomputable def fx:aB:=(⟨_,by conv=>lhs;reduce;simp only[cV,simprocAttr,-List.reduceReplicate]⟩:CO 200).1
def fy:List aU:=[(.tmp 4)]
theorem Ah:MT 200 2 fy fx:=mM Go.Proofs.Tryz.func200 (by kernel_rfl) (by kernel_rfl) (by kernel_rfl)
noncomputable def rV:aB:=(⟨_,by conv=>lhs;reduce;simp only[cV,simprocAttr,-List.reduceReplicate]⟩:CO 201).1
def rX:List aU:=[(.cell 2 S6),(.tmp 3)]
theorem BB:MT 201 1 rX rV:=mM Go.Proofs.Tryz.func201 (by kernel_rfl) (by kernel_rfl) (by kernel_rfl)
noncomputable def Ai:aB:=(⟨_,by conv=>lhs;reduce;simp only[cV,simprocAttr,-List.reduceReplicate]⟩:CO 202).1
def Aj:List aU:=[(.cell 2 (.ar 64 dk))]
theorem JL:MT 202 1 Aj Ai:=mM Go.Proofs.Tryz.func202 (by kernel_rfl) (by kernel_rfl) (by kernel_rfl)
noncomputable def jX:aB:=(⟨_,by conv=>lhs;reduce;simp only[cV,simprocAttr,-List.reduceReplicate]⟩:CO 203).1
def jY:List aU:=[(.tmp 4)]
theorem qP:MT 203 2 jY jX:=mM Go.Proofs.Tryz.func203 (by kernel_rfl) (by kernel_rfl) (by kernel_rfl)
noncomputable def xH:aB:=(⟨_,by conv=>lhs;reduce;simp only[cV,simprocAttr,-List.reduceReplicate]⟩:CO 204).1
def xI:List aU:=[(.tmp 2),(.tmp 3),(.tmp 4)]
theorem Hj:MT 204 1 xI xH:=mM Go.Proofs.Tryz.func204 (by kernel_rfl) (by kernel_rfl) (by kernel_rfl)
noncomputable def cI:aB:=(⟨_,by conv=>lhs;reduce;simp only[cV,simprocAttr,-List.reduceReplicate]⟩:CO 205).1
def cJ:List aU:=[(.tmp 4)]
theorem qQ:MT 205 2 cJ cI:=mM Go.Proofs.Tryz.func205 (by kernel_rfl) (by kernel_rfl) (by kernel_rfl)
noncomputable def Ih:aB:=(⟨_,by conv=>lhs;reduce;simp only[cV,simprocAttr,-List.reduceReplicate]⟩:CO 206).1
def Ii:List aU:=[(.cell 2 S34)]
theorem Tr:MT 206 1 Ii Ih:=mM Go.Proofs.Tryz.func206 (by kernel_rfl) (by kernel_rfl) (by kernel_rfl)
noncomputable def vI:aB:=(⟨_,by conv=>lhs;reduce;simp only[cV,simprocAttr,-List.reduceReplicate]⟩:CO 207).1
def vJ:List aU:=[(.cell 4 S34)]
theorem FP:MT 207 2 vJ vI:=mM Go.Proofs.Tryz.func207 (by kernel_rfl) (by kernel_rfl) (by kernel_rfl)
noncomputable def Ij:aB:=(⟨_,by conv=>lhs;reduce;simp only[cV,simprocAttr,-List.reduceReplicate]⟩:CO 208).1
def Ik:List aU:=[(.tmp 2)]
theorem Ts:MT 208 1 Ik Ij:=mM Go.Proofs.Tryz.func208 (by kernel_rfl) (by kernel_rfl) (by kernel_rfl)
noncomputable def xJ:aB:=(⟨_,by conv=>lhs;reduce;simp only[cV,simprocAttr,-List.reduceReplicate]⟩:CO 209).1
def xK:List aU:=[(.cell 2 (.ar 32 L8))]
theorem Hk:MT 209 1 xK xJ:=mM Go.Proofs.Tryz.func209 (by kernel_rfl) (by kernel_rfl) (by kernel_rfl)
noncomputable def qy:aB:=(⟨_,by conv=>lhs;reduce;simp only[cV,simprocAttr,-List.reduceReplicate]⟩:CO 210).1
def qz:List aU:=[(.tmp 4)]
theorem Ak:MT 210 2 qz qy:=mM Go.Proofs.Tryz.func210 (by kernel_rfl) (by kernel_rfl) (by kernel_rfl)
noncomputable def vK:aB:=(⟨_,by conv=>lhs;reduce;simp only[cV,simprocAttr,-List.reduceReplicate]⟩:CO 211).1
def vL:List aU:=[(.tmp 2)]
theorem FQ:MT 211 1 vL vK:=mM Go.Proofs.Tryz.func211 (by kernel_rfl) (by kernel_rfl) (by kernel_rfl)
noncomputable def FR:aB:=(⟨_,by conv=>lhs;reduce;simp only[cV,simprocAttr,-List.reduceReplicate]⟩:CO 212).1
def FT:List aU:=[(.tmp 2)]
theorem OR:MT 212 1 FT FR:=mM Go.Proofs.Tryz.func212 (by kernel_rfl) (by kernel_rfl) (by kernel_rfl)
noncomputable def mA:aB:=(⟨_,by conv=>lhs;reduce;simp only[cV,simprocAttr,-List.reduceReplicate]⟩:CO 213).1
def mB:List aU:=[(.tmp 2)]
theorem uz:MT 213 1 mB mA:=mM Go.Proofs.Tryz.func213 (by kernel_rfl) (by kernel_rfl) (by kernel_rfl)
end Go.Am.F
namespace Go.Am.F
set_option maxRecDepth 100000
set_option maxHeartbeats 0
set_option linter.unusedVariables false
set_option linter.unusedSimpArgs false
noncomputable def xL:aB:=(⟨_,by conv=>lhs;reduce;simp only[cV,simprocAttr,-List.reduceReplicate]⟩:CO 214).1
def xM:List aU:=[(.tmp 2),(.tmp 3)]
theorem Hl:MT 214 1 xM xL:=mM Go.Proofs.Tryz.func214 (by kernel_rfl) (by kernel_rfl) (by kernel_rfl)
noncomputable def px:aB:=(⟨_,by conv=>lhs;reduce;simp only[cV,simprocAttr,-List.reduceReplicate]⟩:CO 215).1
def py:List aU:=[(.tmp 4)]
theorem yC:MT 215 2 py px:=mM Go.Proofs.Tryz.func215 (by kernel_rfl) (by kernel_rfl) (by kernel_rfl)
def CR:aB:=(.seq (.region false [⟨some 6,.mv (.const (.string ⟨#[]⟩)),none⟩]) (.seq (.region false [ji 7 (.call 220 []),jv 8 0,jv 9 1,jv 10 2,ji 11 (.build s9 [(.raw (it 0)),(.raw (it 0)),(.raw (it 0))] [(0,.tmp 8),(1,.tmp 9),(2,.tmp 10)]),⟨some 12,.KV s9 xh false (.agg xh [(.raw (.string ⟨#[]⟩))]) (.tmp 7) (.tmp 11),none⟩,ji 13 (.field xh (.tmp 12) 0),jv 6 13]) .ret))
def CS:List aU:=[(.tmp 6)]
theorem Me:MT 216 3 CS CR:=mM Go.Proofs.Tryz.func216 (by kernel_rfl) (by kernel_rfl) (by kernel_rfl)
noncomputable def mC:aB:=(⟨_,by conv=>lhs;reduce;simp only[cV,simprocAttr,-List.reduceReplicate]⟩:CO 217).1
def mD:List aU:=[(.tmp 2)]
theorem uA:MT 217 1 mD mC:=mM Go.Proofs.Tryz.func217 (by kernel_rfl) (by kernel_rfl) (by kernel_rfl)
noncomputable def Il:aB:=(⟨_,by conv=>lhs;reduce;simp only[cV,simprocAttr,-List.reduceReplicate]⟩:CO 218).1
def Im:List aU:=[(.tmp 4)]
theorem Tt:MT 218 2 Im Il:=mM Go.Proofs.Tryz.func218 (by kernel_rfl) (by kernel_rfl) (by kernel_rfl)
noncomputable def ue:aB:=(⟨_,by conv=>lhs;reduce;simp only[cV,simprocAttr,-List.reduceReplicate]⟩:CO 219).1
def uf:List aU:=[(.tmp 4)]
theorem DE:MT 219 2 uf ue:=mM Go.Proofs.Tryz.func219 (by kernel_rfl) (by kernel_rfl) (by kernel_rfl)
def lX:aB:=(.seq (.region false [ji 0 (.mv (.const (.map none)))]) (.seq (.region false [ji 9 (.ZU s9 xh),jv 1 9]) (.seq (.seq (.region false [ji 2 (.mv (.const (it 1)))]) (.block 0 (.loop (.seq (.seq (.region false [jv 10 2,ji 11 (.bin .leq (.tmp 10) (.const (it 5)))]) (.cond (.tmp 11) .skip (.exit 0))) (.seq (.block 1 (.region false [jv 14 1,jv 15 2,ji 16 (.build s9 [(.raw (it 0)),(.raw (it 0)),(.raw (it 0))] [(0,.const (it 0)),(1,.const (it 0)),(2,.tmp 15)]),⟨some 17,.build xh [(.raw (.string ⟨#[]⟩))] [(0,.const (.string ⟨#[114,119]⟩))],none⟩,⟨none,.oL s9 xh (.tmp 14) (.tmp 16) (.tmp 17),none⟩])) (.region false [jv 12 2,ji 13 (.bin .add (.tmp 12) (.const (it 1))),jv 2 13])))))) (.seq (.seq (.region false [ji 18 (.mv (.const (it 0)))]) (.block 2 (.loop (.seq (.region false [ji 19 (.bin .lss (.tmp 18) (.const (it 3)))]) (.seq (.cond (.tmp 19) .skip (.exit 2)) (.seq (.block 3 (.seq (.region false [jv 20 18,jv 3 20]) (.seq (.region false [jv 21 1,jv 22 3,ji 23 (.build s9 [(.raw (it 0)),(.raw (it 0)),(.raw (it 0))] [(0,.const (it 2)),(1,.tmp 22),(2,.const (it 1))]),⟨some 24,.build xh [(.raw (.string ⟨#[]⟩))] [(0,.const (.string ⟨#[114]⟩))],none⟩,⟨none,.oL s9 xh (.tmp 21) (.tmp 23) (.tmp 24),none⟩]) (.seq (.region false [jv 25 1,jv 26 3,ji 27 (.build s9 [(.raw (it 0)),(.raw (it 0)),(.raw (it 0))] [(0,.const (it 2)),(1,.tmp 26),(2,.const (it 2))]),⟨some 28,.build xh [(.raw (.string ⟨#[]⟩))] [(0,.const (.string ⟨#[114,119]⟩))],none⟩,⟨none,.oL s9 xh (.tmp 25) (.tmp 27) (.tmp 28),none⟩]) (.seq (.region false [jv 29 1,jv 30 3,ji 31 (.build s9 [(.raw (it 0)),(.raw (it 0)),(.raw (it 0))] [(0,.const (it 2)),(1,.tmp 30),(2,.const (it 3))]),⟨some 32,.build xh [(.raw (.string ⟨#[]⟩))] [(0,.const (.string ⟨#[114]⟩))],none⟩,⟨none,.oL s9 xh (.tmp 29) (.tmp 31) (.tmp 32),none⟩]) (.region false [jv 33 1,jv 34 3,ji 35 (.build s9 [(.raw (it 0)),(.raw (it 0)),(.raw (it 0))] [(0,.const (it 3)),(1,.tmp 34),(2,.const (it 4))]),⟨some 36,.build xh [(.raw (.string ⟨#[]⟩))] [(0,.const (.string ⟨#[114,119]⟩))],none⟩,⟨none,.oL s9 xh (.tmp 33) (.tmp 35) (.tmp 36),none⟩])))))) (.region false [ji 37 (.bin .add (.tmp 18) (.const (it 1))),jv 18 37]))))))) (.seq (.region false [jv 38 1,ji 39 (.build s9 [(.raw (it 0)),(.raw (it 0)),(.raw (it 0))] [(0,.const (it 2)),(1,.const (it 0)),(2,.const (it 1))]),⟨some 40,.build xh [(.raw (.string ⟨#[]⟩))] [(0,.const (.string ⟨#[114,119]⟩))],none⟩,⟨none,.oL s9 xh (.tmp 38) (.tmp 39) (.tmp 40),none⟩]) (.seq (.seq (.region false [ji 4 (.mv (.const (it 1)))]) (.block 4 (.loop (.seq (.seq (.region false [jv 41 4,ji 42 (.bin .lss (.tmp 41) (.const (it 3)))]) (.cond (.tmp 42) .skip (.exit 4))) (.seq (.block 5 (.seq (.region false [jv 45 1,jv 46 4,ji 47 (.build s9 [(.raw (it 0)),(.raw (it 0)),(.raw (it 0))] [(0,.const (it 1)),(1,.tmp 46),(2,.const (it 1))]),⟨some 48,.build xh [(.raw (.string ⟨#[]⟩))] [(0,.const (.string ⟨#[114,120]⟩))],none⟩,⟨none,.oL s9 xh (.tmp 45) (.tmp 47) (.tmp 48),none⟩]) (.seq (.region false [jv 49 1,jv 50 4,ji 51 (.build s9 [(.raw (it 0)),(.raw (it 0)),(.raw (it 0))] [(0,.const (it 1)),(1,.tmp 50),(2,.const (it 2))]),⟨some 52,.build xh [(.raw (.string ⟨#[]⟩))] [(0,.const (.string ⟨#[114,119]⟩))],none⟩,⟨none,.oL s9 xh (.tmp 49) (.tmp 51) (.tmp 52),none⟩]) (.seq (.region false [jv 53 1,jv 54 4,ji 55 (.build s9 [(.raw (it 0)),(.raw (it 0)),(.raw (it 0))] [(0,.const (it 1)),(1,.tmp 54),(2,.const (it 3))]),⟨some 56,.build xh [(.raw (.string ⟨#[]⟩))] [(0,.const (.string ⟨#[114]⟩))],none⟩,⟨none,.oL s9 xh (.tmp 53) (.tmp 55) (.tmp 56),none⟩]) (.seq (.region false [jv 57 1,jv 58 4,ji 59 (.build s9 [(.raw (it 0)),(.raw (it 0)),(.raw (it 0))] [(0,.const (it 1)),(1,.tmp 58),(2,.const (it 4))]),⟨some 60,.build xh [(.raw (.string ⟨#[]⟩))] [(0,.const (.string ⟨#[114,119]⟩))],none⟩,⟨none,.oL s9 xh (.tmp 57) (.tmp 59) (.tmp 60),none⟩]) (.region false [jv 61 1,jv 62 4,ji 63 (.build s9 [(.raw (it 0)),(.raw (it 0)),(.raw (it 0))] [(0,.const (it 1)),(1,.tmp 62),(2,.const (it 5))]),⟨some 64,.build xh [(.raw (.string ⟨#[]⟩))] [(0,.const (.string ⟨#[114]⟩))],none⟩,⟨none,.oL s9 xh (.tmp 61) (.tmp 63) (.tmp 64),none⟩])))))) (.region false [jv 43 4,ji 44 (.bin .add (.tmp 43) (.const (it 1))),jv 4 44])))))) (.seq (.region false [jv 65 1,ji 66 (.build s9 [(.raw (it 0)),(.raw (it 0)),(.raw (it 0))] [(0,.const (it 1)),(1,.const (it 2)),(2,.const (it 1))]),⟨some 67,.build xh [(.raw (.string ⟨#[]⟩))] [(0,.const (.string ⟨#[114,119,120]⟩))],none⟩,⟨none,.oL s9 xh (.tmp 65) (.tmp 66) (.tmp 67),none⟩]) (.seq (.seq (.region false [ji 68 (.ib LI 2 (.raw (it 0)) [(0,.const (it 1)),(1,.const (it 2))]),ji 69 (.len (.tmp 68)),ji 70 (.mv (.const (it 0)))]) (.block 6 (.loop (.seq (.region false [ji 71 (.bin .lss (.tmp 70) (.tmp 69))]) (.seq (.cond (.tmp 71) .skip (.exit 6)) (.seq (.block 7 (.seq (.region false [ji 72 (.lG LI (.tmp 68) (.tmp 70)),ji 73 (.load LI (.tmp 72)),jv 6 73]) (.region false [jv 74 1,jv 75 6,ji 76 (.build s9 [(.raw (it 0)),(.raw (it 0)),(.raw (it 0))] [(0,.const (it 3)),(1,.const (it 2)),(2,.tmp 75)]),⟨some 77,.build xh [(.raw (.string ⟨#[]⟩))] [(0,.const (.string ⟨#[114,119]⟩))],none⟩,⟨none,.oL s9 xh (.tmp 74) (.tmp 76) (.tmp 77),none⟩]))) (.region false [ji 78 (.bin .add (.tmp 70) (.const (it 1))),jv 70 78]))))))) (.seq (.seq (.region false [ji 79 (.ib LI 2 (.raw (it 0)) [(0,.const (it 3)),(1,.const (it 5))]),ji 80 (.len (.tmp 79)),ji 81 (.mv (.const (it 0)))]) (.block 8 (.loop (.seq (.region false [ji 82 (.bin .lss (.tmp 81) (.tmp 80))]) (.seq (.cond (.tmp 82) .skip (.exit 8)) (.seq (.block 9 (.seq (.region false [ji 83 (.lG LI (.tmp 79) (.tmp 81)),ji 84 (.load LI (.tmp 83)),jv 8 84]) (.region false [jv 85 1,jv 86 8,ji 87 (.build s9 [(.raw (it 0)),(.raw (it 0)),(.raw (it 0))] [(0,.const (it 3)),(1,.const (it 2)),(2,.tmp 86)]),⟨some 88,.build xh [(.raw (.string ⟨#[]⟩))] [(0,.const (.string ⟨#[114]⟩))],none⟩,⟨none,.oL s9 xh (.tmp 85) (.tmp 87) (.tmp 88),none⟩]))) (.region false [ji 89 (.bin .add (.tmp 81) (.const (it 1))),jv 81 89]))))))) (.seq (.region false [jv 90 1,jv 0 90]) .ret))))))))))
def lY:List aU:=[(.tmp 0)]
theorem FU:MT 220 0 lY lX:=mM Go.Proofs.Tryz.func220 (by kernel_rfl) (by kernel_rfl) (by kernel_rfl)
noncomputable def iO:aB:=(⟨_,by conv=>lhs;reduce;simp only[cV,simprocAttr,-List.reduceReplicate]⟩:CO 221).1
def iP:List aU:=[(.tmp 4)]
theorem nV:MT 221 2 iP iO:=mM Go.Proofs.Tryz.func221 (by kernel_rfl) (by kernel_rfl) (by kernel_rfl)
noncomputable def gR:aB:=(⟨_,by conv=>lhs;reduce;simp only[cV,simprocAttr,-List.reduceReplicate]⟩:CO 222).1
def gS:List aU:=[(.tmp 4)]
theorem lZ:MT 222 2 gS gR:=mM Go.Proofs.Tryz.func222 (by kernel_rfl) (by kernel_rfl) (by kernel_rfl)
end Go.Am.F
namespace Go.Am
set_option linter.unusedVariables false
set_option linter.unusedSimpArgs false
theorem Xa{α:Type}(rd:D→Option α)(pre:α→Bool)(out:α→D×Rows)(d:D):lE rd pre out [d] []=(rd d).bind fun x=>bif pre x then some (out x)else none:=by
 simp only[lE];cases rd d<;>rfl
theorem Xb{α β:Type}(rd:D→Option α)(rd':D→Option β)(pre:α→β→Bool)(out:α→β→D×Rows)(d e:D):
  wS rd rd' pre out [d,e] []=(rd d).bind fun x=>(rd' e).bind fun y=>bif pre x y then some (out x y)else none:=by
 simp only[wS];cases rd d<;>cases rd' e<;>rfl
theorem Mf(n:Nat):Nat.ble n most=decide (n≤1099511627776):=by
 unfold most
 cases h:Nat.ble n 1099511627776 with
 |true=>rw[Nat.ble_eq]at h;simp[h]
 |false=>
  have:¬n≤1099511627776:=fun h'=>by rw[Nat.ble_eq_true_of_le h']at h;cases h
  simp[this]
theorem ble_lit(n:Nat):Nat.ble n 1099511627776=decide (n≤1099511627776):=Mf n
def G2{α β γ:Type}(rd:D→Option α)(rd':D→Option β)(DF:D→Option γ)(pre:α→β→γ→Bool)(out:α→β→γ→D×Rows):Fn
 |[d,e,f],[]=>match rd d,rd' e,DF f with
  |some x,some y,some z=>bif pre x y z then some (out x y z)else none
  | _,_,_=>none
 | _,_=>none
theorem fq{α β γ:Type}{rd:D→Option α}{rd':D→Option β}{DF:D→Option γ}{pre:α→β→γ→Bool}{out:α→β→γ→D×Rows}{ds:List D}{rows:Rows}{r:D×Rows}(h:G2 rd rd' DF pre out ds rows=some r):
  ∃d e f x y z,ds=[d,e,f]∧rows=[]∧rd d=some x∧rd' e=some y∧DF f=some z∧pre x y z=true∧r=out x y z:=by
 unfold G2 at h
 split at h
 ·rename_i d e f
  split at h
  ·rename_i x y z hx hy hz
   cases hp:pre x y z with
   |false=>rw[hp]at h;cases h
   |true=>rw[hp]at h;cases h;exact⟨d,e,f,x,y,z,rfl,rfl,hx,hy,hz,hp,rfl⟩
  ·cases h
 ·cases h
theorem yD{α β γ:Type}(rd:D→Option α)(rd':D→Option β)(DF:D→Option γ)(pre:α→β→γ→Bool)(out:α→β→γ→D×Rows)(d e f:D):
  G2 rd rd' DF pre out [d,e,f] []=(rd d).bind fun x=>(rd' e).bind fun y=>(DF f).bind fun z=>bif pre x y z then some (out x y z)else none:=by
 simp only[G2];cases rd d<;>cases rd' e<;>cases DF f<;>rfl
theorem cr{P:Program}{G:Nat→Option D}{f:FuncId}{A:jx}{F:Fn}(hA:aO G P f A)
  (h:∀ds rows r,F ds rows=some r→rows=[]∧∃ds',aY U8 ds ds'∧A ds' [] (fun d rows=>wR rows d r.1 r.2)):aO G P f (Fn.run F):=by
 intro ds rows K hr ρ w T args hrows kq wN hargs hG
 unfold Fn.run at hr
 obtain⟨r,hr,hk⟩:=ah hr
 obtain⟨rfl,ds',h1,h2⟩:=h ds rows r hr
 have WY:∀r,ρ r=none:=fun r=>kq r (by simp)
 have hargs':aY (VR ρ w T) ds' args.toList:=by
  refine⟨by rw[←h1.len];exact hargs.len,fun i x y hx hy=>?_⟩
  have hi:i<ds.length:=by rw[h1.len];exact cN hx
  have hd:=List.getElem?_eq_getElem hi
  exact(h1.at_ i _ x hd hx).vr (hargs.at_ i _ y hd hy)
 exact(hA ds' [] _ h2 ρ w T args hrows kq wN hargs' hG).mono fun e w' hb=>Bc.Jl WY hb fun d rows hx=>⟨_,_,hx,hk⟩
theorem ec.nrm{d:D}{l:List (BitVec 8)}(h:ec d l):∃e,U8 d (.cF L8 (bs l) e):=by
 rcases h with⟨rfl,rfl⟩|⟨e,rfl⟩
 ·exact⟨true,.nil _ _⟩
 ·exact⟨e,.refl _⟩
theorem cy{d:D}{l:List (BitVec 8)}(h:dN d=some l):∃e,U8 d (.cF L8 (bs l) e):=(eU h).nrm
noncomputable def oo{α:Type}(s:Sh)(mk:α→D):D→Option (List α)
 | .raw (.slice none 0 0)=>some []
 | .cF t l _=>bif t==s then cW (b8 mk) l else none
 | _=>none
theorem wB{α:Type}{s:Sh}{mk:α→D}{d:D}{l:List α}(h:oo s mk d=some l):∃e,U8 d (.cF s (l.map mk) e):=by
 unfold oo at h
 split at h
 ·cases h;exact⟨true,.nil _ _⟩
 ·rename_i t l0 e
  cases hb:(t==s)with
  |false=>rw[hb]at h;cases h
  | true =>
   rw[hb]at h
   have:t=s:=by simpa using hb
   subst this
   obtain⟨g1,g2⟩:=jk h
   have:l0=l.map mk:=by
    apply List.ext_getElem
    ·simp[g1]
    ·intro i h1 h2
     have h3:i<l.length:=by omega
     have:=aF (g2 i _ _ (List.getElem?_eq_getElem h1) (List.getElem?_eq_getElem h3))
     simpa using this
   rw[this]
   exact⟨e,.refl _⟩
 ·cases h
theorem FW{α:Type}{s:Sh}{mk:α→D}(WZ:∀x y,mk x=mk y→x=y)(l:List α)(e:Bool):oo s mk (.cF s (l.map mk) e)=some l:=by
 simp only[oo]
 rw[show(s==s)=true by simp,cond_true]
 induction l with
 |nil=>rfl
 |cons x l ih=>simp only[List.map_cons,cW,bV WZ,ih]
theorem OS(l:List (BitVec 8))(i:Nat)(x:BitVec 8):(bs l).set i (.raw (u8 x))=bs (l.set i x):=by simp[bs,List.map_set]
theorem lp(l:List (BitVec 8)):(bs l).take l.length=bs l:=by rw[←aC l,List.take_length]
theorem Xc(l:List (BitVec 8))(e:Bool)(i:Nat)(h:i<l.length)(rows:Rows)(k:D→Rows→Prop):nQ L8 (i:Int) rows k (.cF L8 (bs l) e)=k (.b5 (.raw (u8 (l.getD i 0#8)))) rows:=by
 have:=gh (k:=k) (rows:=rows) (n:=(i:Int)) (.inr ⟨e,rfl⟩:ec (.cF L8 (bs l) e) l) (by omega)
 simpa using this
theorem bB{C:be}{a:aB}{Q:fa→Env→Rows→Prop}(N:Nat)(I:Nat→Env→Rows→Prop)
  (Xd:∀i,i<N→∀env rows,I i env rows→∀R:Env→Rows→Prop,(∀env' ab,I (i+1) env' ab→R env' ab)→aw C a (Tf R Q) env rows)
  (hend:∀env rows,I N env rows→∀R:Env→Rows→Prop,aw C a (Tf R Q) env rows){env:Env}{rows:Rows}(h0:I 0 env rows):H0 C a Q env rows:=by
 refine rB (fun k env rows=>∃i,k=N-i∧i≤N∧I i env rows) ?_ N ⟨0,by simp,by omega,h0⟩
 rintro k env rows ⟨i,rfl,hi,hh⟩ R hR
 rcases Nat.lt_or_ge i N with h|h
 ·exact Xd i h env rows hh R (fun env' ab h1=>hR (N-(i+1)) env' ab (by omega) ⟨i+1,rfl,by omega,h1⟩)
 ·have:i=N:=by omega
  subst this
  exact hend env rows hh R
theorem b6(R l:Rows):live (R++l) R.length=live l 0:=by
 simp only[live]
 rw[List.getElem?_append_right (Nat.le_refl _),Nat.sub_self]
theorem cD(R l:Rows)(k:Nat):live (R++l) (R.length+k)=live l k:=by
 simp only[live]
 rw[List.getElem?_append_right (by omega)]
 simp
theorem Mg(R l:Rows)(x:Option Row):(R++l).set R.length x=R++l.set 0 x:=by rw[List.set_append_right _ _ (Nat.le_refl _)];simp
theorem Mh(R l:Rows)(k:Nat)(x:Option Row):(R++l).set (R.length+k) x=R++l.set k x:=by rw[List.set_append_right _ _ (by omega)];simp
theorem aA{R:Rows}{r:Nat}{y:Row}(h:live R r=some y)(l:Rows):live (R++l) r=some y:=bJ h
theorem cE(i:Nat)(h:i<9223372036854775807):wz ((i:Int)+1)=((i+1:Nat):Int):=by rw[bf (by omega)];omega
end Go.Am
namespace Go.Am
set_option linter.unusedVariables false
set_option linter.defProp false
set_option maxRecDepth 10000
def aj:=(And.intro (And.intro (And.intro (And.intro (And.intro (And.intro @q_skip @Ws) (And.intro @SN (And.intro @q_draw1 @q_draw))) (And.intro (And.intro @q_tail (And.intro @q_stab @q_st2)) (And.intro @q_ta0 (And.intro @q_ta1 @q_drawf)))) (And.intro (And.intro (And.intro @q_stabF @q_intF) (And.intro @q_slf (And.intro @q_tf0 @q_tf1))) (And.intro (And.intro @q_seq (And.intro @q_cond @q_block)) (And.intro @q_loop (And.intro @q_exit @q_ret))))) (And.intro (And.intro (And.intro (And.intro @q_fr @q_fn) (And.intro @q_sn (And.intro @q_sr @q_se))) (And.intro (And.intro @q_bn (And.intro @q_br @q_be)) (And.intro @q_on (And.intro @q_oc @q_og)))) (And.intro (And.intro (And.intro @q_ko @q_lk) (And.intro @o_mv (And.intro @o_pick @o_bin))) (And.intro (And.intro @o_eqa (And.intro @o_beq @o_un)) (And.intro @o_conv (And.intro @o_convs @o_alloc)))))) (And.intro (And.intro (And.intro (And.intro (And.intro @o_box @o_build) (And.intro @Wt (And.intro @o_load @o_store))) (And.intro (And.intro @o_nilc (And.intro @o_faddr @o_field)) (And.intro @Wu (And.intro @Wv @o_index)))) (And.intro (And.intro (And.intro @Ww @Wx) (And.intro @o_slice (And.intro @Wy @o_mks))) (And.intro (And.intro @o_ext (And.intro @o_len @Wz)) (And.intro @WA (And.intro @SO @o_copy))))) (And.intro (And.intro (And.intro (And.intro @WB @o_b2s) (And.intro @o_s2b (And.intro @o_call @q_fns))) (And.intro (And.intro @q_fnn (And.intro @o_callv @o_fail)) (And.intro @o_eqnil (And.intro @o_eqsn @o_s2a)))) (And.intro (And.intro (And.intro @o_frzb (And.intro @o_mnz @o_mkm)) (And.intro @o_mset (And.intro @o_mget @o_clr))) (And.intro (And.intro @o_mkf (And.intro @o_idxb @lp_s)) (And.intro @lp_n (And.intro @lp_r @lp_e)))))))
def ak:=(And.intro (And.intro (And.intro (And.intro (And.intro (And.intro (And.intro (And.intro @q_st0 @q_st1) (And.intro @q_sf0 @q_sf1)) (And.intro (And.intro @q_sfa @q_sfb) (And.intro @q_sfm (And.intro @q_sfl @q_sfe)))) (And.intro (And.intro (And.intro @q_sff @q_isp) (And.intro @q_isl (And.intro @q_qfn @q_qgl))) (And.intro (And.intro @q_a0 @q_a1) (And.intro @q_at (And.intro @q_ac @n_raw))))) (And.intro (And.intro (And.intro (And.intro @n_ptr @n_sl) (And.intro @n_lst @n_cptr)) (And.intro (And.intro @n_agg @q_r1) (And.intro @q_r0 (And.intro @q_r2 @sl_sl)))) (And.intro (And.intro (And.intro @sl_lst @sl_nil) (And.intro @so_str (And.intro @so_sl @so_lst))) (And.intro (And.intro @so_nil @el_sl) (And.intro @el_lst (And.intro @el_nil @lv_0)))))) (And.intro (And.intro (And.intro (And.intro (And.intro @lv_s @lv_new) (And.intro @g_row @g_nil)) (And.intro (And.intro @g_agg @s_row) (And.intro @s_nil (And.intro @s_agg @sub_0)))) (And.intro (And.intro (And.intro @sub_s @sub_ar) (And.intro @a_nil (And.intro @a_sl @most_eq))) (And.intro (And.intro @bf @q_bd) (And.intro @q_skl (And.intro @q_sks @q_ct))))) (And.intro (And.intro (And.intro (And.intro @q_cf @q_gtt) (And.intro @q_gtf @q_gft)) (And.intro (And.intro @q_gff @q_gz) (And.intro @q_bs (And.intro @q_et @q_ec)))) (And.intro (And.intro (And.intro @q_eg @q_ps) (And.intro @q_pn (And.intro @q_es0 @q_es1))) (And.intro (And.intro @q_eo0 @q_eo1) (And.intro @ea_agg (And.intro @eL_n @eL_c))))))) (And.intro (And.intro (And.intro (And.intro (And.intro (And.intro @eD_agg @eD_u8) (And.intro @eD_u32 @eD_u64)) (And.intro (And.intro @eD_it @eD_b) (And.intro @q_ixl (And.intro @q_ixs @mm_c)))) (And.intro (And.intro (And.intro @mf_n @mf_c) (And.intro @fold_it (And.intro @q_frq @q_qfr))) (And.intro (And.intro @q_qfq @q_ors) (And.intro @q_orn (And.intro @q_qrn @nb_nn))))) (And.intro (And.intro (And.intro (And.intro @nb_pn @nb_cn) (And.intro @asIt_it @mr_mp)) (And.intro (And.intro @me_mp @me_om) (And.intro @mr_ft (And.intro @mr_tt @mr_fn)))) (And.intro (And.intro (And.intro @mr_tn @dv_lf) (And.intro @hr_clo (And.intro @q_pk @q_pkt))) (And.intro (And.intro @q_pkf @gD_t) (And.intro @gD_f (And.intro @pk_or @pk_and)))))) (And.intro (And.intro (And.intro (And.intro (And.intro @q_f0 @q_f1) (And.intro @asI_it @asI_u8)) (And.intro (And.intro @isSc_u8 @one_u8) (And.intro @asI_u32 (And.intro @WE @one_u32)))) (And.intro (And.intro (And.intro @asI_u64 @WG) (And.intro @one_u64 (And.intro @isSc_it @one_it))) (And.intro (And.intro @isSc_b @isSc_s) (And.intro @WH (And.intro @WI @sh_beq))))) (And.intro (And.intro (And.intro (And.intro @WJ @fits_sl) (And.intro @WK (And.intro @fits_mp @fits_om))) (And.intro (And.intro @SP @SQ) (And.intro @cv_8_8 (And.intro @cv_8_32 @cv_8_64)))) (And.intro (And.intro (And.intro @cv_8_it @cv_it_8) (And.intro @cv_32_8 (And.intro @WL @WM))) (And.intro (And.intro @WN @WO) (And.intro @cv_64_8 (And.intro @WQ @WR)))))))) (And.intro (And.intro (And.intro (And.intro (And.intro (And.intro (And.intro @WS @WT) (And.intro @WU @b_add8)) (And.intro (And.intro @b_sub8 @b_mul8) (And.intro @b_and8 (And.intro @b_or8 @b_xor8)))) (And.intro (And.intro (And.intro @SS @b_quo8) (And.intro @b_rem8 (And.intro @b_eql8 @b_neq8))) (And.intro (And.intro @b_lss8 @b_leq8) (And.intro @b_gtr8 (And.intro @b_geq8 @SU))))) (And.intro (And.intro (And.intro (And.intro @SV @WV) (And.intro @WW @SW)) (And.intro (And.intro @SX @SY) (And.intro @SZ (And.intro @u_not8 @b_add32)))) (And.intro (And.intro (And.intro @b_sub32 @b_mul32) (And.intro @b_and32 (And.intro @b_or32 @b_xor32))) (And.intro (And.intro @Oc @b_quo32) (And.intro @b_rem32 (And.intro @b_eql32 @b_neq32)))))) (And.intro (And.intro (And.intro (And.intro (And.intro @b_lss32 @b_leq32) (And.intro @b_gtr32 @b_geq32)) (And.intro (And.intro @Od @Oe) (And.intro @Ta (And.intro @Tb @Of)))) (And.intro (And.intro (And.intro @Og @Oh) (And.intro @Oi (And.intro @u_not32 @b_add64))) (And.intro (And.intro @b_sub64 @b_mul64) (And.intro @b_and64 (And.intro @b_or64 @b_xor64))))) (And.intro (And.intro (And.intro (And.intro @Oj @b_quo64) (And.intro @b_rem64 (And.intro @b_eql64 @b_neq64))) (And.intro (And.intro @b_lss64 @b_leq64) (And.intro @b_gtr64 (And.intro @b_geq64 @Ok)))) (And.intro (And.intro (And.intro @Ol @Td) (And.intro @Te (And.intro @Om @On))) (And.intro (And.intro @Oo @Oq) (And.intro @u_not64 (And.intro @b_addi @b_subi))))))) (And.intro (And.intro (And.intro (And.intro (And.intro (And.intro @b_muli @b_quoi) (And.intro @b_remi @b_eqli)) (And.intro (And.intro @b_lssi @b_leqi) (And.intro @b_gtri (And.intro @b_geqi @b_neqi)))) (And.intro (And.intro (And.intro @b_adds @b_eqls) (And.intro @b_neqs (And.intro @u_notb @u_negi))) (And.intro (And.intro @Int.toNat_natCast @cond_true.{1}) (And.intro @cond_false.{1} (And.intro @Option.bind_some.{0,0} @Option.map_some.{0,0}))))) (And.intro (And.intro (And.intro (And.intro @Option.getD_some.{0} @Option.getD_none.{0}) (And.intro @true_and @and_true)) (And.intro (And.intro @eq_self.{1} @List.length_nil.{0}) (And.intro @List.length_cons.{0} (And.intro @List.length_append.{0} @List.length_set.{0})))) (And.intro (And.intro (And.intro @List.length_map.{0,0} @List.set_cons_zero.{0}) (And.intro @List.set_cons_succ.{0} (And.intro @List.replicate_succ.{0} @List.replicate_zero.{0}))) (And.intro (And.intro @List.getElem?_cons_zero.{0} @List.getElem?_cons_succ.{0}) (And.intro @List.nil_append.{0} (And.intro @List.cons_append.{0} @q_rn)))))) (And.intro (And.intro (And.intro (And.intro (And.intro @q_rr @q_re) (And.intro @List.map_cons.{0,0} @List.map_nil.{0,0})) (And.intro (And.intro @Int.ofNat_zero @Bool.not_true) (And.intro @Bool.not_false (And.intro @if_true.{1} @Option.some.injEq.{0})))) (And.intro (And.intro (And.intro @forall_eq'.{1} @List.drop_zero.{0}) (And.intro @List.take_succ_cons.{0} (And.intro @List.take_zero.{0} @List.drop_succ_cons.{0}))) (And.intro (And.intro @List.take_nil.{0} @List.drop_nil.{0}) (And.intro @ne_eq.{1} (And.intro @not_false_eq_true @BitVec.ofNat_eq_ofNat))))) (And.intro (And.intro (And.intro (And.intro @Nat.zero_add @Bool.and_true) (And.intro @Bool.and_false (And.intro @Bool.true_and @Bool.false_and))) (And.intro (And.intro @Bool.or_true @Bool.or_false) (And.intro @Bool.true_or (And.intro @Bool.false_or @Bool.not_eq_true)))) (And.intro (And.intro (And.intro @Bool.not_eq_false @decide_true) (And.intro @decide_false (And.intro @Nat.zero_le @and_self))) (And.intro (And.intro @Int.cast_ofNat_Int @Int.natCast_zero) (And.intro @Int.natCast_one (And.intro @Int.le_refl @Nat.le_refl)))))))))
def amC:=(And.intro (And.intro (And.intro (And.intro (And.intro (And.intro @q_call @lQ) (And.intro @in_d @hl_n)) (And.intro (And.intro @hl_c @hr_raw) (And.intro @hr_ptr @hr_sl))) (And.intro
 (And.intro (And.intro @hr_aptr @hr_lst) (And.intro @hr_cptr @hr_mp)) (And.intro (And.intro @hr_om @hr_agg) (And.intro @hr_tup (And.intro @pu_leaf @pu_ref))))) (And.intro (And.intro (And.intro
 (And.intro @pu_nil @pu_cons) (And.intro @pu_ar @mo_n)) (And.intro (And.intro @mo_c @vw_raw) (And.intro @vw_om (And.intro @vw_mp @vw_lst)))) (And.intro (And.intro (And.intro @WC @WD)
 (And.intro @vw_sl @sf_raw)) (And.intro (And.intro @sf_mp @sf_om) (And.intro @sf_ptr (And.intro @sf_sl @sf_lst)))))) (And.intro (And.intro (And.intro (And.intro (And.intro @sf_cptr @sf_agg)
 (And.intro @sf_tup @sL_n)) (And.intro (And.intro @sL_c @sr_n) (And.intro @sr_s (And.intro @sr_o @nl_raw)))) (And.intro (And.intro (And.intro @nl_mp @nl_ptr) (And.intro @nl_sl @nl_agg)) (And.intro
 (And.intro @nl_tup @nL_n) (And.intro @nL_c (And.intro @nr_n @nr_s))))) (And.intro (And.intro (And.intro (And.intro @nr_o @Xa) (And.intro @Xb @yD)) (And.intro (And.intro @Mf
 @ble_lit) (And.intro @zp (And.intro @WX @Jr)))) (And.intro (And.intro (And.intro @fK @D0) (And.intro @nS @aC)) (And.intro (And.intro @lp
 @Option.bind_none.{0,0}) (And.intro @ey (And.intro @fw @OS)))))))
def aX:=(And.intro (And.intro @b6 (And.intro @cD @Mg)) (And.intro (And.intro @Mh @List.append_assoc.{0}) (And.intro @List.append_nil.{0} @Nat.add_assoc)))
end Go.Am

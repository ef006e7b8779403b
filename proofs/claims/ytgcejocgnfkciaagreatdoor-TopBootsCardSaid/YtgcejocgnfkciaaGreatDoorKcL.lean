/- 'TopBoots' returns true for every input: a proof of the given card; its condition: the listed package variables hold what the program's text lays (tied by the card). -/
import Derived.Test.YtgcejocgnfkciaaGreatDoorKc29
import Derived.Test.YtgcejocgnfkciaaGreatDoorCards
import Derived.Test.YtgcejocgnfkciaaGreatDoorTie
import Derived.WalkKit
import Derived.ProofKit
import Derived.OpenShut
import Derived.Deep.DeepHandedRow
namespace Go.Am
namespace iC
open Go.Am.F
open Ms
set_option linter.unusedVariables false
set_option linter.unusedSimpArgs false
set_option maxRecDepth 100000
def tE:List (List Int):=[[1,265,7],[2,133,6],[4,67,4],[8,34,0]]
def tF:List (List Int):=[[0,0],[536870912,4096],[536875008,4096],[268435456,10240],[1073741824,64],[1610612736,256]]
def GW:List Int:=JT.map fun x=>(x.toNat:Int)
def AW:List Int:=qA.map fun x=>(x.toNat:Int)
def tzZ:List Int:=tzL.map fun x=>(x.toNat:Int)
def G0:Nat→Option D:=fun g=>if g=0 then some BJ else if g=2 then some (Tv JT)else if g=5 then some (Tw qA)else if g=1 then some tzD else if g=4 then some Gq else none
noncomputable def T0:List (Nat×Fn):=[(74,BV),(75,Rs),(136,BU),(25,aag),(16,mZ),(134,Ek),(130,Au),(66,GH),(198,Uj),(208,M5),(209,Rk),(207,Ko),(206,Rj),(218,Rh),(176,RF),(195,Kt),(129,Gz),(174,AO),(193,Ks),(215,Rg),(219,Rf),(221,Re),(222,Rd),(217,Eh),(214,Km),(213,Eg),(170,vU),(58,yN),(119,Ej),(60,qD),(59,mZ),(120,Au),(118,BX),(57,IK),(116,BS),(103,oB),(163,qS),(188,qS),(105,qG),(168,yK),(23,vT),(62,tz),(189,qF),(175,RK),(194,PS),(69,QV),(132,fOct),(49,Ea),(48,J6),(26,XI),(77,fTz),(46,J7),(106,QW),(107,Iz),(71,Iy),(135,fOn),(183,QS),(76,Aw),(78,fWds),(73,tx),(201,BV),(211,fNum),(210,fPre),(94,F5),(55,Kq),(31,tB),(84,BU),(52,fOf),(95,BI),(114,BG),(51,Mi),(17,Tu),(90,Ka),(147,F8),(143,Gc),(144,Kb),(146,Gb),(10,AB),(54,Kd),(112,QX),(113,Q2),(110,wE),(166,MA),(111,Iv),(109,Q1),(42,MI),(41,MH),(102,MG),(50,xP),(39,D7),(101,My),(98,BL),(100,Ap),(160,Mx),(159,tw),(185,An),(186,fPad),(162,O5),(161,BK),(167,xP),(158,qB),(184,JU),(202,D4),(203,Tx),(212,QG),(157,Mr),(99,TL),(40,Gg),(38,qE),(37,l6),(36,wF)]
noncomputable def C0:be:=⟨G0,lP T0,fun _=>none,fun _=>none⟩
theorem G0_none(g:Nat)(h:¬g=0)(h0:¬g=2)(h1:¬g=5)(h2:¬g=1)(h3:¬g=4):G0 g=none:=by
 unfold G0
 rw[if_neg h,if_neg h0,if_neg h1,if_neg h2,if_neg h3]
theorem m_Sel1(C:be)(hC:aI C P):aO C.aZ P 133 (aR C 2 gK gJ):=LL hC Go.Proofs.Tryz.func133 (by kernel_rfl) (by kernel_rfl) (Nat.le_of_ble_eq_true (by kernel_rfl))
theorem GX{P:Program}{G:Nat→Option D}{f:FuncId}{A:jx}(h:aO GF P f A):aO G P f A:=fun ds rows K hA ρ w T args h1 h2 h3 h4 _=>h ds rows K hA ρ w T args h1 h2 h3 h4 (fun g d hg=>by cases hg)
theorem sD:aI C0 P:=by
 have c0:=Qw (G:=G0) (P:=P)
 have c1:=az (TZ _ c0) c0
 have c2:=az (TG _ c1 rfl) c1
 have c3:=az (T9 _ c2) c2
 have c4:=az (site_ok _ c3) c3
 have c5:=az (end_ok _ c4) c4
 have c6:=az (new_ok _ c5 rfl) c5
 have c7:=az (word_ok _ c6) c6
 have c8:=az (rot_ok _ c7) c7
 have c9:=az (Tz _ c8 rfl rfl) c8
 have c10:=az (Xj _ c9 rfl rfl rfl) c9
 have c11:=az (OY _ c10 rfl) c10
 have c12:=az (four_ok _ c11) c11
 have c13:=az (Xz _ c12 rfl rfl rfl) c12
 have c14:=az (two_ok _ c13) c13
 have c15:=az (pad_ok _ c14) c14
 have c16:=az (TC _ c15) c15
 have c17:=az (Xq _ c16 rfl rfl rfl) c16
 have c18:=az (step_ok _ c17 rfl rfl rfl rfl) c17
 have c19:=az (TJ _ c18 rfl) c18
 have c20:=az (XA _ c19 rfl) c19
 have c21:=az (fold_ok _ c20 rfl rfl rfl rfl) c20
 have c22:=az (TP _ c21 rfl rfl rfl rfl rfl) c21
 have c23:=az (XR _ c22) c22
 have c24:=az (hash_ok _ c23 rfl rfl rfl rfl) c23
 have c25:=az (leaf_ok _ c24 rfl) c24
 have c26:=az (node_ok _ c25 rfl) c25
 have c27:=az (left_ok _ c26 rfl) c26
 have c28:=az (mash_ok _ c27 rfl rfl rfl rfl) c27
 have c29:=az (coef_ok _ c28) c28
 have c30:=az (TN _ c29 rfl rfl rfl rfl) c29
 have c31:=az (path_ok _ c30 rfl) c30
 have c32:=az (sign_ok _ c31 rfl rfl rfl rfl rfl rfl) c31
 have c33:=az (X4 _ c32 rfl rfl rfl rfl rfl) c32
 have c34:=az (Pn _ c33 rfl) c33
 have c35:=az (lnum_ok _ c34) c34
 have c36:=az (XU _ c35) c35
 have c37:=az (XQ _ c36 rfl rfl rfl) c36
 have c38:=az (XO _ c37 rfl) c37
 have c39:=az (XP _ c38 rfl rfl rfl rfl rfl rfl rfl) c38
 have c40:=az (cut_ok _ c39) c39
 have c41:=az (join_ok _ c40) c40
 have c42:=az (Xp _ c41) c41
 have c43:=az (sum_ok _ c42 rfl rfl rfl rfl) c42
 have c44:=az (of_ok _ c43 rfl) c43
 have c45:=az (YA _ c44) c44
 have c46:=az (body_ok _ c45 rfl) c45
 have c47:=az (YE _ c46 rfl rfl) c46
 have c48:=az (XE _ c47) c47
 have c49:=az (pre_ok _ c48 rfl) c48
 have c50:=az (num_ok _ c49) c49
 have c51:=az (YB _ c50 rfl rfl rfl) c50
 have c52:=az (Mt _ c51) c51
 have c53:=az (wds_ok _ c52) c52
 have c54:=az (allc_ok _ c53 rfl) c53
 have c55:=az (ones_ok _ c54) c54
 have c56:=az (on_ok _ c55 rfl) c55
 have c57:=az (life_ok _ c56 rfl rfl) c56
 have c58:=az (plan_ok _ c57 rfl) c57
 have c59:=az (numb_ok _ c58) c58
 have c60:=az (XN _ c59 rfl rfl rfl rfl) c59
 have c61:=az (tz_ok _ c60 rfl) c60
 have c62:=az (ctr_ok _ c61 rfl rfl) c61
 have c63:=az (XM _ c62 rfl rfl) c62
 have c64:=az (TV _ c63 rfl rfl) c63
 have c65:=az (oct_ok _ c64) c64
 have c66:=az (keyc_ok _ c65 rfl rfl) c65
 have c67:=az (ato_ok _ c66) c66
 have c68:=az (rowc_ok _ c67 rfl rfl rfl rfl) c67
 have c69:=az (Ub _ c68) c68
 have c70:=az (IF _ c69) c69
 have c71:=az (read_ok _ c70 rfl rfl) c70
 have c72:=az (Q7 _ c71) c71
 have c73:=az (IG _ c72) c72
 have c74:=az (MP _ c73) c73
 have c75:=az (Q6 _ c74 rfl) c74
 have c76:=az (IE _ c75 rfl) c75
 have c77:=az (Yl _ c76 rfl rfl rfl rfl) c76
 have c78:=az (allf_ok _ c77 rfl) c77
 have c79:=az (YJ _ c78) c78
 have c80:=az (slot_ok _ c79) c79
 have c81:=az (TQ _ c80 rfl) c80
 have c82:=az (TR _ c81 rfl rfl) c81
 have c83:=az (Ul _ c82 rfl rfl) c82
 have c84:=az (YM _ c83 rfl rfl rfl) c83
 have c85:=az (base_ok _ c84 rfl) c84
 have c86:=az (Ue _ c85) c85
 have c87:=az (Yv _ c86 rfl) c86
 have c88:=az (Uf _ c87) c87
 have c89:=az (idxb_ok _ c88) c88
 have c90:=az (idxs_ok _ c89 rfl) c89
 have c91:=az (idx1_ok _ c90 rfl) c90
 have c92:=az (hasw_ok _ c91 rfl) c91
 have c93:=az (YV _ c92) c92
 have c94:=az (Uu _ c93 rfl rfl) c93
 have c95:=az (YW _ c94) c94
 have c96:=az (YX _ c95) c95
 have c97:=az (mdig_ok _ c96 rfl rfl) c96
 have c98:=az (mpad_ok _ c97) c97
 have c99:=az (mnew_ok _ c98 rfl rfl rfl rfl) c98
 have c100:=az (Yz _ c99 rfl) c99
 have c101:=az (msum_ok _ c100 rfl rfl) c100
 have c102:=az (mnum_ok _ c101) c101
 have c103:=az (der_ok _ c102 rfl rfl rfl rfl) c102
 have c104:=az (Zh _ c103) c103
 have c105:=az (YT _ c104) c104
 have c106:=az (Ur _ c105) c105
 have c107:=az (Pe _ c106) c106
 have c108:=az (same_ok _ c107) c107
 have c109:=az (rright_ok _ c108) c108
 have c110:=az (value_ok _ c109) c109
 exact az (aai _ c110 rfl rfl) c110
noncomputable def RA:List (Nat×jx):=[(8,aR C0 4 rG rF),(53,aR C0 3 gG gF),(145,aR C0 2 jq jn),(220,aR C0 0 lY lX),(133,aR C0 2 gK gJ),(182,aR C0 1 gA gz),(205,aR C0 2 cJ cI),(128,aR C0 0 pd pc),(64,aR C0 2 gI gH),(67,aR C0 0 tj tf),(14,aR C0 0 oX oW),(172,aR C0 3 iu ir),(104,aR C0 1 mL mK),(165,aR C0 4 iq ik),(200,aR C0 2 fy fx),(192,aR C0 2 hU gZ),(180,aR C0 1 gO gN),(72,aR C0 2 mg lS),(24,aR C0 1 lR jN),(43,aR CF 1 lj lh),(45,aR CF 3 dB dA),(117,aR CF 4 cT cS),(18,aR CF 3 cb ca)]
noncomputable def CA:be:=⟨G0,lP T0,oa RA,fun _=>none⟩
theorem ctxA:aI CA P:=by
 have z:aI ⟨G0,lP T0,oa [],fun _=>none⟩ P:=⟨sD.1,(Wn (G:=G0) (P:=P)).2.1,sD.2.2⟩
 replace z:=aV (GX (P9 CF ctxF)) z
 replace z:=aV (GX (yp CF ctxF)) z
 replace z:=aV (GX (wW CF ctxF)) z
 replace z:=aV (GX (LY CF ctxF)) z
 replace z:=aV (aab C0 sD) z
 replace z:=aV (aad C0 sD) z
 replace z:=aV (z8 C0 sD) z
 replace z:=aV (w7 C0 sD) z
 replace z:=aV (Ah C0 sD) z
 replace z:=aV (Bv C0 sD) z
 replace z:=aV (OG C0 sD) z
 replace z:=aV (FN C0 sD) z
 replace z:=aV (Oy C0 sD) z
 replace z:=aV (OD C0 sD) z
 replace z:=aV (zE C0 sD) z
 replace z:=aV (OJ C0 sD) z
 replace z:=aV (qQ C0 sD) z
 replace z:=aV (DD C0 sD) z
 replace z:=aV (m_Sel1 C0 sD) z
 replace z:=aV (FU C0 sD) z
 replace z:=aV (ON C0 sD) z
 replace z:=aV (zD C0 sD) z
 exact aV (Ti C0 sD) z
noncomputable def T1:List (Nat×Fn):=(70,Us)::(204,Ei)::(216,fMay)::(88,Az)::(142,QZ)::(89,Ge)::T0
noncomputable def Q0:List (Nat×Eo):=[(13,De)]
noncomputable def CB:be:=⟨G0,lP T1,oa RA,Bj Q0⟩
theorem DV:aI CB P:=by
 have c1:=az (XX CA C0 ctxA rfl rfl rfl rfl rfl rfl) ctxA
 have c2:=az (root_ok _ c1 rfl rfl rfl rfl rfl rfl) c1
 have c3:=az (T8 _ c2 rfl rfl) c2
 have c4:=az (may_ok _ C0 c3 rfl rfl) c3
 have c5:=az (Ug _ c4 rfl rfl rfl rfl rfl) c4
 have c6:=az (sel_ok _ C0 c5 rfl rfl rfl rfl) c5
 have z:aI ⟨G0,lP T1,oa RA,Bj []⟩ P:=⟨c6.1,c6.2.1,by intro f F h;cases h⟩
 exact SK (Y2 C0 sD (fun _=>rfl) rfl rfl rfl) z
noncomputable def RB:List (Nat×jx):=(131,aR CB 3 ij ii)::(108,aR CB 3 fm fk)::(44,aR CB 0 rL rK)::(56,aR CB 4 ig ie)::(196,aR CB 2 eW eV)::(173,aR CB 2 fS fR)::(169,aR CB 2 fQ fP)::(190,aR CB 5 eP eO)::(65,aR CB 0 lV lU)::(181,aR CB 1 iN iM)::(11,aR CB 4 nv nu)::(63,aR CB 1 sA qJ)::RA
noncomputable def T2:List (Nat×Fn):=(22,YS)::(21,aao)::(68,M8)::T1
noncomputable def CC:be:=⟨G0,lP T2,oa RB,Bj Q0⟩
theorem DW:aI CC P:=by
 have z:=DV
 replace z:=aV (m_fuse_Of CB DV) z
 replace z:=aV (LW CB DV) z
 replace z:=aV (DC CB DV) z
 replace z:=aV (Jz CB DV) z
 replace z:=aV (uy CB DV) z
 replace z:=aV (Bw CB DV) z
 replace z:=aV (Bx CB DV) z
 replace z:=aV (Bz CB DV) z
 replace z:=aV (Fk CB DV) z
 replace z:=aV (Tl CB DV) z
 replace z:=aV (vC CB DV) z
 replace z:=aV (Bs CB DV) z
 replace z:=az (look_ok _ CB C0 z rfl rfl rfl rfl rfl rfl rfl rfl rfl rfl) z
 replace z:=az (alls_ok _ z ⟨rfl,rfl,rfl,rfl,rfl,rfl⟩) z
 replace z:=az (bound_ok _ C0 z rfl rfl) z
 exact z
noncomputable def RD:List (Nat×jx):=(12,aR CC 3 fM fL)::(197,aR CC 2 iy ix)::(199,aR CC 2 gQ gP)::(177,aR CC 4 iw iv)::(171,aR CC 4 fp fo)::(47,aR CC 2 jW jV)::(20,aR CC 2 gE gC)::(123,aR CC 2 eB eA)::(124,aR CC 2 cH cG)::(125,aR CC 2 dR dQ)::(126,aR CC 2 dF dE)::(19,aR CC 1 xb xa)::RB
noncomputable def CD:be:=⟨G0,lP T2,oa RD,Bj Q0⟩
theorem UP:aI CD P:=by
 have z:=DW
 replace z:=aV (m_otp_Of CC DW) z
 replace z:=aV (wZ CC DW) z
 replace z:=aV (yu CC DW) z
 replace z:=aV (yt CC DW) z
 replace z:=aV (zU CC DW) z
 replace z:=aV (zt CC DW) z
 replace z:=aV (Hb CC DW) z
 replace z:=aV (vF CC DW) z
 replace z:=aV (By CC DW) z
 replace z:=aV (Ag CC DW) z
 replace z:=aV (BA CC DW) z
 exact aV (Ju CC DW) z
noncomputable def RE:List (Nat×jx):=(121,aR CD 2 dD dC)::(122,aR CD 2 dP ci)::(178,aR CD 5 fF fE)::(179,aR CD 2 gM gL)::(9,aR CD 4 rI rH)::RD
noncomputable def CE:be:=⟨G0,lP T2,oa RE,Bj Q0⟩
theorem ctxE:aI CE P:=by
 have z:=UP
 replace z:=aV (Tj CD UP) z
 replace z:=aV (zZ CD UP) z
 replace z:=aV (w5 CD UP) z
 replace z:=aV (yq CD UP) z
 exact aV (wY CD UP) z
noncomputable def RG:List (Nat×jx):=(127,aR CE 2 dS bk)::RE
noncomputable def CG:be:=⟨G0,lP T2,oa RG,Bj Q0⟩
theorem ctxG:aI CG P:=by
 have z:=ctxE
 exact aV (yx CE ctxE) z
noncomputable def RH:List (Nat×jx):=(61,aR CG 2 cn cm)::RG
noncomputable def CH:be:=⟨G0,lP T2,oa RH,Bj Q0⟩
theorem ctxH:aI CH P:=by
 have z:=ctxG
 exact aV (Br CG ctxG) z
noncomputable def RI:List (Nat×jx):=(15,aR CH 3 iL cv)::RH
noncomputable def CI:be:=⟨G0,lP T2,oa RI,Bj Q0⟩
theorem ctxI:aI CI P:=by
 have z:=ctxH
 exact aV (Ds CH ctxH) z
noncomputable def RJ:List (Nat×jx):=(7,aR CI 0 nt nk)::RI
noncomputable def CJ:be:=⟨G0,lP T2,oa RJ,Bj Q0⟩
theorem ctxJ:aI CJ P:=by
 have z:=ctxI
 exact aV (LV CI ctxI) z
theorem lmC:LmC C0:=⟨rfl,rfl,rfl,rfl,rfl,rfl,rfl⟩
theorem lmS:LmS C0:=⟨rfl,rfl,rfl,rfl,rfl⟩
theorem haB:HaC CC:=⟨rfl,_,rfl,⟨rfl,_,rfl⟩⟩
theorem cpB:CpC CB:=⟨⟨rfl,_,rfl⟩,rfl⟩
theorem slC:SlC CB CC:=⟨rfl,rfl,rfl,_,rfl⟩
theorem doC:DoC CC:=⟨rfl,rfl,_,rfl,⟨rfl,rfl,rfl⟩⟩
theorem imC:ImC CB:=⟨rfl,rfl,rfl,rfl,rfl,⟨_,rfl,lmS⟩,rfl⟩
theorem prC:PrgC C0 CB CC:=⟨rfl,rfl,rfl,rfl,rfl⟩
theorem nmC:NmC CC:=⟨rfl,⟨_,rfl⟩,rfl,⟨_,rfl,⟨rfl,⟨_,rfl⟩,rfl⟩⟩,rfl,⟨_,rfl⟩,rfl⟩
theorem stC:StC CB CC:=⟨⟨rfl,rfl⟩,rfl,rfl,rfl,⟨_,rfl⟩⟩
theorem cdC:CdC CD:=⟨⟨rfl,_,rfl⟩,rfl,rfl,rfl,⟨_,_,rfl,stC⟩⟩
theorem wrC:WrC CD:=⟨rfl,⟨_,rfl,doC⟩,rfl,⟨_,rfl,cpB⟩⟩
theorem staC:StaC CC:=⟨⟨rfl,_,rfl⟩,haB,rfl,rfl,rfl,rfl,rfl⟩
theorem lkC:LkC CC:=⟨⟨rfl,_,rfl⟩,rfl⟩
theorem choC:ChoC CC:=⟨rfl,rfl,rfl,rfl,rfl,haB,⟨rfl,_,rfl⟩,rfl,⟨_,rfl,cpB⟩⟩
theorem ckC:CkC CC:=⟨⟨rfl,_,rfl⟩,haB,rfl⟩
theorem locE:LocC CE:=⟨⟨rfl,_,rfl⟩,rfl,⟨_,rfl⟩,rfl,⟨_,C0,rfl,rfl,rfl,rfl⟩,rfl,rfl⟩
theorem lobE:LobC CE:=⟨rfl,rfl,rfl,⟨_,_,rfl,slC⟩,rfl,⟨_,CC,CB,rfl,⟨⟨rfl,rfl,rfl,_,rfl⟩,rfl,rfl,⟨_,slC⟩,rfl⟩⟩,rfl,⟨_,CC,CB,rfl,⟨rfl,rfl,slC⟩⟩⟩
theorem tkG:Zl CG:=⟨rfl,⟨_,rfl,wrC⟩,rfl,⟨_,rfl,cdC⟩,rfl,⟨_,rfl,staC⟩,rfl,⟨_,rfl,lkC⟩,rfl,⟨_,rfl,choC⟩,rfl,⟨_,rfl,ckC⟩,rfl,⟨_,rfl,⟨rfl,rfl,lobE,locE⟩⟩⟩
theorem rnH:RnC CH CG:=⟨rfl,rfl,tkG⟩
theorem layC:LayC CD:=⟨rfl,rfl,rfl,⟨_,_,rfl,rfl,rfl⟩,rfl,rfl,rfl,rfl,rfl,rfl,rfl,⟨_,_,_,rfl,prC⟩,rfl,⟨_,rfl,nmC⟩⟩
theorem wkI:WkC CI:=⟨rfl,⟨_,rfl,lmC⟩,rfl,rfl,⟨_,rfl,imC⟩,rfl,⟨_,rfl,layC⟩,rfl,⟨_,rfl⟩,rfl,⟨_,_,rfl,rnH⟩⟩
theorem wkJ:WkC CJ:=⟨rfl,⟨_,rfl,lmC⟩,rfl,rfl,⟨_,rfl,imC⟩,rfl,⟨_,rfl,layC⟩,rfl,⟨_,rfl⟩,rfl,⟨_,_,rfl,rnH⟩⟩
theorem boJ:BoC CJ:=⟨rfl,rfl,rfl,rfl,rfl,rfl,⟨_,rfl,rfl,rfl,rfl⟩,rfl,⟨_,rfl⟩,rfl,⟨_,_,rfl,rnH⟩⟩
theorem btsJ:BtsC CJ:=⟨wkJ,rfl,⟨_,rfl,wkI⟩,rfl,rfl,rfl,rfl,⟨_,_,_,rfl,rfl,rfl,rfl,rfl⟩,rfl,⟨_,rfl,nmC⟩,boJ⟩
theorem ZP:CJ.aZ 0=some (D.agg (.ar tE.length (pO [.i64,.i64,.i64])) (tE.map (DU [.i64,.i64,.i64]))):=rfl
theorem ZQ:CJ.aZ 2=some (vj .u32 GW):=rfl
theorem UQ:CJ.aZ 5=some (vj .u32 AW):=rfl
theorem CJ_tz:CJ.aZ 1=some (vj .u8 tzZ):=rfl
theorem ZR:CJ.aZ 4=some (D.agg (.ar tF.length (pO [.u32,.i64])) (tF.map (DU [.u32,.i64]))):=rfl
theorem KI(g:Nat)(h:¬g=0)(h0:¬g=2)(h1:¬g=5)(h2:¬g=1)(h3:¬g=4):CJ.aZ g=none:=G0_none g h h0 h1 h2 h3
end iC
end Go.Am
namespace Go.Proofs.YtgcejocgnfkciaaGreatDoor.boots
open Go.Am Go.Am.iC Go.Am.F
open Go.ChangeShapes Go.WideShapes Go.ChangeAt Go.RowKit
set_option linter.unusedVariables false
set_option linter.unusedSimpArgs false
def K:Th:= .cons (.arr 32 (.int .u8)) (.cons (.slice (.int .u8)) (.cons (.slice (.int .u8)) (.cons (.slice (.int .u8)) (.cons (.int .u16) (.cons (.arr 64 (.int .u32)) (.cons (.bool) .nil))))))
noncomputable def recT(g:Nat):TypeId:=(Tryz.prog.globals[g]?.map (·.type)).getD 0
noncomputable def recE(g:Nat):TypeId:=match Tryz.prog.underlying (recT g)with|some (.array _ e)=>e| _=>0
noncomputable def recF(g:Nat):Array Field:=match Tryz.prog.underlying (recE g)with|some (.struct fs)=>fs| _=>#[]
theorem own:ownKnob Tryz.prog.godebug=none:=by kernel_rfl
theorem laid:laidOutB Tryz.prog=true:=by kernel_rfl
theorem law(dd:List D)(h:DNs K dd):aR CJ 7 jf hJ dd [] (fun d _=>d= .raw (.bool true)):=by
 rcases dd with _|⟨d0,_|⟨d1,_|⟨d2,_|⟨d3,_|⟨d4,_|⟨d5,_|⟨d6,_|⟨d7,l⟩⟩⟩⟩⟩⟩⟩⟩
 ·exact h.elim
 ·exact h.2.elim
 ·exact h.2.2.elim
 ·exact h.2.2.2.elim
 ·exact h.2.2.2.2.elim
 ·exact h.2.2.2.2.2.elim
 ·exact h.2.2.2.2.2.2.elim
 ·obtain⟨h1,h2,h3,h4,h5,h6,h7,-⟩:=h
  unfold DN DK at h5 h7
  obtain⟨aL,rfl,qX⟩:=dk_arr8 h1
  obtain⟨p,rfl,hp,-⟩:=dn_bs h2
  obtain⟨q,rfl,hq,-⟩:=dn_bs h3
  obtain⟨raw,rfl,hr,-⟩:=dn_bs h4
  unfold maxLen at hp hq hr
  obtain⟨a,rfl⟩:=h5
  obtain⟨ws,rfl,hl,hk⟩:=h6
  obtain⟨W,rfl⟩:=aak (mk:=fun x=>D.raw (u32 x)) (fun d hd=>by unfold DK at hd;exact hd) hk
  obtain⟨keep,rfl⟩:=h7
  exact boots_run CJ btsJ aL qX p q raw (by omega) (by omega) (by omega) a W (by simpa using hl) keep
 ·exact h.2.2.2.2.2.2.2.elim
theorem globs{W:World}(hL:laidMetH Tryz.prog Rows.topBootsRow.laid W)(g:Nat)(d:D)(h:CJ.aZ g=some d):LR eT W (old W) (.b5 d) (.pointer (some ⟨g,0,none⟩)):=by
 have I1:laidMet Tryz.prog Rows.topBootsRow.laid W:=hL
 by_cases h0:g=1
 ·subst h0
  have e:vj .u8 tzZ=d:=Option.some.inj ((CJ_tz:CJ.aZ 1=some (vj .u8 tzZ)).symm.trans h)
  subst e
  exact Bo (P:=Tryz.prog) (t:=(Tryz.prog.globals[1]?.map (·.type)).getD 0) (e:=match Tryz.prog.underlying ((Tryz.prog.globals[1]?.map (·.type)).getD 0)with|some (.array _ e)=>e| _=>0) (n:=tzZ.length) (name:=(Rows.topBootsRow.laid.getD 0 ("",.nil)).1) I1 (List.mem_of_getElem? (i:=0) rfl) (by kernel_rfl) (by kernel_rfl) (by kernel_rfl) (by kernel_rfl) (by kernel_rfl) (by kernel_rfl) (by decide)
 by_cases h1:g=2
 ·subst h1
  have e:vj .u32 GW=d:=Option.some.inj ((ZQ:CJ.aZ 2=some (vj .u32 GW)).symm.trans h)
  subst e
  exact Bo (P:=Tryz.prog) (t:=(Tryz.prog.globals[2]?.map (·.type)).getD 0) (e:=match Tryz.prog.underlying ((Tryz.prog.globals[2]?.map (·.type)).getD 0)with|some (.array _ e)=>e| _=>0) (n:=GW.length) (name:=(Rows.topBootsRow.laid.getD 1 ("",.nil)).1) I1 (List.mem_of_getElem? (i:=1) rfl) (by kernel_rfl) (by kernel_rfl) (by kernel_rfl) (by kernel_rfl) (by kernel_rfl) (by kernel_rfl) (by decide)
 by_cases h2:g=5
 ·subst h2
  have e:vj .u32 AW=d:=Option.some.inj ((UQ:CJ.aZ 5=some (vj .u32 AW)).symm.trans h)
  subst e
  exact Bo (P:=Tryz.prog) (t:=(Tryz.prog.globals[5]?.map (·.type)).getD 0) (e:=match Tryz.prog.underlying ((Tryz.prog.globals[5]?.map (·.type)).getD 0)with|some (.array _ e)=>e| _=>0) (n:=AW.length) (name:=(Rows.topBootsRow.laid.getD 2 ("",.nil)).1) I1 (List.mem_of_getElem? (i:=2) rfl) (by kernel_rfl) (by kernel_rfl) (by kernel_rfl) (by kernel_rfl) (by kernel_rfl) (by kernel_rfl) (by decide)
 by_cases h3:g=0
 ·subst h3
  have e:D.agg (.ar tE.length (pO [.i64,.i64,.i64])) (tE.map (DU [.i64,.i64,.i64]))=d:=Option.some.inj ((ZP:CJ.aZ 0=some (D.agg (.ar tE.length (pO [.i64,.i64,.i64])) (tE.map (DU [.i64,.i64,.i64])))).symm.trans h)
  subst e
  exact IX (P:=Tryz.prog) (t:=recT 0) (e:=recE 0) (n:=tE.length) (fs:=recF 0) (zs:=tE) (ks:=[.i64,.i64,.i64]) (name:=(Rows.topBootsRow.laid.getD 3 ("",.nil)).1) I1 (List.mem_of_getElem? (i:=3) rfl) ⟨by kernel_rfl,by kernel_rfl,by kernel_rfl,fun r h=>match r,h with|0,_=>⟨by kernel_rfl,by kernel_rfl,by kernel_rfl⟩|1,_=>⟨by kernel_rfl,by kernel_rfl,by kernel_rfl⟩|2,_=>⟨by kernel_rfl,by kernel_rfl,by kernel_rfl⟩|n+3,h=>absurd h (Nat.not_lt.2 (Nat.le_add_left _ _)),by kernel_rfl,by kernel_rfl⟩ (by decide) (by kernel_rfl) (by kernel_rfl) (by decide)
 by_cases h4:g=4
 ·subst h4
  have e:D.agg (.ar tF.length (pO [.u32,.i64])) (tF.map (DU [.u32,.i64]))=d:=Option.some.inj ((ZR:CJ.aZ 4=some (D.agg (.ar tF.length (pO [.u32,.i64])) (tF.map (DU [.u32,.i64])))).symm.trans h)
  subst e
  exact IX (P:=Tryz.prog) (t:=recT 4) (e:=recE 4) (n:=tF.length) (fs:=recF 4) (zs:=tF) (ks:=[.u32,.i64]) (name:=(Rows.topBootsRow.laid.getD 4 ("",.nil)).1) I1 (List.mem_of_getElem? (i:=4) rfl) ⟨by kernel_rfl,by kernel_rfl,by kernel_rfl,fun r h=>match r,h with|0,_=>⟨by kernel_rfl,by kernel_rfl,by kernel_rfl⟩|1,_=>⟨by kernel_rfl,by kernel_rfl,by kernel_rfl⟩|n+2,h=>absurd h (Nat.not_lt.2 (Nat.le_add_left _ _)),by kernel_rfl,by kernel_rfl⟩ (by decide) (by kernel_rfl) (by kernel_rfl) (by decide)
 ·exact absurd h (by rw[KI g h3 h1 h2 h0 h4];exact nofun)
def lay0:Obj→Obj
 | .cells _ t frozen=> .cells (tzZ.map fun z=>Value.int .u8 z).toArray t frozen
 |o=>o
def lay1:Obj→Obj
 | .cells _ t frozen=> .cells (GW.map fun z=>Value.int .u32 z).toArray t frozen
 |o=>o
def lay2:Obj→Obj
 | .cells _ t frozen=> .cells (AW.map fun z=>Value.int .u32 z).toArray t frozen
 |o=>o
def lay3:Obj→Obj
 | .cells _ t frozen=> .cells (fZ [.i64,.i64,.i64] tE).toArray t frozen
 |o=>o
def lay4:Obj→Obj
 | .cells _ t frozen=> .cells (fZ [.u32,.i64] tF).toArray t frozen
 |o=>o
noncomputable def B7(os:Os):World:={World.holding Tryz.prog os ⟨#[],#[],[]⟩with heap:=((((((World.holding Tryz.prog os ⟨#[],#[],[]⟩).heap.modify 1 lay0).modify 2 lay1).modify 5 lay2).modify 0 lay3).modify 4 lay4)}
theorem ZS(os:Os):laidMet Tryz.prog Rows.topBootsRow.laid ((B7 os).forCall (fun _ _=>0) ⟨#[],#[.agg (Array.replicate 32 (Value.int .u8 0)),.slice none 0 0,.slice none 0 0,.slice none 0 0,.int .u16 0,.agg (Array.replicate 64 (Value.int .u32 0)),.bool false],[]⟩).memory:=
 laidMet_of_run' 8 (by kernel_rfl) (by kernel_rfl)
theorem reads(os:Os){H:Type}(enc:TypeId×Value→H):∃places,DataW.whole enc Tryz.prog ((B7 os).forCall (fun _ _=>0) ⟨#[],#[.agg (Array.replicate 32 (Value.int .u8 0)),.slice none 0 0,.slice none 0 0,.slice none 0 0,.int .u16 0,.agg (Array.replicate 64 (Value.int .u32 0)),.bool false],[]⟩).memory Tryz.f4.params.toList Rows.topBootsSpec.vars false #[.agg (Array.replicate 32 (Value.int .u8 0)),.slice none 0 0,.slice none 0 0,.slice none 0 0,.int .u16 0,.agg (Array.replicate 64 (Value.int .u32 0)),.bool false].toList 8=some ([.agg (List.replicate 32 (.lit (.int .u8 0))),.nil,.nil,.nil,.lit (.int .u16 0),.agg (List.replicate 64 (.lit (.int .u32 0))),.lit (.bool false)],[],places):=
 ⟨[],by kernel_rfl⟩
set_option maxRecDepth 100000 in
theorem lifted(os:Os)(started:os.Started)(H:Type)(enc:TypeId×Value→H)(F:Stop.Interp):
  ReturnsInHanded {} Tryz.checked os 4 .any ((OpenSpec.ofChange Rows.topBootsSpec).preRow enc Tryz.prog Tryz.f4 Rows.topBootsRow.domain false Rows.topBootsRow.laid) (((OpenSpec.ofChange Rows.topBootsSpec).at F).post enc Tryz.prog Tryz.f4 false true false false):=by
 obtain⟨places,hx⟩:=reads os enc
 refine returnsInHanded_of_row (C:=Tryz.checked) (s:=(OpenSpec.ofChange Rows.topBootsSpec)) own started (by kernel_rfl) Tryz.func4
  (witness_row_at (enc:=enc) (C:=Tryz.checked) false (B7 os) #[.agg (Array.replicate 32 (Value.int .u8 0)),.slice none 0 0,.slice none 0 0,.slice none 0 0,.int .u16 0,.agg (Array.replicate 64 (Value.int .u32 0)),.bool false] rfl (by kernel_rfl) (by kernel_rfl) (by kernel_rfl)
   (OpenSpec.preRow_of_cond 8 hx (by kernel_rfl) (fun k hk=>by cases hk) (by kernel_rfl) (ZS os))) ?_
 intro W base args ds gs before hval hW _ _ _ hL _ _
 exact row_law (YQ CJ ctxJ) laid (n:=9) (ks:=K) (tb:=Tryz.f4.resultTypes.getD 0 0) (by kernel_rfl) (by kernel_rfl) rfl (by kernel_rfl) (by kernel_rfl) (fun ds h=>by match ds,h with|[_,_,_,_,_,_,_],_=>rfl) (fun dd h _=>law dd h) hval hW (fun g d h=>globs hL g d h)
theorem and_t{a b:Bool}(h1:a=true)(h2:b=true):(a&&b)=true:=by rw[h1,h2];rfl
set_option maxHeartbeats 4000000 in
theorem closed3:joinedFacts Tryz.pinned.checked.prog 4 Tryz.f4 (OpenSpec.ofChange Rows.topBootsSpec).bare Rows.topBootsRow=true:=by
 unfold joinedFacts
 iterate 31 refine and_t ?_ ?_
 all_goals as_aux_lemma=>kernel_rfl
theorem over:Rows.TopBootsSaid:=
 OpenClaim.holds_of_cond 4 Tryz.f4 rfl rfl rfl rfl rfl rfl rfl ⟨rfl,rfl,rfl,rfl,rfl⟩ rfl rfl rfl rfl rfl (by as_aux_lemma=>kernel_rfl) Tryz.func4 closed3
  (of_decide_eq_true (by as_aux_lemma=>kernel_rfl)) (by as_aux_lemma=>unfold Func.isWrapper;first|(rw[if_pos (by decide+kernel)];kernel_rfl)|(rw[if_neg (by decide+kernel)];exact⟨rfl,rfl⟩))
  (fun os started H enc _ F=>by rw[OpenClaim.pre_eq_preRow];exact lifted os started H enc F)
theorem plain(f:FuncId)(fn:Func)(hf:Tryz.pinned.checked.prog.funcNamed Rows.topBootsRow.func=some f)(hfn:Tryz.pinned.checked.prog.funcs[f]?=some fn):
  false=Tryz.pinned.checked.prog.looks []∧∀(j:Nat) t,fn.params[j]?=some t→Tryz.pinned.checked.prog.wantsStandIn t=false:=by
 obtain rfl:f=4:=(Option.some.inj ((show Tryz.prog.funcNamed Rows.topBootsRow.func=some 4 by as_aux_lemma=>kernel_rfl).symm.trans hf)).symm
 obtain rfl:fn=Tryz.f4:=(Option.some.inj (Tryz.func4.symm.trans hfn)).symm
 refine⟨by as_aux_lemma=>kernel_rfl,fun j t ht=>?_⟩
 have bY:(Tryz.f4.params.toList.all fun t=>!Tryz.prog.wantsStandIn t)=true:=by as_aux_lemma=>kernel_rfl
 have:=List.all_eq_true.1 bY t (by simpa using Array.mem_of_getElem? ht)
 exact(by simpa using this:Tryz.prog.wantsStandIn t=false)
theorem proved:Rows.TopBootsCardSaid:=
 Claim7.holds_tied_plain_at .later [] _ _ _ _ over (fun _ h=>by cases h) (by as_aux_lemma=>kernel_rfl) (fun _ h=>by cases h) topBoots_row_tie rfl ⟨rfl,rfl⟩ (by as_aux_lemma=>kernel_rfl) rfl plain (by as_aux_lemma=>kernel_rfl)
end Go.Proofs.YtgcejocgnfkciaaGreatDoor.boots

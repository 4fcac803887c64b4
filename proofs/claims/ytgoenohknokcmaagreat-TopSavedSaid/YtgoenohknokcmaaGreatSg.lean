/- The contracts of all functions that are reached. -/
import Derived.Test.YtgoenohknokcmaaGreatWk
import Derived.Test.YtgoenohknokcmaaGreatHm
import Derived.Test.YtgoenohknokcmaaGreatHr
import Derived.Test.YtgoenohknokcmaaGreatDe
import Derived.Test.YtgoenohknokcmaaGreatGw
import Derived.Test.YtgoenohknokcmaaGreatGd
import Derived.Test.YtgoenohknokcmaaGreatTk
open Go.Proofs.Tryz renaming prog->ab,f284->ad,f101->ao,f104->aB,f106->a1,f108->a2,f110->a5,f112->a6,f117->a7,f126->a8,f132->bb,f156->bd,f161->bf,f175->bm,f178->br,f208->bx,f213->bA,f250->bB,f251->bC,f256->bM,f260->bO,f262->bR,f266->b0,f285->b1,f10->b2,f27->b3,f84->b4,f85->b5,f98->b6
set_option linter.unusedVariables false
set_option linter.unusedSimpArgs false
set_option maxRecDepth 100000
namespace Go.AM
open Go.Proofs
theorem eQ0 {g:Go.FuncId} (f:Go.Func) (a:Tryz.prog.funcs[g]? =some f:=by kernel_rfl) (b:(f.name== "runtime.NumGoroutine")=false:=by kernel_rfl) (c:f.body.isNone=false:=by kernel_rfl):Enters Tryz.prog g:=enters_of a b c
theorem mO:ab.follows .mixedOrders=true:=by kernel_rfl
theorem rJ:Enters ab lI:=eQ0 b2
theorem Dz:Enters ab vq:=eQ0 Tryz.f12
theorem Ej:Enters ab vn:=eQ0 Tryz.f15
theorem SF:Enters ab zR:=eQ0 Tryz.f18
theorem F3:Enters ab wP:=eQ0 Tryz.f19
theorem zm:Enters ab rF:=eQ0 Tryz.f20
theorem Ep:Enters ab vo:=eQ0 Tryz.f21
theorem Ar:Enters ab qw:=eQ0 b3
theorem Ta:Enters ab AF:=eQ0 Tryz.f39
theorem zL:Enters ab m0:=eQ0 Tryz.f41
theorem Co:Enters ab uo:=eQ0 Tryz.f42
theorem zA:Enters ab rH:=eQ0 Tryz.f43
theorem Cc:Enters ab tq:=eQ0 Tryz.f44
theorem A7:Enters ab sA:=eQ0 Tryz.f45
theorem K8:Enters ab vV:=eQ0 Tryz.f49
theorem qF:Enters ab jx:=eQ0 Tryz.f59
theorem VY:Enters ab D5:=eQ0 Tryz.f60
theorem uQ:Enters ab nB:=eQ0 Tryz.f62
theorem VC:Enters ab LC:=eQ0 Tryz.f64
theorem DE:Enters ab vD:=eQ0 Tryz.f65
theorem DG:Enters ab oQ:=eQ0 Tryz.f66
theorem Cd:Enters ab td:=eQ0 Tryz.f68
theorem CG:Enters ab oh:=eQ0 Tryz.f69
theorem OB:Enters ab xD:=eQ0 Tryz.f83
theorem Ht:Enters ab nP:=eQ0 b4
theorem BE:Enters ab iO:=eQ0 b5
theorem zn:Enters ab lj:=eQ0 Tryz.f86
theorem fF:Enters ab dC:=eQ0 Tryz.f90
theorem jo:Enters ab eH:=eQ0 Tryz.f91
theorem mG:Enters ab gF:=eQ0 Tryz.f93
theorem qz:Enters ab jV:=eQ0 Tryz.f95
theorem xd:Enters ab nY:=eQ0 Tryz.f97
theorem NT:Enters ab nL:=eQ0 b6
theorem UY:Enters ab En:=eQ0 Tryz.f99
theorem Ns:Enters ab nN:=eQ0 ao
theorem M4:Enters ab nf:=eQ0 aB
theorem NS:Enters ab nx:=eQ0 a1
theorem MO:Enters ab nr:=eQ0 a2
theorem Qb:Enters ab xA:=eQ0 Tryz.f109
theorem Hs:Enters ab j8:=eQ0 a5
theorem GD:Enters ab jW:=eQ0 a6
theorem Aq:Enters ab mR:=eQ0 Tryz.f113
theorem gX:Enters ab dh:=eQ0 Tryz.f116
theorem Gx:Enters ab nT:=eQ0 a7
theorem zx:Enters ab lu:=eQ0 Tryz.f118
theorem sk:Enters ab kU:=eQ0 Tryz.f122
theorem sV:Enters ab gl:=eQ0 Tryz.f125
theorem Nt:Enters ab qK:=eQ0 a8
theorem sC:Enters ab fT:=eQ0 bb
theorem qY:Enters ab iU:=eQ0 Tryz.f133
theorem Cx:Enters ab um:=eQ0 Tryz.f138
theorem Cu:Enters ab oe:=eQ0 Tryz.f142
theorem OL:Enters ab yh:=eQ0 Tryz.f153
theorem oI:Enters ab fm:=eQ0 Tryz.f155
theorem PL:Enters ab sW:=eQ0 bd
theorem Ae:Enters ab mU:=eQ0 Tryz.f157
theorem BG:Enters ab np:=eQ0 bf
theorem ve:Enters ab mz:=eQ0 Tryz.f162
theorem sO:Enters ab fR:=eQ0 Tryz.f174
theorem Hy:Enters ab nU:=eQ0 bm
theorem HG:Enters ab nO:=eQ0 br
theorem z8:Enters ab uF:=eQ0 Tryz.f181
theorem JT:Enters ab tI:=eQ0 Tryz.f185
theorem Bw:Enters ab sD:=eQ0 Tryz.f189
theorem wi:Enters ab iX:=eQ0 Tryz.f191
theorem qb:Enters ab gP:=eQ0 Tryz.f197
theorem Ke:Enters ab o5:=eQ0 bx
theorem TY:Enters ab n_snap_open:=eQ0 Tryz.f211
theorem dQ:Enters ab cU:=eQ0 Tryz.f212
theorem dS:Enters ab cK:=eQ0 bA
theorem mX:Enters ab gk:=eQ0 Tryz.f214
theorem jF:Enters ab eA:=eQ0 Tryz.f215
theorem AA:Enters ab mW:=eQ0 Tryz.f216
theorem tx:Enters ab kS:=eQ0 Tryz.f217
theorem mT:Enters ab gm:=eQ0 Tryz.f219
theorem GN:Enters ab sd:=eQ0 Tryz.f220
theorem Et:Enters ab vh:=eQ0 Tryz.f223
theorem rz:Enters ab iP:=eQ0 Tryz.f228
theorem U0:Enters ab Ew:=eQ0 Tryz.f236
theorem pT:Enters ab iu:=eQ0 bB
theorem EB:Enters ab fO:=eQ0 bC
theorem Gg:Enters ab fJ:=eQ0 bM
theorem pD:Enters ab iw:=eQ0 bO
theorem xq:Enters ab eO:=eQ0 bR
theorem wD:Enters ab eG:=eQ0 b0
theorem G1:aF ab T1:= .ext zL zq G0
theorem G2:aF ab T2:= .ext qF p4 G1
theorem G3:aF ab T3:= .ext uQ uw G2
theorem G4:aF ab T4:= .ext CG Am G3
theorem G5:aF ab T5:= .ext zn ye G4
theorem G6:aF ab T6:= .ext Aq zr G5
theorem G7:aF ab T7:= .ext zx yn G6
theorem G8:aF ab T8:= .ext sk rI G7
theorem Lw:ax ab yh F5:=
 Sg λw A b off cap ps i f g d a e c x y h=>callsIn_wide.1 (aa8 1 (Nat.le_refl _) w A b off cap ps i f g d a e c x y h)
theorem G9:aF ab T9:= .ext OL Lw G8
theorem G10:aF ab T10:= .ext Ae zj G9
theorem G11:aF ab T11:= .ext Bw zw G10
theorem G12:aF ab T12:=aj (C:=C0) (A:=A1) G11 G11 cok_none mO (f:=Tryz.f124) (by kernel_rfl) λbs r h=>by
  split at h
  ·exact (Py ..).trans h
  ·cases h
theorem G13:aF ab T13:=aj (C:=C0) (A:=F4) G12 G12 cok_none mO (f:=Tryz.f57) (by kernel_rfl) λbs r h=>by
  split at h
  ·exact (K1 ..).trans h
  ·cases h
theorem G14:aF ab T14:=aj (C:=C0) (A:=A1) G13 G13 cok_none mO (f:=Tryz.f28) (by kernel_rfl) λbs r h=>by
  split at h
  ·exact (LI ..).trans h
  ·cases h
theorem G15:aF ab T15:=aj (C:=C0) (A:=MC) G14 G14 cok_none mO (f:=Tryz.f70) (by kernel_rfl) λbs r h=>by
  split at h
  ·exact (Rs ..).trans h
  ·cases h
theorem Ti:ax ab M6 Np:=aF.own G15
theorem TB:ax ab En MY:=
 Yo (O:=(λl=>match l with | [[j,k,m,n]]=>lY j k m n | _=>none)) Ti λw A b off cap ps i g ob h e a f d c=>callsIn_wide.1 (af0 1 (Nat.le_refl _) w A b off cap ps i g ob h e a f d c)
theorem G16:aF ab T16:= .ext UY TB G15
theorem G17:aF ab T17:=aj (C:=C0) (A:=tV) G16 G16 cok_none mO (f:=Tryz.f203) (by kernel_rfl) λbs r h=>by
  split at h
  ·exact (AX ..).trans h
  ·cases h
theorem G18:aF ab T18:=aj (C:=C0) (A:=A1) G17 G17 cok_none mO (f:=Tryz.f148) (by kernel_rfl) λbs r h=>by
  split at h
  ·exact (xa ..).trans h
  ·cases h
theorem wL:ax ab p6 p8:=aF.own G18
theorem Oc:ax ab AF Iy:=
 Va λw A b off cap ps j h i f a g d c e=>callsIn_wide.1 (Zr 1 (Nat.le_refl _) w A b off cap ps j h i f a g d c e (Yg wL Pb))
theorem G19:aF ab T19:= .ext Ta Oc G18
theorem G20:aF ab T20:=aj (C:=C0) (A:=A1) G19 G19 cok_none mO (f:=Tryz.f236) (by kernel_rfl) λbs r h=>by
  split at h
  ·exact (SO ..).trans h
  ·cases h
theorem Ro:ax ab Ew Mn:=aF.own G20
theorem G21:aF ab T21:=aj (C:=C0) (A:=NO) G20 G20 cok_none mO (f:=Tryz.f60) (by kernel_rfl) λbs r h=>by
  split at h
  ·exact (SG ..).trans h
  ·cases h
theorem Sj:ax ab D5 Ll:=aF.own G21
theorem Hv:ax ab tI BI:=
 Cz (λ_=>rfl) (λ_=>rfl) Ro Sj U0 VY
theorem G22:aF ab T22:= .ext JT Hv G21
theorem nD {C:IV->List Nat->List (List IV)->Option (List IV)} (a:COK ab C):ax ab fm ⟨.pure,true,[1],0,λl=>match l with | [[b],[c]]=>bF C b c | _=>none⟩:=
 lM (C:=C) (A:=o6) G22 a mO (f:=Tryz.f155) (by kernel_rfl) (by kernel_rfl) (by kernel_rfl) rfl λbs r h=>by
  split at h
  ·exact (vY C ..).trans h
  ·cases h
theorem G23:aF ab T23:=aj (C:=C0) (A:=A1) G22 G22 cok_none mO (f:=bx) (by kernel_rfl) λbs r h=>by
  split at h
  ·exact (xj ..).trans h
  ·cases h
theorem EJ:COK ab (nb):=
 gI Ke (λcaps cv w ok hcap=>aP (C:=C0) (A:=A1) G22 cok_none mO (f:=bx) (by kernel_rfl) (by kernel_rfl) hcap (by kernel_rfl) λbs r h=>by
  split at h
  ·exact (xj ..).trans h
  ·cases h) <|
 cok_none
theorem Rt:aF ab (Di):= .ext oI (nD (EJ)) <| G23
theorem G24:aF ab T24:=aj (C:=(nb)) (A:=A1) G23 Rt (EJ) mO (f:=Tryz.f154) (by kernel_rfl) λbs r h=>by
  split at h
  ·exact (LR ..).trans h
  ·cases h
theorem G25:aF ab T25:=aj (C:=C0) (A:=A1) G24 G24 cok_none mO (f:=bd) (by kernel_rfl) λbs r h=>by
  split at h
  ·exact (AJ ..).trans h
  ·cases h
theorem K0:COK ab (rL):=
 gI PL (λcaps cv w ok hcap=>aP (C:=C0) (A:=A1) G24 cok_none mO (f:=bd) (by kernel_rfl) (by kernel_rfl) hcap (by kernel_rfl) λbs r h=>by
  split at h
  ·exact (AJ ..).trans h
  ·cases h) <|
 cok_none
theorem Yv:aF ab (I6):= .ext oI (nD (K0)) <| G25
theorem G26:aF ab T26:=aj (C:=(rL)) (A:=A0) G25 Yv (K0) mO (f:=Tryz.f89) (by kernel_rfl) λbs r h=>by
  split at h
  ·exact (TR ..).trans h
  ·cases h
theorem G27:aF ab T27:=aj (C:=C0) (A:=C5) G26 G26 cok_none mO (f:=Tryz.f8) (by kernel_rfl) λbs r h=>by
  split at h
  ·exact (Kc ..).trans h
  ·cases h
theorem G28:aF ab T28:= .ext zm (mn (C:=C0) (A:=lK) G27 cok_none mO (f:=Tryz.f20) (by kernel_rfl) (by kernel_rfl) (by kernel_rfl) (λvs bs r hl h=>by
  split at h
  ·rename_i heq;cases heq;exact (yz ..).trans h
  ·rename_i heq;cases heq;simp at hl
  ·cases h) (λbs r h=>by
  split at h
  ·rename_i heq;cases heq
  ·rename_i heq;cases heq;exact (uu ..).trans (xV h)
  ·cases h)) G27
theorem K7 {C:IV->List Nat->List (List IV)->Option (List IV)} (a:COK ab C):ax ab xA ⟨.pure,true,[1],0,λl=>match l with | [[b]]=>my C b | _=>none⟩:=
 lM (C:=C) (A:=Fc) G28 a mO (f:=Tryz.f109) (by kernel_rfl) (by kernel_rfl) (by kernel_rfl) rfl λbs r h=>by
  split at h
  ·exact (NR C ..).trans h
  ·cases h
theorem G29:aF ab T29:=aj (C:=C0) (A:=A1) G28 G28 cok_none mO (f:=Tryz.f177) (by kernel_rfl) λbs r h=>by
  split at h
  ·exact (EN ..).trans h
  ·cases h
theorem G30:aF ab T30:=aj (C:=C0) (A:=A1) G29 G29 cok_none mO (f:=Tryz.f111) (by kernel_rfl) λbs r h=>by
  split at h
  ·exact (Cn ..).trans h
  ·cases h
theorem G31:aF ab T31:=aj (C:=C0) (A:=A1) G30 G30 cok_none mO (f:=a5) (by kernel_rfl) λbs r h=>by
  split at h
  ·exact (vH ..).trans h
  ·cases h
theorem G32:aF ab T32:=aj (C:=C0) (A:=A1) G31 G31 cok_none mO (f:=a6) (by kernel_rfl) λbs r h=>by
  split at h
  ·exact (vJ ..).trans h
  ·cases h
theorem CQ:COK ab (iW):=
 gI Hs (λcaps cv w ok hcap=>aP (C:=C0) (A:=A1) G30 cok_none mO (f:=a5) (by kernel_rfl) (by kernel_rfl) hcap (by kernel_rfl) λbs r h=>by
  split at h
  ·exact (vH ..).trans h
  ·cases h) <|
 gI GD (λcaps cv w ok hcap=>aP (C:=C0) (A:=A1) G31 cok_none mO (f:=a6) (by kernel_rfl) (by kernel_rfl) hcap (by kernel_rfl) λbs r h=>by
  split at h
  ·exact (vJ ..).trans h
  ·cases h) <|
 cok_none
theorem PZ:aF ab (Al):= .ext Qb (K7 (CQ)) <| G32
theorem G33:aF ab T33:=aj (C:=(iW)) (A:=A1) G32 PZ (CQ) mO (f:=Tryz.f52) (by kernel_rfl) λbs r h=>by
  split at h
  ·exact (Jk ..).trans h
  ·cases h
theorem uP {C:IV->List Nat->List (List IV)->Option (List IV)} (a:COK ab C):ax ab iX ⟨.pure,true,[1],0,λl=>match l with | [[b],[c]]=>cz C b c | _=>none⟩:=
 lM (C:=C) (A:=oD) G33 a mO (f:=Tryz.f191) (by kernel_rfl) (by kernel_rfl) (by kernel_rfl) rfl λbs r h=>by
  split at h
  ·exact (uK C ..).trans h
  ·cases h
theorem tf {C:IV->List Nat->List (List IV)->Option (List IV)} (a:COK ab C):aF ab (kK C):= .ext wi (uP a) <| G33
theorem so {C:IV->List Nat->List (List IV)->Option (List IV)} (a:COK ab C):ax ab gl ⟨.pure,true,[1],0,λl=>match l with | [[b],[c]]=>cF C b c | _=>none⟩:=
 lM (C:=C) (A:=A1) (tf a) a mO (f:=Tryz.f125) (by kernel_rfl) (by kernel_rfl) (by kernel_rfl) rfl λbs r h=>by
  split at h
  ·exact (rO C ..).trans h
  ·cases h
theorem G34:aF ab T34:=aj (C:=C0) (A:=A1) G33 G33 cok_none mO (f:=Tryz.f71) (by kernel_rfl) λbs r h=>by
  split at h
  ·exact (PR ..).trans h
  ·cases h
theorem G35:aF ab T35:=aj (C:=C0) (A:=I1) G34 G34 cok_none mO (f:=Tryz.f32) (by kernel_rfl) λbs r h=>by
  split at h
  ·exact (PI ..).trans h
  ·cases h
theorem G36:aF ab T36:=aj (C:=C0) (A:=A1) G35 G35 cok_none mO (f:=a8) (by kernel_rfl) λbs r h=>by
  split at h
  ·exact (y2 ..).trans h
  ·cases h
theorem Ij:COK ab (pG):=
 gI Nt (λcaps cv w ok hcap=>aP (C:=C0) (A:=A1) G35 cok_none mO (f:=a8) (by kernel_rfl) (by kernel_rfl) hcap (by kernel_rfl) λbs r h=>by
  split at h
  ·exact (y2 ..).trans h
  ·cases h) <|
 cok_none
theorem Wx:aF ab (EO):= .ext sV (so (Ij)) <| G36
theorem G37:aF ab T37:=aj (C:=(pG)) (A:=It) G36 Wx (Ij) mO (f:=Tryz.f58) (by kernel_rfl) λbs r h=>by
  split at h
  ·exact (Qc ..).trans h
  ·cases h
theorem G38:aF ab T38:=aj (C:=C0) (A:=Ja) G37 G37 cok_none mO (f:=Tryz.f100) (by kernel_rfl) λbs r h=>by
  split at h
  ·exact (Po ..).trans h
  ·cases h
theorem G39:aF ab T39:=aj (C:=C0) (A:=wo) G38 G38 cok_none mO (f:=b6) (by kernel_rfl) λbs r h=>by
  split at h
  ·exact (y4 ..).trans h
  ·cases h
theorem gA {C:IV->List Nat->List (List IV)->Option (List IV)} (a:COK ab C):ax ab dh ⟨.pure,true,[1],0,λl=>match l with | [[b],[c]]=>aV C b c | _=>none⟩:=
 lM (C:=C) (A:=oA) G39 a mO (f:=Tryz.f116) (by kernel_rfl) (by kernel_rfl) (by kernel_rfl) rfl λbs r h=>by
  split at h
  ·exact (uO C ..).trans h
  ·cases h
theorem G40:aF ab T40:=aj (C:=C0) (A:=A1) G39 G39 cok_none mO (f:=br) (by kernel_rfl) λbs r h=>by
  split at h
  ·exact (vf ..).trans h
  ·cases h
theorem Db:COK ab (k8):=
 gI HG (λcaps cv w ok hcap=>aP (C:=C0) (A:=A1) G39 cok_none mO (f:=br) (by kernel_rfl) (by kernel_rfl) hcap (by kernel_rfl) λbs r h=>by
  split at h
  ·exact (vf ..).trans h
  ·cases h) <|
 cok_none
theorem Oz:aF ab (BK):= .ext gX (gA (Db)) <| G40
theorem G41:aF ab T41:=aj (C:=(k8)) (A:=A1) G40 Oz (Db) mO (f:=Tryz.f114) (by kernel_rfl) λbs r h=>by
  split at h
  ·exact (Kl ..).trans h
  ·cases h
theorem G42:aF ab T42:=aj (C:=C0) (A:=wV) G41 G41 cok_none mO (f:=Tryz.f115) (by kernel_rfl) λbs r h=>by
  split at h
  ·exact (Dv ..).trans h
  ·cases h
theorem G43:aF ab T43:=aj (C:=C0) (A:=A1) G42 G42 cok_none mO (f:=a7) (by kernel_rfl) λbs r h=>by
  split at h
  ·exact (vG ..).trans h
  ·cases h
theorem C7:COK ab (lG):=
 gI Gx (λcaps cv w ok hcap=>aP (C:=C0) (A:=A1) G42 cok_none mO (f:=a7) (by kernel_rfl) (by kernel_rfl) hcap (by kernel_rfl) λbs r h=>by
  split at h
  ·exact (vG ..).trans h
  ·cases h) <|
 cok_none
theorem NY:aF ab (AU):= .ext gX (gA (C7)) <| G43
theorem G44:aF ab T44:=aj (C:=(lG)) (A:=C2) G43 NY (C7) mO (f:=Tryz.f54) (by kernel_rfl) λbs r h=>by
  split at h
  ·exact (Jy ..).trans h
  ·cases h
theorem G45:aF ab T45:=aj (C:=C0) (A:=Nh) G44 G44 cok_none mO (f:=Tryz.f103) (by kernel_rfl) λbs r h=>by
  split at h
  ·exact (Rm ..).trans h
  ·cases h
theorem tW {C:IV->List Nat->List (List IV)->Option (List IV)} (a:COK ab C):aF ab (kL C):= .ext gX (gA a) <| G45
theorem rS {C:IV->List Nat->List (List IV)->Option (List IV)} (a:COK ab C):ax ab fR ⟨.pure,true,[1],0,λl=>match l with | [[b],[c]]=>cD C b c | _=>none⟩:=
 lM (C:=C) (A:=A1) (tW a) a mO (f:=Tryz.f174) (by kernel_rfl) (by kernel_rfl) (by kernel_rfl) rfl λbs r h=>by
  split at h
  ·exact (rQ C ..).trans h
  ·cases h
theorem G46:aF ab T46:=aj (C:=C0) (A:=A1) G45 G45 cok_none mO (f:=Tryz.f176) (by kernel_rfl) λbs r h=>by
  split at h
  ·exact (PU ..).trans h
  ·cases h
theorem G47:aF ab T47:=aj (C:=C0) (A:=rR) G46 G46 cok_none mO (f:=bm) (by kernel_rfl) λbs r h=>by
  split at h
  ·exact (uY ..).trans h
  ·cases h
theorem CV:COK ab (lR):=
 gI Hy (λcaps cv w ok hcap=>aP (C:=C0) (A:=rR) G46 cok_none mO (f:=bm) (by kernel_rfl) (by kernel_rfl) hcap (by kernel_rfl) λbs r h=>by
  split at h
  ·exact (uY ..).trans h
  ·cases h) <|
 cok_none
theorem N4:aF ab (Af):= .ext sO (rS (CV)) <| G47
theorem G48:aF ab T48:=aj (C:=(lR)) (A:=A1) G47 N4 (CV) mO (f:=Tryz.f102) (by kernel_rfl) λbs r h=>by
  split at h
  ·exact (JC ..).trans h
  ·cases h
theorem G49:aF ab T49:=aj (C:=C0) (A:=wq) G48 G48 cok_none mO (f:=ao) (by kernel_rfl) λbs r h=>by
  split at h
  ·exact (yO ..).trans h
  ·cases h
theorem G50:aF ab T50:=aj (C:=C0) (A:=CK) G49 G49 cok_none mO (f:=Tryz.f105) (by kernel_rfl) λbs r h=>by
  split at h
  ·exact (JE ..).trans h
  ·cases h
theorem G51:aF ab T51:=aj (C:=C0) (A:=wk) G50 G50 cok_none mO (f:=aB) (by kernel_rfl) λbs r h=>by
  split at h
  ·exact (yT ..).trans h
  ·cases h
theorem G52:aF ab T52:=aj (C:=C0) (A:=A1) G51 G51 cok_none mO (f:=b5) (by kernel_rfl) λbs r h=>by
  split at h
  ·exact (p9 ..).trans h
  ·cases h
theorem G53:aF ab T53:=aj (C:=C0) (A:=Da) G52 G52 cok_none mO (f:=Tryz.f107) (by kernel_rfl) λbs r h=>by
  split at h
  ·exact (Js ..).trans h
  ·cases h
theorem G54:aF ab T54:=aj (C:=C0) (A:=vZ) G53 G53 cok_none mO (f:=a1) (by kernel_rfl) λbs r h=>by
  split at h
  ·exact (yW ..).trans h
  ·cases h
theorem G55:aF ab T55:=aj (C:=C0) (A:=wW) G54 G54 cok_none mO (f:=Tryz.f53) (by kernel_rfl) λbs r h=>by
  split at h
  ·exact (DQ ..).trans h
  ·cases h
theorem G56:aF ab T56:=aj (C:=C0) (A:=A1) G55 G55 cok_none mO (f:=a2) (by kernel_rfl) λbs r h=>by
  split at h
  ·exact (y9 ..).trans h
  ·cases h
theorem Ub:COK ab (dX):=
 gI NT (λcaps cv w ok hcap=>aP (C:=C0) (A:=wo) G38 cok_none mO (f:=b6) (by kernel_rfl) (by kernel_rfl) hcap (by kernel_rfl) λbs r h=>by
  split at h
  ·exact (y4 ..).trans h
  ·cases h) <|
 gI Ns (λcaps cv w ok hcap=>aP (C:=C0) (A:=wq) G48 cok_none mO (f:=ao) (by kernel_rfl) (by kernel_rfl) hcap (by kernel_rfl) λbs r h=>by
  split at h
  ·exact (yO ..).trans h
  ·cases h) <|
 gI M4 (λcaps cv w ok hcap=>aP (C:=C0) (A:=wk) G50 cok_none mO (f:=aB) (by kernel_rfl) (by kernel_rfl) hcap (by kernel_rfl) λbs r h=>by
  split at h
  ·exact (yT ..).trans h
  ·cases h) <|
 gI NS (λcaps cv w ok hcap=>aP (C:=C0) (A:=vZ) G53 cok_none mO (f:=a1) (by kernel_rfl) (by kernel_rfl) hcap (by kernel_rfl) λbs r h=>by
  split at h
  ·exact (yW ..).trans h
  ·cases h) <|
 gI MO (λcaps cv w ok hcap=>aP (C:=C0) (A:=A1) G55 cok_none mO (f:=a2) (by kernel_rfl) (by kernel_rfl) hcap (by kernel_rfl) λbs r h=>by
  split at h
  ·exact (y9 ..).trans h
  ·cases h) <|
 cok_none
theorem G57:aF ab T57:=aj (C:=(dX)) (A:=IQ) G56 G56 (Ub) mO (f:=Tryz.f51) (by kernel_rfl) λbs r h=>by
  split at h
  ·exact (Ok ..).trans h
  ·cases h
theorem yD {C:IV->List Nat->List (List IV)->Option (List IV)} (a:COK ab C):ax ab uF ⟨.pure,true,[1],0,λl=>match l with | [[b]]=>il C b | _=>none⟩:=
 lM (C:=C) (A:=LU) G57 a mO (f:=Tryz.f181) (by kernel_rfl) (by kernel_rfl) (by kernel_rfl) rfl λbs r h=>by
  split at h
  ·exact (Ry C ..).trans h
  ·cases h
theorem G58:aF ab T58:=aj (C:=C0) (A:=A1) G57 G57 cok_none mO (f:=ad) (by kernel_rfl) λbs r h=>by
  split at h
  ·exact (gJ ..).trans h
  ·cases h
theorem G59:aF ab T59:=aj (C:=C0) (A:=A1) G58 G58 cok_none mO (f:=b1) (by kernel_rfl) λbs r h=>by
  split at h
  ·exact (mZ ..).trans h
  ·cases h
theorem G60:aF ab T60:=aj (C:=C0) (A:=Gn) G59 G59 cok_none mO (f:=Tryz.f238) (by kernel_rfl) λbs r h=>by
  split at h
  ·exact (Nc ..).trans h
  ·cases h
theorem G61:aF ab T61:=aj (C:=C0) (A:=A1) G60 G60 cok_none mO (f:=Tryz.f128) (by kernel_rfl) λbs r h=>by
  split at h
  ·exact (SI ..).trans h
  ·cases h
theorem G62:aF ab T62:=aj (C:=C0) (A:=wH) G61 G61 cok_none mO (f:=Tryz.f237) (by kernel_rfl) λbs r h=>by
  split at h
  ·exact (DF ..).trans h
  ·cases h
theorem G63:aF ab T63:=aj (C:=C0) (A:=CW) G62 G62 cok_none mO (f:=Tryz.f186) (by kernel_rfl) λbs r h=>by
  split at h
  ·exact (JI ..).trans h
  ·cases h
theorem G64:aF ab T64:=aj (C:=C0) (A:=CN) G63 G63 cok_none mO (f:=Tryz.f187) (by kernel_rfl) λbs r h=>by
  split at h
  ·exact (JD ..).trans h
  ·cases h
theorem G65:aF ab T65:=aj (C:=C0) (A:=A1) G64 G64 cok_none mO (f:=Tryz.f286) (by kernel_rfl) λbs r h=>by
  split at h
  ·exact (re ..).trans h
  ·cases h
theorem G66:aF ab T66:=aj (C:=C0) (A:=EY) G65 G65 cok_none mO (f:=Tryz.f193) (by kernel_rfl) λbs r h=>by
  split at h
  ·exact (Lu ..).trans h
  ·cases h
theorem G67:aF ab T67:=aj (C:=C0) (A:=A1) G66 G66 cok_none mO (f:=Tryz.f242) (by kernel_rfl) λbs r h=>by
  split at h
  ·exact (Kh ..).trans h
  ·cases h
theorem G68:aF ab T68:=aj (C:=C0) (A:=FC) G67 G67 cok_none mO (f:=Tryz.f194) (by kernel_rfl) λbs r h=>by
  split at h
  ·exact (KX ..).trans h
  ·cases h
theorem G69:aF ab T69:=aj (C:=C0) (A:=A1) G68 G68 cok_none mO (f:=Tryz.f130) (by kernel_rfl) λbs r h=>by
  split at h
  ·exact (P6 ..).trans h
  ·cases h
theorem G70:aF ab T70:=aj (C:=C0) (A:=sE) G69 G69 cok_none mO (f:=Tryz.f263) (by kernel_rfl) λbs r h=>by
  split at h
  ·exact (zh ..).trans h
  ·cases h
theorem gK:ax ab iw ⟨.inl eb,false,[],0,λ_=>none⟩:=
 aQ (C:=C0) (A:=A0) G70 cok_none mO (f:=bO) (by kernel_rfl) (by kernel_rfl)
theorem pW:aF ab gV:= .ext pD gK <| G70
theorem nZ:ax ab eG ⟨.inl iA,false,[],0,λ_=>none⟩:=
 aQ (C:=C0) (A:=A0) pW cok_none mO (f:=b0) (by kernel_rfl) (by kernel_rfl)
theorem JM:aF ab (wJ):= .ext pD gK <| .ext wD nZ <| G70
theorem G71:aF ab T71:=aj (C:=C0) (A:=yV) G70 JM cok_none mO (f:=Tryz.f255) (by kernel_rfl) λbs r h=>by
  split at h
  ·exact (FA ..).trans h
  ·cases h
theorem G72:aF ab T72:=aj (C:=C0) (A:=Aa) G71 G71 cok_none mO (f:=Tryz.f239) (by kernel_rfl) λbs r h=>by
  split at h
  ·exact (HT ..).trans h
  ·cases h
theorem G73:aF ab T73:=aj (C:=C0) (A:=A1) G72 G72 cok_none mO (f:=Tryz.f184) (by kernel_rfl) λbs r h=>by
  split at h
  ·exact (LM ..).trans h
  ·cases h
theorem G74:aF ab T74:=aj (C:=C0) (A:=A1) G73 G73 cok_none mO (f:=Tryz.f252) (by kernel_rfl) λbs r h=>by
  split at h
  ·exact (M0 ..).trans h
  ·cases h
theorem G75:aF ab T75:=aj (C:=C0) (A:=A1) G74 G74 cok_none mO (f:=bM) (by kernel_rfl) λbs r h=>by
  split at h
  ·exact (ua ..).trans h
  ·cases h
theorem tD:COK ab (da):=
 gI Gg (λcaps cv w ok hcap=>aP (C:=C0) (A:=A1) G74 cok_none mO (f:=bM) (by kernel_rfl) (by kernel_rfl) hcap (by kernel_rfl) λbs r h=>by
  split at h
  ·exact (ua ..).trans h
  ·cases h) <|
 cok_none
theorem iG:ax ab iu ⟨.inl eM,false,[],0,λ_=>none⟩:=
 aQ (C:=(da)) (A:=A0) G75 (tD) mO (f:=bB) (by kernel_rfl) (by kernel_rfl)
theorem qp:aF ab iK:= .ext pT iG <| G75
theorem oN:ax ab eO ⟨.inl jl,false,[],0,λ_=>none⟩:=
 aQ (C:=(da)) (A:=A0) qp (tD) mO (f:=bR) (by kernel_rfl) (by kernel_rfl)
theorem MQ:aF ab (yS):= .ext pT iG <| .ext xq oN <| G75
theorem G76:aF ab T76:=aj (C:=(da)) (A:=AN) G75 MQ (tD) mO (f:=Tryz.f240) (by kernel_rfl) λbs r h=>by
  split at h
  ·exact (H4 ..).trans h
  ·cases h
theorem G77:aF ab T77:=aj (C:=C0) (A:=wE) G76 G76 cok_none mO (f:=Tryz.f188) (by kernel_rfl) λbs r h=>by
  split at h
  ·exact (DI ..).trans h
  ·cases h
theorem G78:aF ab T78:=aj (C:=C0) (A:=A1) G77 G77 cok_none mO (f:=Tryz.f287) (by kernel_rfl) λbs r h=>by
  split at h
  ·exact (qX ..).trans h
  ·cases h
theorem ael:aF ab T78:=G78
theorem yU:COK ab eE:=
 pd (t:=266) (g:=284) (one:=false) (λu w=>by kernel_rfl) (λy u w ok a=>aP (C:=C0) (A:=A1) G57 cok_none mO (f:=ad) (by kernel_rfl) (by kernel_rfl) (ug a) (by kernel_rfl) λbs r h=>by
  split at h
  ·rename_i heq;cases heq;exact (gJ ..).trans h
  ·cases h) <|
 pd (t:=322) (g:=285) (one:=false) (λu w=>by kernel_rfl) (λy u w ok a=>aP (C:=C0) (A:=A1) G58 cok_none mO (f:=b1) (by kernel_rfl) (by kernel_rfl) (ug a) (by kernel_rfl) λbs r h=>by
  split at h
  ·rename_i heq;cases heq;exact (mZ ..).trans h
  ·cases h) <|
 pd (t:=323) (g:=286) (one:=false) (λu w=>by kernel_rfl) (λy u w ok a=>aP (C:=C0) (A:=A1) G64 cok_none mO (f:=Tryz.f286) (by kernel_rfl) (by kernel_rfl) (ug a) (by kernel_rfl) λbs r h=>by
  split at h
  ·rename_i heq;cases heq;exact (re ..).trans h
  ·cases h) <|
 pd (t:=324) (g:=287) (one:=false) (λu w=>by kernel_rfl) (λy u w ok a=>aP (C:=C0) (A:=A1) G77 cok_none mO (f:=Tryz.f287) (by kernel_rfl) (by kernel_rfl) (ug a) (by kernel_rfl) λbs r h=>by
  split at h
  ·rename_i heq;cases heq;exact (qX ..).trans h
  ·cases h) <|
 cok_none
theorem zQ:COK ab gC:=
 pd (t:=326) (g:=288) (one:=true) (λu w=>by kernel_rfl) (λy u w ok c=>by
  have h:=QI (A:=A0) ael yU mO (g:=288) (f:=Tryz.f288) (by kernel_rfl) (by kernel_rfl) (VV eE) y u w ok c
  refine λw ok bs args r h1 h2 b a=>h w ok bs args r h1 h2 b ?_
  revert a;cases bs<;>exact λa=>a) <|
 yU
theorem MH:aF ab (zb):= .ext z8 (yD (zQ)) <| G78
theorem G79:aF ab T79:=aj (C:=(gC)) (A:=Aj) G78 MH (zQ) mO (f:=Tryz.f182) (by kernel_rfl) λbs r h=>by
  split at h
  ·exact (H0 ..).trans h
  ·cases h
theorem wT:COK ab iY:=
 pd (t:=266) (g:=284) (one:=false) (λu w=>by kernel_rfl) (λy u w ok a=>aP (C:=C0) (A:=A1) G57 cok_none mO (f:=ad) (by kernel_rfl) (by kernel_rfl) (ug a) (by kernel_rfl) λbs r h=>by
  split at h
  ·rename_i heq;cases heq;exact (gJ ..).trans h
  ·cases h) <|
 pd (t:=322) (g:=285) (one:=false) (λu w=>by kernel_rfl) (λy u w ok a=>aP (C:=C0) (A:=A1) G58 cok_none mO (f:=b1) (by kernel_rfl) (by kernel_rfl) (ug a) (by kernel_rfl) λbs r h=>by
  split at h
  ·rename_i heq;cases heq;exact (mZ ..).trans h
  ·cases h) <|
 cok_none
theorem yM:COK ab fM:=
 pd (t:=326) (g:=288) (one:=true) (λu w=>by kernel_rfl) (λy u w ok c=>by
  have h:=QI (A:=A0) ael wT mO (g:=288) (f:=Tryz.f288) (by kernel_rfl) (by kernel_rfl) (VV iY) y u w ok c
  refine λw ok bs args r h1 h2 b a=>h w ok bs args r h1 h2 b ?_
  revert a;cases bs<;>exact λa=>a) <|
 wT
theorem Ko:aF ab (wX):= .ext z8 (yD (yM)) <| G79
theorem G80:aF ab T80:=aj (C:=(fM)) (A:=za) G79 Ko (yM) mO (f:=Tryz.f183) (by kernel_rfl) λbs r h=>by
  split at h
  ·exact (F2 ..).trans h
  ·cases h
theorem LL:COK ab Au:=
 pd (t:=266) (g:=284) (one:=false) (λu w=>by kernel_rfl) (λy u w ok a=>aP (C:=C0) (A:=A1) G57 cok_none mO (f:=ad) (by kernel_rfl) (by kernel_rfl) (ug a) (by kernel_rfl) λbs r h=>by
  split at h
  ·rename_i heq;cases heq;exact (gJ ..).trans h
  ·cases h) <|
 cok_none
theorem Dg:COK ab jq:=
 LL
theorem O1:aF ab (zX):= .ext z8 (yD (Dg)) <| G80
theorem G81:aF ab T81:=aj (C:=(jq)) (A:=Dp) G80 O1 (Dg) mO (f:=Tryz.f119) (by kernel_rfl) λbs r h=>by
  split at h
  ·exact (JF ..).trans h
  ·cases h
theorem G82:aF ab T82:=aj (C:=C0) (A:=zM) G81 G81 cok_none mO (f:=Tryz.f120) (by kernel_rfl) λbs r h=>by
  split at h
  ·exact (HV ..).trans h
  ·cases h
theorem G83:aF ab T83:=aj (C:=C0) (A:=p7) G82 G82 cok_none mO (f:=Tryz.f121) (by kernel_rfl) λbs r h=>by
  split at h
  ·exact (wC ..).trans h
  ·cases h
theorem G84:aF ab T84:=aj (C:=C0) (A:=A0) G83 G83 cok_none mO (f:=Tryz.f55) (by kernel_rfl) λbs r h=>by
  split at h
  ·exact (HI ..).trans h
  ·cases h
theorem G85:aF ab T85:=aj (C:=C0) (A:=Lr) G84 G84 cok_none mO (f:=Tryz.f257) (by kernel_rfl) λbs r h=>by
  split at h
  ·exact (S2 ..).trans h
  ·cases h
theorem G86:aF ab T86:=aj (C:=C0) (A:=A1) G85 G85 cok_none mO (f:=Tryz.f241) (by kernel_rfl) λbs r h=>by
  split at h
  ·exact (U1 ..).trans h
  ·cases h
theorem G87:aF ab T87:=aj (C:=C0) (A:=Fz) G86 G86 cok_none mO (f:=Tryz.f129) (by kernel_rfl) λbs r h=>by
  split at h
  ·exact (LK ..).trans h
  ·cases h
theorem G88:aF ab T88:=aj (C:=C0) (A:=A1) G87 G87 cok_none mO (f:=Tryz.f190) (by kernel_rfl) λbs r h=>by
  split at h
  ·exact (HC ..).trans h
  ·cases h
theorem G89:aF ab T89:=aj (C:=C0) (A:=Iv) G88 G88 cok_none mO (f:=Tryz.f123) (by kernel_rfl) λbs r h=>by
  split at h
  ·exact (N0 ..).trans h
  ·cases h
theorem G90:aF ab T90:=aj (C:=C0) (A:=FN) G89 G89 cok_none mO (f:=Tryz.f56) (by kernel_rfl) λbs r h=>by
  split at h
  ·exact (Nz ..).trans h
  ·cases h
theorem G91:aF ab T91:=aj (C:=C0) (A:=A1) G90 G90 cok_none mO (f:=Tryz.f26) (by kernel_rfl) λbs r h=>by
  split at h
  ·exact (Ln ..).trans h
  ·cases h
theorem G92:aF ab T92:=aj (C:=C0) (A:=ov) G91 G91 cok_none mO (f:=Tryz.f243) (by kernel_rfl) λbs r h=>by
  split at h
  ·exact (uV ..).trans h
  ·cases h
theorem G93:aF ab T93:=aj (C:=C0) (A:=A1) G92 G92 cok_none mO (f:=Tryz.f195) (by kernel_rfl) λbs r h=>by
  split at h
  ·exact (uN ..).trans h
  ·cases h
theorem G94:aF ab T94:=aj (C:=C0) (A:=A1) G93 G93 cok_none mO (f:=Tryz.f131) (by kernel_rfl) λbs r h=>by
  split at h
  ·exact (zF ..).trans h
  ·cases h
theorem G95:aF ab T95:=aj (C:=C0) (A:=A1) G94 G94 cok_none mO (f:=Tryz.f63) (by kernel_rfl) λbs r h=>by
  split at h
  ·exact (E6 ..).trans h
  ·cases h
theorem G96:aF ab T96:= .ext VC (sig_mko (C:=C0) (A:=A0) G95 cok_none mO (f:=Tryz.f64) (by kernel_rfl) (by kernel_rfl) (λbs r h=>by
  split at h
  ·exact (R0 ..).trans h
  ·cases h)) G95
theorem G97:aF ab T97:=aj (C:=C0) (A:=A1) G96 G96 cok_none mO (f:=Tryz.f134) (by kernel_rfl) λbs r h=>by
  split at h
  ·exact (Od ..).trans h
  ·cases h
theorem du:ax ab gP ⟨.inl cy,false,[],0,λ_=>none⟩:=
 aQ (C:=C0) (A:=dT) G97 cok_none mO (f:=Tryz.f197) (by kernel_rfl) (by kernel_rfl)
theorem mK:aF ab ei:= .ext qb du <| G97
theorem kJ:ax ab fT ⟨.inl en,false,[],0,λ_=>none⟩:=
 xu (C:=C0) (A:=eo) mK cok_none mO oG (f:=bb) (by kernel_rfl) (by kernel_rfl)
theorem DP:aF ab (sH):= .ext qb du <| .ext sC kJ <| G97
theorem G98:aF ab T98:= .ext Cx (mn (C:=C0) (A:=A0) DP cok_none mO (f:=Tryz.f138) (by kernel_rfl) (by kernel_rfl) (by kernel_rfl) (λvs bs r hl h=>by
  split at h
  ·rename_i heq;cases heq;exact (AO ..).trans h
  ·cases h) (λbs r h=>by
  split at h
  ·rename_i heq;cases heq
  ·cases h)) G97
theorem dL:ax ab iU ⟨.inl cM,false,[],0,λ_=>none⟩:=
 aQ (C:=C0) (A:=ej) G98 cok_none mO (f:=Tryz.f133) (by kernel_rfl) (by kernel_rfl)
theorem mS:aF ab ez:= .ext qY dL <| G98
theorem kW:ax ab fT ⟨.inl eX,false,[],0,λ_=>none⟩:=
 xu (C:=C0) (A:=eY) mS cok_none mO oG (f:=bb) (by kernel_rfl) (by kernel_rfl)
theorem FI:aF ab (uG):= .ext qY dL <| .ext sC kW <| G98
theorem G99:aF ab T99:= .ext DE (mn (C:=C0) (A:=A0) FI cok_none mO (f:=Tryz.f65) (by kernel_rfl) (by kernel_rfl) (by kernel_rfl) (λvs bs r hl h=>by
  split at h
  ·rename_i heq;cases heq;exact (Ct ..).trans h
  ·cases h) (λbs r h=>by
  split at h
  ·rename_i heq;cases heq
  ·cases h)) G98
theorem AI:ax ab oQ ⟨.pure,true,[1],0,λl=>match l with | [[a]]=>kT a | _=>none⟩:=
 lM (C:=C0) (A:=A1) G99 cok_none mO (f:=Tryz.f66) (by kernel_rfl) (by kernel_rfl) (by kernel_rfl) rfl λbs r h=>by
  split at h
  ·exact (Cj ..).trans h
  ·cases h
theorem ahf:aF ab aeP:= .ext DG (Gf AI) G99
theorem zC:ax ab oe ⟨.pure,true,[1],0,λl=>match l with | [[a]]=>jC a | _=>none⟩:=
 lM (C:=C0) (A:=A1) ahf cok_none mO (f:=Tryz.f142) (by kernel_rfl) (by kernel_rfl) (by kernel_rfl) rfl λbs r h=>by
  split at h
  ·exact (Bf ..).trans h
  ·cases h
theorem agp:aF ab aeZ:= .ext Cu (Gf zC) ahf
theorem ahq:aF ab afu:=aj (C:=C0) (A:=CL) agp agp cok_none mO (f:=Tryz.f158) (by kernel_rfl) λbs r h=>by
  split at h
  ·exact (Jh ..).trans h
  ·cases h
theorem agC:aF ab afV:=aj (C:=C0) (A:=CM) ahq ahq cok_none mO (f:=Tryz.f92) (by kernel_rfl) λbs r h=>by
  split at h
  ·exact (Ka ..).trans h
  ·cases h
theorem G104:aF ab T104:= .ext Cd (mn (C:=C0) (A:=tj) agC cok_none mO (f:=Tryz.f68) (by kernel_rfl) (by kernel_rfl) (by kernel_rfl) (λvs bs r hl h=>by
  split at h
  ·rename_i heq;cases heq;exact (Ag ..).trans h
  ·cases h) (λbs r h=>by
  split at h
  ·rename_i heq;cases heq
  ·cases h)) agC
theorem agJ:aF ab aew:= .ext TY (sig_mko (C:=C0) (A:=A0) G104 cok_none mO (f:=Tryz.f211) (by kernel_rfl) (by kernel_rfl) (λbs r h=>by
  split at h
  ·exact (Pw ..).trans h
  ·cases h)) G104
theorem agz:aF ab afv:=aj (C:=C0) (A:=A4) agJ agJ cok_none mO (f:=Tryz.f218) (by kernel_rfl) λbs r h=>by
  split at h
  ·exact (HE ..).trans h
  ·cases h
theorem agv:aF ab afs:=aj (C:=C0) (A:=IH) agz agz cok_none mO (f:=Tryz.f222) (by kernel_rfl) λbs r h=>by
  split at h
  ·exact (OG ..).trans h
  ·cases h
theorem ahc:aF ab afg:=aj (C:=C0) (A:=A1) agv agv cok_none mO (f:=Tryz.f173) (by kernel_rfl) λbs r h=>by
  split at h
  ·exact (LA ..).trans h
  ·cases h
theorem agP:aF ab aeM:=aj (C:=C0) (A:=A1) ahc ahc cok_none mO (f:=Tryz.f164) (by kernel_rfl) λbs r h=>by
  split at h
  ·exact (Oi ..).trans h
  ·cases h
theorem agR:aF ab afU:=aj (C:=C0) (A:=A1) agP agP cok_none mO (f:=Tryz.f265) (by kernel_rfl) λbs r h=>by
  split at h
  ·exact (MU ..).trans h
  ·cases h
theorem ahG:aF ab aeR:=aj (C:=C0) (A:=A1) agR agR cok_none mO (f:=Tryz.f264) (by kernel_rfl) λbs r h=>by
  split at h
  ·exact (Nl ..).trans h
  ·cases h
theorem ahm:aF ab af1:=aj (C:=C0) (A:=A1) ahG ahG cok_none mO (f:=Tryz.f259) (by kernel_rfl) λbs r h=>by
  split at h
  ·exact (RZ ..).trans h
  ·cases h
theorem acV:aF ab acn:=aj (C:=C0) (A:=rB) ahm ahm cok_none mO (f:=Tryz.f261) (by kernel_rfl) λbs r h=>by
  split at h
  ·exact (yb ..).trans h
  ·cases h
theorem iB:ax ab iw ⟨.inl eT,false,[],0,λ_=>none⟩:=
 aQ (C:=C0) (A:=A0) acV cok_none mO (f:=bO) (by kernel_rfl) (by kernel_rfl)
theorem qn:aF ab iL:= .ext pD iB <| acV
theorem oM:ax ab eG ⟨.inl ji,false,[],0,λ_=>none⟩:=
 aQ (C:=C0) (A:=A0) qn cok_none mO (f:=b0) (by kernel_rfl) (by kernel_rfl)
theorem Mz:aF ab (y1):= .ext pD iB <| .ext wD oM <| acV
theorem agw:aF ab afp:=aj (C:=C0) (A:=Bd) acV Mz cok_none mO (f:=Tryz.f249) (by kernel_rfl) λbs r h=>by
  split at h
  ·exact (HJ ..).trans h
  ·cases h
theorem agr:aF ab afO:=aj (C:=C0) (A:=BN) agw agw cok_none mO (f:=Tryz.f230) (by kernel_rfl) λbs r h=>by
  split at h
  ·exact (GH ..).trans h
  ·cases h
theorem ag5:aF ab aeJ:=aj (C:=C0) (A:=A0) agr agr cok_none mO (f:=Tryz.f229) (by kernel_rfl) λbs r h=>by
  split at h
  ·exact (J8 ..).trans h
  ·cases h
theorem ahp:aF ab afe:=aj (C:=C0) (A:=Dt) ag5 ag5 cok_none mO (f:=Tryz.f232) (by kernel_rfl) λbs r h=>by
  split at h
  ·exact (Ki ..).trans h
  ·cases h
theorem agF:aF ab ae8:=aj (C:=C0) (A:=F9) ahp ahp cok_none mO (f:=Tryz.f141) (by kernel_rfl) λbs r h=>by
  split at h
  ·exact (L0 ..).trans h
  ·cases h
theorem agq:aF ab afy:=aj (C:=C0) (A:=Gs) agF agF cok_none mO (f:=Tryz.f199) (by kernel_rfl) λbs r h=>by
  split at h
  ·exact (NF ..).trans h
  ·cases h
theorem aeT:aF ab aeQ:=aj (C:=C0) (A:=Fw) agq agq cok_none mO (f:=Tryz.f140) (by kernel_rfl) λbs r h=>by
  split at h
  ·exact (Nu ..).trans h
  ·cases h
theorem adG:aF ab aa9:=aj (C:=C0) (A:=A1) aeT aeT cok_none mO (f:=bC) (by kernel_rfl) λbs r h=>by
  split at h
  ·exact (ur ..).trans h
  ·cases h
theorem ta:COK ab (cZ):=
 gI EB (λcaps cv w ok hcap=>aP (C:=C0) (A:=A1) aeT cok_none mO (f:=bC) (by kernel_rfl) (by kernel_rfl) hcap (by kernel_rfl) λbs r h=>by
  split at h
  ·exact (ur ..).trans h
  ·cases h) <|
 cok_none
theorem iC:ax ab iu ⟨.inl eF,false,[],0,λ_=>none⟩:=
 aQ (C:=(cZ)) (A:=A0) adG (ta) mO (f:=bB) (by kernel_rfl) (by kernel_rfl)
theorem qu:aF ab iE:= .ext pT iC <| adG
theorem oJ:ax ab eO ⟨.inl jj,false,[],0,λ_=>none⟩:=
 aQ (C:=(cZ)) (A:=A0) qu (ta) mO (f:=bR) (by kernel_rfl) (by kernel_rfl)
theorem Ld:aF ab (y8):= .ext pT iC <| .ext xq oJ <| adG
theorem ahk:aF ab afa:=aj (C:=(cZ)) (A:=AZ) adG Ld (ta) mO (f:=Tryz.f231) (by kernel_rfl) λbs r h=>by
  split at h
  ·exact (HF ..).trans h
  ·cases h
theorem agb:aF ab aeN:=aj (C:=C0) (A:=A0) ahk ahk cok_none mO (f:=Tryz.f171) (by kernel_rfl) λbs r h=>by
  split at h
  ·exact (Kn ..).trans h
  ·cases h
theorem adg:aF ab abE:=aj (C:=C0) (A:=A1) agb agb cok_none mO (f:=Tryz.f233) (by kernel_rfl) λbs r h=>by
  split at h
  ·exact (Pn ..).trans h
  ·cases h
theorem dJ:ax ab iP ⟨.inl cP,false,[],0,λ_=>none⟩:=
 aQ (C:=C0) (A:=ep) adg cok_none mO (f:=Tryz.f228) (by kernel_rfl) (by kernel_rfl)
theorem pY:aF ab gH:= .ext rz dJ <| adg
theorem oc:ax ab np ⟨.inl iI,false,[],0,λ_=>none⟩:=
 xu (C:=C0) (A:=A0) pY cok_none mO tu (f:=bf) (by kernel_rfl) (by kernel_rfl)
theorem Fj:aF ab (uC):= .ext rz dJ <| .ext BG oc <| adg
theorem ag0:aF ab aex:=aj (C:=C0) (A:=A0) adg Fj cok_none mO (f:=Tryz.f172) (by kernel_rfl) λbs r h=>by
  split at h
  ·exact (Cm ..).trans h
  ·cases h
theorem agj:aF ab afL:=aj (C:=C0) (A:=I4) ag0 ag0 cok_none mO (f:=Tryz.f137) (by kernel_rfl) λbs r h=>by
  split at h
  ·exact (OS ..).trans h
  ·cases h
theorem ag2:aF ab aeO:=aj (C:=C0) (A:=NH) agj agj cok_none mO (f:=Tryz.f247) (by kernel_rfl) λbs r h=>by
  split at h
  ·exact (SB ..).trans h
  ·cases h
theorem ahQ:aF ab afh:=aj (C:=C0) (A:=oU) ag2 ag2 cok_none mO (f:=Tryz.f248) (by kernel_rfl) λbs r h=>by
  split at h
  ·exact (wb ..).trans h
  ·cases h
theorem aha:aF ab aeS:=aj (C:=C0) (A:=Dk) ahQ ahQ cok_none mO (f:=Tryz.f225) (by kernel_rfl) λbs r h=>by
  split at h
  ·exact (Kq ..).trans h
  ·cases h
theorem aho:aF ab aeC:=aj (C:=C0) (A:=CX) aha aha cok_none mO (f:=Tryz.f168) (by kernel_rfl) λbs r h=>by
  split at h
  ·exact (Kk ..).trans h
  ·cases h
theorem ahw:aF ab ae9:=aj (C:=C0) (A:=L4) aho aho cok_none mO (f:=Tryz.f226) (by kernel_rfl) λbs r h=>by
  split at h
  ·exact (RB ..).trans h
  ·cases h
theorem ago:aF ab afH:=aj (C:=C0) (A:=IX) ahw ahw cok_none mO (f:=Tryz.f227) (by kernel_rfl) λbs r h=>by
  split at h
  ·exact (PX ..).trans h
  ·cases h
theorem agk:aF ab ae0:=aj (C:=C0) (A:=CO) ago ago cok_none mO (f:=Tryz.f170) (by kernel_rfl) λbs r h=>by
  split at h
  ·exact (JW ..).trans h
  ·cases h
theorem agY:aF ab aeb:=aj (C:=C0) (A:=A1) agk agk cok_none mO (f:=Tryz.f246) (by kernel_rfl) λbs r h=>by
  split at h
  ·exact (SC ..).trans h
  ·cases h
theorem ahI:aF ab afB:= .ext Et (mn (C:=C0) (A:=A0) agY cok_none mO (f:=Tryz.f223) (by kernel_rfl) (by kernel_rfl) (by kernel_rfl) (λvs bs r hl h=>by
  split at h
  ·rename_i heq;cases heq;exact (CF ..).trans h
  ·rename_i heq;cases heq;simp at hl
  ·cases h) (λbs r h=>by
  split at h
  ·rename_i heq;cases heq
  ·rename_i heq;cases heq;exact (wM ..).trans (xV h)
  ·cases h)) agY
theorem agD:aF ab aet:=aj (C:=C0) (A:=FY) ahI ahI cok_none mO (f:=Tryz.f224) (by kernel_rfl) λbs r h=>by
  split at h
  ·exact (Mk ..).trans h
  ·cases h
theorem Vq:aF ab R2:=aj (C:=C0) (A:=Ab) agD agD cok_none mO (f:=Tryz.f166) (by kernel_rfl) λbs r h=>by
  split at h
  ·exact (GZ ..).trans h
  ·cases h
theorem aR:ax ab cU ⟨.inl aO,false,[],0,λ_=>none⟩:=
 aQ (C:=C0) (A:=A0) Vq cok_none mO (f:=Tryz.f212) (by kernel_rfl) (by kernel_rfl)
theorem pV:aF ab gQ:= .ext dQ aR <| Vq
theorem bl:ax ab cK ⟨.inl bj,false,[],0,λ_=>none⟩:=
 aQ (C:=C0) (A:=A0) pV cok_none mO (f:=bA) (by kernel_rfl) (by kernel_rfl)
theorem oL:aF ab gb:= .ext dQ aR <| .ext dS bl <| Vq
theorem bS:ax ab eA ⟨.inl bz,false,[],0,λ_=>none⟩:=
 aQ (C:=C0) (A:=A0) oL cok_none mO (f:=Tryz.f215) (by kernel_rfl) (by kernel_rfl)
theorem od:aF ab fx:= .ext dQ aR <| .ext dS bl <| .ext jF bS <| Vq
theorem cN:ax ab gk ⟨.inl bZ,false,[],0,λ_=>none⟩:=
 aQ (C:=C0) (A:=A0) od cok_none mO (f:=Tryz.f214) (by kernel_rfl) (by kernel_rfl)
theorem oK:aF ab fX:= .ext dQ aR <| .ext dS bl <| .ext jF bS <| .ext mX cN <| Vq
theorem eV:ax ab kS ⟨.inl dj,false,[],0,λ_=>none⟩:=
 aQ (C:=C0) (A:=A0) oK cok_none mO (f:=Tryz.f217) (by kernel_rfl) (by kernel_rfl)
theorem m7:aF ab fj:= .ext dQ aR <| .ext dS bl <| .ext jF bS <| .ext mX cN <| .ext tx eV <| Vq
theorem lB:ax ab mW ⟨.inl fD,false,[],0,λ_=>none⟩:=
 aQ (C:=C0) (A:=A0) m7 cok_none mO (f:=Tryz.f216) (by kernel_rfl) (by kernel_rfl)
theorem JJ:aF ab (wA):= .ext dQ aR <| .ext dS bl <| .ext jF bS <| .ext mX cN <| .ext tx eV <| .ext AA lB <| Vq
theorem abF:aF ab ZH:=aj (C:=C0) (A:=ze) Vq JJ cok_none mO (f:=Tryz.f159) (by kernel_rfl) λbs r h=>by
  split at h
  ·exact (Gd ..).trans h
  ·cases h
theorem cG:ax ab gm ⟨.inl bW,false,[],0,λ_=>none⟩:=
 aQ (C:=C0) (A:=A0) abF cok_none mO (f:=Tryz.f219) (by kernel_rfl) (by kernel_rfl)
theorem pn:aF ab gx:= .ext mT cG <| abF
theorem fC:ax ab cK ⟨.inl dr,false,[],0,λ_=>none⟩:=
 aQ (C:=C0) (A:=A0) pn cok_none mO (f:=bA) (by kernel_rfl) (by kernel_rfl)
theorem oY:aF ab gy:= .ext mT cG <| .ext dS fC <| abF
theorem nK:ax ab sd ⟨.inl gM,false,[],0,λ_=>none⟩:=
 aQ (C:=C0) (A:=A0) oY cok_none mO (f:=Tryz.f220) (by kernel_rfl) (by kernel_rfl)
theorem Ho:aF ab (vA):= .ext mT cG <| .ext dS fC <| .ext GN nK <| abF
theorem agh:aF ab afY:=aj (C:=C0) (A:=xb) abF Ho cok_none mO (f:=Tryz.f160) (by kernel_rfl) λbs r h=>by
  split at h
  ·exact (DD ..).trans h
  ·cases h
theorem ahj:aF ab afx:=aj (C:=C0) (A:=C8) agh agh cok_none mO (f:=Tryz.f94) (by kernel_rfl) λbs r h=>by
  split at h
  ·exact (Jg ..).trans h
  ·cases h
theorem agV:aF ab aeL:=aj (C:=C0) (A:=A1) ahj ahj cok_none mO (f:=Tryz.f163) (by kernel_rfl) λbs r h=>by
  split at h
  ·exact (Km ..).trans h
  ·cases h
theorem agM:aF ab afQ:=aj (C:=C0) (A:=A0) agV agV cok_none mO (f:=Tryz.f165) (by kernel_rfl) λbs r h=>by
  split at h
  ·exact (Jt ..).trans h
  ·cases h
theorem agU:aF ab ae3:=aj (C:=C0) (A:=A0) agM agM cok_none mO (f:=Tryz.f167) (by kernel_rfl) λbs r h=>by
  split at h
  ·exact (JK ..).trans h
  ·cases h
theorem ado:aF ab aa3:=aj (C:=C0) (A:=A0) agU agU cok_none mO (f:=Tryz.f169) (by kernel_rfl) λbs r h=>by
  split at h
  ·exact (J7 ..).trans h
  ·cases h
theorem gh:ax ab mz ⟨.inl dG,false,[],0,λ_=>none⟩:=
 aQ (C:=C0) (A:=iJ) ado cok_none mO (f:=Tryz.f162) (by kernel_rfl) (by kernel_rfl)
theorem sg:aF ab js:= .ext ve gh <| ado
theorem pX:ax ab np ⟨.inl jU,false,[],0,λ_=>none⟩:=
 xu (C:=C0) (A:=A0) sg cok_none mO tu (f:=bf) (by kernel_rfl) (by kernel_rfl)
theorem MF:aF ab (y0):= .ext ve gh <| .ext BG pX <| ado
theorem Ww:aF ab Sl:=aj (C:=C0) (A:=Bc) ado MF cok_none mO (f:=Tryz.f96) (by kernel_rfl) λbs r h=>by
  split at h
  ·exact (Hf ..).trans h
  ·cases h
theorem bh:ax ab dC ⟨.inl bc,false,[],0,λ_=>none⟩:=
 aQ (C:=C0) (A:=jX) Ww cok_none mO (f:=Tryz.f90) (by kernel_rfl) (by kernel_rfl)
theorem sa:aF ab jv:= .ext fF bh <| Ww
theorem bP:ax ab eH ⟨.inl bE,false,[],0,λ_=>none⟩:=
 aQ (C:=C0) (A:=kg) sa cok_none mO (f:=Tryz.f91) (by kernel_rfl) (by kernel_rfl)
theorem sj:aF ab jy:= .ext fF bh <| .ext jo bP <| Ww
theorem cB:ax ab gF ⟨.inl cf,false,[],0,λ_=>none⟩:=
 aQ (C:=C0) (A:=A0) sj cok_none mO (f:=Tryz.f93) (by kernel_rfl) (by kernel_rfl)
theorem r7:aF ab jw:= .ext fF bh <| .ext jo bP <| .ext mG cB <| Ww
theorem dF:ax ab jV ⟨.inl cY,false,[],0,λ_=>none⟩:=
 aQ (C:=C0) (A:=A0) r7 cok_none mO (f:=Tryz.f95) (by kernel_rfl) (by kernel_rfl)
theorem su:aF ab jt:= .ext fF bh <| .ext jo bP <| .ext mG cB <| .ext qz dF <| Ww
theorem iD:ax ab nY ⟨.inl eJ,false,[],0,λ_=>none⟩:=
 aQ (C:=C0) (A:=A0) su cok_none mO (f:=Tryz.f97) (by kernel_rfl) (by kernel_rfl)
theorem tz:aF ab kO:= .ext fF bh <| .ext jo bP <| .ext mG cB <| .ext qz dF <| .ext xd iD <| Ww
theorem rG:ax ab vV ⟨.inl lA,false,[],0,λ_=>none⟩:=
 aQ (C:=C0) (A:=A0) tz cok_none mO (f:=Tryz.f49) (by kernel_rfl) (by kernel_rfl)
theorem TU:aF ab (Dh):= .ext fF bh <| .ext jo bP <| .ext mG cB <| .ext qz dF <| .ext xd iD <| .ext K8 rG <| Ww
theorem agc:aF ab adO:=aj (C:=C0) (A:=FZ) Ww TU cok_none mO (f:=Tryz.f22) (by kernel_rfl) λbs r h=>by
  split at h
  ·exact (KN ..).trans h
  ·cases h
theorem agG:aF ab afA:= .ext A7 (mn (C:=C0) (A:=A0) agc cok_none mO (f:=Tryz.f45) (by kernel_rfl) (by kernel_rfl) (by kernel_rfl) (λvs bs r hl h=>by
  split at h
  ·rename_i heq;cases heq;exact (zi ..).trans h
  ·rename_i heq;cases heq;simp at hl
  ·cases h) (λbs r h=>by
  split at h
  ·rename_i heq;cases heq
  ·rename_i heq;cases heq;exact (uL ..).trans (xV h)
  ·cases h)) agc
theorem agN:aF ab afK:=aj (C:=C0) (A:=CU) agG agG cok_none mO (f:=Tryz.f88) (by kernel_rfl) λbs r h=>by
  split at h
  ·exact (JU ..).trans h
  ·cases h
theorem agA:aF ab afZ:=aj (C:=C0) (A:=A0) agN agN cok_none mO (f:=Tryz.f48) (by kernel_rfl) λbs r h=>by
  split at h
  ·exact (V5 ..).trans h
  ·cases h
theorem af9:aF ab afF:=aj (C:=C0) (A:=Nk) agA agA cok_none mO (f:=Tryz.f16) (by kernel_rfl) λbs r h=>by
  split at h
  ·exact (Tl ..).trans h
  ·cases h
theorem agt:aF ab aea:=aj (C:=C0) (A:=Dq) af9 af9 cok_none mO (f:=Tryz.f82) (by kernel_rfl) λbs r h=>by
  split at h
  ·exact (JR ..).trans h
  ·cases h
theorem ad5:aF ab adL:= .ext Cc (mn (C:=C0) (A:=A0) agt cok_none mO (f:=Tryz.f44) (by kernel_rfl) (by kernel_rfl) (by kernel_rfl) (λvs bs r hl h=>by
  split at h
  ·rename_i heq;cases heq;exact (Bz ..).trans h
  ·rename_i heq;cases heq;simp at hl
  ·cases h) (λbs r h=>by
  split at h
  ·rename_i heq;cases heq
  ·rename_i heq;cases heq;exact (wm ..).trans (xV h)
  ·cases h)) agt
theorem KQ {C:IV->List Nat->List (List IV)->Option (List IV)} (a:COK ab C):ax ab xD ⟨.pure,true,[1],0,λl=>match l with | [[b],[c,d],[e]]=>jJ C b c d e | _=>none⟩:=
 lM (C:=C) (A:=EL) ad5 a mO (f:=Tryz.f83) (by kernel_rfl) (by kernel_rfl) (by kernel_rfl) rfl λbs r h=>by
  split at h
  ·exact (Lm C ..).trans h
  ·cases h
theorem ag1:aF ab afo:=aj (C:=C0) (A:=A1) ad5 ad5 cok_none mO (f:=b4) (by kernel_rfl) λbs r h=>by
  split at h
  ·exact (vd ..).trans h
  ·cases h
theorem zP:COK ab (gD):=
 gI Ht (λcaps cv w ok hcap=>aP (C:=C0) (A:=A1) ad5 cok_none mO (f:=b4) (by kernel_rfl) (by kernel_rfl) hcap (by kernel_rfl) λbs r h=>by
  split at h
  ·exact (vd ..).trans h
  ·cases h) <|
 gI BE (λcaps cv w ok hcap=>aP (C:=C0) (A:=A1) G51 cok_none mO (f:=b5) (by kernel_rfl) (by kernel_rfl) hcap (by kernel_rfl) λbs r h=>by
  split at h
  ·exact (p9 ..).trans h
  ·cases h) <|
 cok_none
theorem K3:aF ab (zc):= .ext OB (KQ (zP)) <| ag1
theorem ag9:aF ab af2:=aj (C:=(gD)) (A:=zU) ag1 K3 (zP) mO (f:=Tryz.f46) (by kernel_rfl) λbs r h=>by
  split at h
  ·exact (H5 ..).trans h
  ·cases h
theorem agf:aF ab adV:=aj (C:=C0) (A:=IU) ag9 ag9 cok_none mO (f:=Tryz.f25) (by kernel_rfl) λbs r h=>by
  split at h
  ·exact (N5 ..).trans h
  ·cases h
theorem ahs:aF ab aeG:= .ext zA (mn (C:=C0) (A:=ml) agf cok_none mO (f:=Tryz.f43) (by kernel_rfl) (by kernel_rfl) (by kernel_rfl) (λvs bs r hl h=>by
  split at h
  ·rename_i heq;cases heq;exact (yJ ..).trans h
  ·rename_i heq;cases heq;simp at hl
  ·cases h) (λbs r h=>by
  split at h
  ·rename_i heq;cases heq
  ·rename_i heq;cases heq;exact (tF ..).trans (xV h)
  ·cases h)) agf
theorem ahA:aF ab afC:=aj (C:=C0) (A:=Gp) ahs ahs cok_none mO (f:=Tryz.f81) (by kernel_rfl) λbs r h=>by
  split at h
  ·exact (Ny ..).trans h
  ·cases h
theorem ahK:aF ab adi:= .ext Co (mn (C:=C0) (A:=tQ) ahA cok_none mO (f:=Tryz.f42) (by kernel_rfl) (by kernel_rfl) (by kernel_rfl) (λvs bs r hl h=>by
  split at h
  ·rename_i heq;cases heq;exact (Bi ..).trans h
  ·cases h) (λbs r h=>by
  split at h
  ·rename_i heq;cases heq
  ·cases h)) ahA
theorem agy:aF ab aeE:= .ext Dz (mn (C:=C0) (A:=oX) ahK cok_none mO (f:=Tryz.f12) (by kernel_rfl) (by kernel_rfl) (by kernel_rfl) (λvs bs r hl h=>by
  split at h
  ·rename_i heq;cases heq;exact (CC ..).trans h
  ·rename_i heq;cases heq;simp at hl
  ·cases h) (λbs r h=>by
  split at h
  ·rename_i heq;cases heq
  ·rename_i heq;cases heq;exact (wG ..).trans (xV h)
  ·cases h)) ahK
theorem ahM:aF ab ade:=aj (C:=C0) (A:=A0) agy agy cok_none mO (f:=Tryz.f24) (by kernel_rfl) λbs r h=>by
  split at h
  ·exact (Nv ..).trans h
  ·cases h
theorem ag8:aF ab afi:= .ext Ej (mn (C:=C0) (A:=A0) ahM cok_none mO (f:=Tryz.f15) (by kernel_rfl) (by kernel_rfl) (by kernel_rfl) (λvs bs r hl h=>by
  split at h
  ·rename_i heq;cases heq;exact (Cg ..).trans h
  ·rename_i heq;cases heq;simp at hl
  ·cases h) (λbs r h=>by
  split at h
  ·rename_i heq;cases heq
  ·rename_i heq;cases heq;exact (xh ..).trans (xV h)
  ·cases h)) ahM
theorem adD:aF ab aaP:=aj (C:=C0) (A:=FE) ag8 ag8 cok_none mO (f:=Tryz.f40) (by kernel_rfl) λbs r h=>by
  split at h
  ·exact h
  ·cases h
theorem mN:ax ab lI ⟨.inl jK,false,[],0,λ_=>none⟩:=
 aQ (C:=C0) (A:=pH) adD cok_none mO (f:=b2) (by kernel_rfl) (by kernel_rfl)
theorem yE:aF ab ox:= .ext rJ mN <| adD
theorem uM:ax ab qw ⟨.inl oW,false,[],0,λ_=>none⟩:=
 aQ (C:=C0) (A:=pF) yE cok_none mO (f:=b3) (by kernel_rfl) (by kernel_rfl)
theorem Wl:aF ab (E3):= .ext rJ mN <| .ext Ar uM <| adD
theorem ahR:aF ab afN:=aj (C:=C0) (A:=I3) adD Wl cok_none mO (f:=Tryz.f9) (by kernel_rfl) λbs r h=>by
  split at h
  ·exact (O4 ..).trans h
  ·cases h
theorem agl:aF ab afX:=aj (C:=C0) (A:=A1) ahR ahR cok_none mO (f:=Tryz.f205) (by kernel_rfl) λbs r h=>by
  split at h
  ·exact (Lq ..).trans h
  ·cases h
theorem agd:aF ab afj:=aj (C:=C0) (A:=Dl) agl agl cok_none mO (f:=Tryz.f206) (by kernel_rfl) λbs r h=>by
  split at h
  ·exact (Jz ..).trans h
  ·cases h
theorem ag7:aF ab aeI:=aj (C:=C0) (A:=A1) agd agd cok_none mO (f:=Tryz.f207) (by kernel_rfl) λbs r h=>by
  split at h
  ·exact (NZ ..).trans h
  ·cases h
theorem ahh:aF ab afJ:=aj (C:=C0) (A:=Fq) ag7 ag7 cok_none mO (f:=Tryz.f152) (by kernel_rfl) λbs r h=>by
  split at h
  ·exact (Mf ..).trans h
  ·cases h
theorem agi:aF ab aev:=aj (C:=C0) (A:=A1) ahh ahh cok_none mO (f:=Tryz.f87) (by kernel_rfl) λbs r h=>by
  split at h
  ·exact (Na ..).trans h
  ·cases h
theorem ahB:aF ab afb:=aj (C:=C0) (A:=CJ) agi agi cok_none mO (f:=Tryz.f47) (by kernel_rfl) λbs r h=>by
  split at h
  ·exact (Jl ..).trans h
  ·cases h
theorem age:aF ab aff:=aj (C:=C0) (A:=F8) ahB ahB cok_none mO (f:=Tryz.f14) (by kernel_rfl) λbs r h=>by
  split at h
  ·exact (MR ..).trans h
  ·cases h
theorem ahP:aF ab adn:=aj (C:=C0) (A:=H8) age age cok_none mO (f:=Tryz.f17) (by kernel_rfl) λbs r h=>by
  split at h
  ·exact (PE ..).trans h
  ·cases h
theorem ahl:aF ab adu:= .ext F3 (mn (C:=C0) (A:=A0) ahP cok_none mO (f:=Tryz.f19) (by kernel_rfl) (by kernel_rfl) (by kernel_rfl) (λvs bs r hl h=>by
  split at h
  ·rename_i heq;cases heq;exact (Ei ..).trans h
  ·rename_i heq;cases heq;simp at hl
  ·cases h) (λbs r h=>by
  split at h
  ·rename_i heq;cases heq
  ·rename_i heq;cases heq;exact (xU ..).trans (xV h)
  ·cases h)) ahP
theorem agH:aF ab aeF:= .ext Ep (mn (C:=C0) (A:=A0) ahl cok_none mO (f:=Tryz.f21) (by kernel_rfl) (by kernel_rfl) (by kernel_rfl) (λvs bs r hl h=>by
  split at h
  ·rename_i heq;cases heq;exact (Cb ..).trans h
  ·rename_i heq;cases heq;simp at hl
  ·cases h) (λbs r h=>by
  split at h
  ·rename_i heq;cases heq
  ·rename_i heq;cases heq;exact (xc ..).trans (xV h)
  ·cases h)) ahl
theorem agL:aF ab aeA:=aj (C:=C0) (A:=A1) agH agH cok_none mO (f:=Tryz.f145) (by kernel_rfl) λbs r h=>by
  split at h
  ·exact (Pv ..).trans h
  ·cases h
theorem agB:aF ab afk:=aj (C:=C0) (A:=CZ) agL agL cok_none mO (f:=Tryz.f75) (by kernel_rfl) λbs r h=>by
  split at h
  ·exact (JH ..).trans h
  ·cases h
theorem ahu:aF ab aes:=aj (C:=C0) (A:=Gj) agB agB cok_none mO (f:=Tryz.f35) (by kernel_rfl) λbs r h=>by
  split at h
  ·exact (M9 ..).trans h
  ·cases h
theorem ahJ:aF ab aeV:=aj (C:=C0) (A:=F1) ahu ahu cok_none mO (f:=Tryz.f50) (by kernel_rfl) λbs r h=>by
  split at h
  ·exact (LN ..).trans h
  ·cases h
theorem aaR:aF ab aat:=aj (C:=C0) (A:=E0) ahJ ahJ cok_none mO (f:=Tryz.f23) (by kernel_rfl) λbs r h=>by
  split at h
  ·exact (L2 ..).trans h
  ·cases h
theorem eN:ax ab lI ⟨.inl dH,false,[],0,λ_=>none⟩:=
 aQ (C:=C0) (A:=mM) aaR cok_none mO (f:=b2) (by kernel_rfl) (by kernel_rfl)
theorem uJ:aF ab lx:= .ext rJ eN <| aaR
theorem kn:ax ab qw ⟨.inl gz,false,[],0,λ_=>none⟩:=
 aQ (C:=C0) (A:=mQ) uJ cok_none mO (f:=b3) (by kernel_rfl) (by kernel_rfl)
theorem tL:aF ab kR:= .ext rJ eN <| .ext Ar kn <| aaR
theorem qZ:ax ab zR ⟨.inl lh,false,[],0,λ_=>none⟩:=
 aQ (C:=C0) (A:=A0) tL cok_none mO (f:=Tryz.f18) (by kernel_rfl) (by kernel_rfl)
theorem LZ:aF ab (yN):= .ext rJ eN <| .ext Ar kn <| .ext SF qZ <| aaR
theorem ajK:aF ab ais:=aj (C:=C0) (A:=BM) aaR LZ cok_none mO (f:=Tryz.f4) (by kernel_rfl) λbs r h=>by
  split at h
  ·exact (Hw ..).trans h
  ·cases h
theorem GI:ax ab Bb Av:=aF.own ajK
end Go.AM

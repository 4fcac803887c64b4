/- The contracts of all functions that are reached. -/
import Derived.Test.YtgoenohknokcmaaGreatWk
import Derived.Test.YtgoenohknokcmaaGreatHm
import Derived.Test.YtgoenohknokcmaaGreatHr
import Derived.Test.YtgoenohknokcmaaGreatDe
import Derived.Test.YtgoenohknokcmaaGreatGw
import Derived.Test.YtgoenohknokcmaaGreatGd
import Derived.Test.YtgoenohknokcmaaGreatTk
open Go.Proofs.Tryz renaming prog->ab,f284->ad,f101->ao,f104->aB,f106->a1,f108->a2,f110->a5,f112->a6,f117->a7,f126->a8,f132->bb,f156->bd,f161->bf,f175->bm,f178->br,f208->bx,f213->bA,f250->bB,f251->bC,f256->bM,f260->bO,f262->bR,f266->b0,f285->b1,f10->b2,f84->b3,f85->b4,f98->b5
set_option linter.unusedVariables false
set_option linter.unusedSimpArgs false
set_option maxRecDepth 100000
namespace Go.AM
open Go.Proofs
theorem eQ0 {g:Go.FuncId} (f:Go.Func) (a:Tryz.prog.funcs[g]? =some f:=by kernel_rfl) (b:(f.name== "runtime.NumGoroutine")=false:=by kernel_rfl) (c:f.body.isNone=false:=by kernel_rfl):Enters Tryz.prog g:=enters_of a b c
theorem mO:ab.follows .mixedOrders=true:=by kernel_rfl
theorem zQ:Enters ab p6:=eQ0 b2
theorem D1:Enters ab vg:=eQ0 Tryz.f11
theorem Da:Enters ab vo:=eQ0 Tryz.f12
theorem C8:Enters ab uJ:=eQ0 Tryz.f15
theorem za:Enters ab qQ:=eQ0 Tryz.f20
theorem VS:Enters ab D4:=eQ0 Tryz.f27
theorem Tb:Enters ab zy:=eQ0 Tryz.f39
theorem Bh:Enters ab mM:=eQ0 Tryz.f41
theorem BV:Enters ab tC:=eQ0 Tryz.f42
theorem y0:Enters ab qU:=eQ0 Tryz.f43
theorem Cg:Enters ab sQ:=eQ0 Tryz.f44
theorem AO:Enters ab se:=eQ0 Tryz.f45
theorem Nc:Enters ab vK:=eQ0 Tryz.f49
theorem qj:Enters ab jn:=eQ0 Tryz.f59
theorem Tt:Enters ab DA:=eQ0 Tryz.f60
theorem uo:Enters ab nv:=eQ0 Tryz.f62
theorem Wa:Enters ab L9:=eQ0 Tryz.f64
theorem DE:Enters ab uG:=eQ0 Tryz.f65
theorem Dl:Enters ab oH:=eQ0 Tryz.f66
theorem Cb:Enters ab tI:=eQ0 Tryz.f68
theorem BX:Enters ab nP:=eQ0 Tryz.f69
theorem Ny:Enters ab yg:=eQ0 Tryz.f83
theorem Ht:Enters ab nC:=eQ0 b3
theorem z5:Enters ab iP:=eQ0 b4
theorem yS:Enters ab lB:=eQ0 Tryz.f86
theorem fD:Enters ab dB:=eQ0 Tryz.f90
theorem jg:Enters ab eN:=eQ0 Tryz.f91
theorem mC:Enters ab gz:=eQ0 Tryz.f93
theorem pU:Enters ab jS:=eQ0 Tryz.f95
theorem wO:Enters ab nN:=eQ0 Tryz.f97
theorem LC:Enters ab ng:=eQ0 b5
theorem Ve:Enters ab DI:=eQ0 Tryz.f99
theorem LV:Enters ab nk:=eQ0 ao
theorem KJ:Enters ab m4:=eQ0 aB
theorem MS:Enters ab nq:=eQ0 a1
theorem Mb:Enters ab mT:=eQ0 a2
theorem PC:Enters ab xq:=eQ0 Tryz.f109
theorem Gu:Enters ab jX:=eQ0 a5
theorem GP:Enters ab j8:=eQ0 a6
theorem AL:Enters ab mH:=eQ0 Tryz.f113
theorem ik:Enters ab dg:=eQ0 Tryz.f116
theorem GG:Enters ab nH:=eQ0 a7
theorem y3:Enters ab lO:=eQ0 Tryz.f118
theorem rP:Enters ab kP:=eQ0 Tryz.f122
theorem sj:Enters ab fO:=eQ0 Tryz.f125
theorem LJ:Enters ab qB:=eQ0 a8
theorem r8:Enters ab gk:=eQ0 bb
theorem qV:Enters ab iK:=eQ0 Tryz.f133
theorem B1:Enters ab sR:=eQ0 Tryz.f138
theorem Ci:Enters ab nV:=eQ0 Tryz.f142
theorem NY:Enters ab ye:=eQ0 Tryz.f153
theorem nW:Enters ab fm:=eQ0 Tryz.f155
theorem OT:Enters ab sE:=eQ0 bd
theorem zZ:Enters ab mF:=eQ0 Tryz.f157
theorem zU:Enters ab nx:=eQ0 bf
theorem u9:Enters ab mm:=eQ0 Tryz.f162
theorem sD:Enters ab gm:=eQ0 Tryz.f174
theorem F5:Enters ab nG:=eQ0 bm
theorem Hc:Enters ab nL:=eQ0 br
theorem AR:Enters ab tV:=eQ0 Tryz.f181
theorem IU:Enters ab tG:=eQ0 Tryz.f185
theorem AK:Enters ab sd:=eQ0 Tryz.f189
theorem vO:Enters ab jh:=eQ0 Tryz.f191
theorem pP:Enters ab gR:=eQ0 Tryz.f197
theorem JK:Enters ab pB:=eQ0 bx
theorem Rj:Enters ab n_snap_open:=eQ0 Tryz.f211
theorem dN:Enters ab cU:=eQ0 Tryz.f212
theorem dQ:Enters ab cH:=eQ0 bA
theorem mP:Enters ab fS:=eQ0 Tryz.f214
theorem jK:Enters ab ei:=eQ0 Tryz.f215
theorem Al:Enters ab mQ:=eQ0 Tryz.f216
theorem tL:Enters ab kL:=eQ0 Tryz.f217
theorem mL:Enters ab gi:=eQ0 Tryz.f219
theorem GL:Enters ab rS:=eQ0 Tryz.f220
theorem D6:Enters ab uV:=eQ0 Tryz.f223
theorem re:Enters ab iQ:=eQ0 Tryz.f228
theorem TL:Enters ab D7:=eQ0 Tryz.f236
theorem oG:Enters ab im:=eQ0 bB
theorem Fj:Enters ab fL:=eQ0 bC
theorem Fk:Enters ab fM:=eQ0 bM
theorem pg:Enters ab ir:=eQ0 bO
theorem wq:Enters ab eE:=eQ0 bR
theorem wQ:Enters ab eG:=eQ0 b0
theorem G1:aF ab T1:= .ext Bh ze G0
theorem G2:aF ab T2:= .ext qj pJ G1
theorem G3:aF ab T3:= .ext uo s6 G2
theorem G4:aF ab T4:= .ext BX A9 G3
theorem G5:aF ab T5:= .ext yS yh G4
theorem G6:aF ab T6:= .ext AL yV G5
theorem G7:aF ab T7:= .ext y3 xz G6
theorem G8:aF ab T8:= .ext rP qH G7
theorem Mh:ax ab ye Fe:=
 Sr λw A b off cap ps i f g d a e c x y h=>callsIn_wide.1 (aaJ 1 (Nat.le_refl _) w A b off cap ps i f g d a e c x y h)
theorem G9:aF ab T9:= .ext NY Mh G8
theorem G10:aF ab T10:= .ext zZ y8 G9
theorem G11:aF ab T11:= .ext AK yZ G10
theorem G12:aF ab T12:=ak (C:=C0) (A:=A1) G11 G11 cok_none mO (f:=Tryz.f124) (by kernel_rfl) λbs r h=>by
  split at h
  ·exact (O6 ..).trans h
  ·cases h
theorem G13:aF ab T13:=ak (C:=C0) (A:=E9) G12 G12 cok_none mO (f:=Tryz.f57) (by kernel_rfl) λbs r h=>by
  split at h
  ·exact (Lp ..).trans h
  ·cases h
theorem G14:aF ab T14:=ak (C:=C0) (A:=A1) G13 G13 cok_none mO (f:=Tryz.f28) (by kernel_rfl) λbs r h=>by
  split at h
  ·exact (KS ..).trans h
  ·cases h
theorem G15:aF ab T15:=ak (C:=C0) (A:=Lm) G14 G14 cok_none mO (f:=Tryz.f70) (by kernel_rfl) λbs r h=>by
  split at h
  ·exact (RI ..).trans h
  ·cases h
theorem Sl:ax ab M5 Kv:=aF.own G15
theorem Te:ax ab DI Mo:=
 Wn (O:=(λl=>match l with | [[j,k,m,n]]=>lp j k m n | _=>none)) Sl λw A b off cap ps i g ob h e a f d c=>callsIn_wide.1 (ae9 1 (Nat.le_refl _) w A b off cap ps i g ob h e a f d c)
theorem G16:aF ab T16:= .ext Ve Te G15
theorem G17:aF ab T17:=ak (C:=C0) (A:=sX) G16 G16 cok_none mO (f:=Tryz.f203) (by kernel_rfl) λbs r h=>by
  split at h
  ·exact (zo ..).trans h
  ·cases h
theorem G18:aF ab T18:=ak (C:=C0) (A:=A1) G17 G17 cok_none mO (f:=Tryz.f148) (by kernel_rfl) λbs r h=>by
  split at h
  ·exact (w9 ..).trans h
  ·cases h
theorem wR:ax ab pN pO:=aF.own G18
theorem NT:ax ab zy HX:=
 TV λw A b off cap ps j h i f a g d c e=>callsIn_wide.1 (YV 1 (Nat.le_refl _) w A b off cap ps j h i f a g d c e (WS wR Pn))
theorem G19:aF ab T19:= .ext Tb NT G18
theorem G20:aF ab T20:=ak (C:=C0) (A:=A1) G19 G19 cok_none mO (f:=Tryz.f236) (by kernel_rfl) λbs r h=>by
  split at h
  ·exact (Rr ..).trans h
  ·cases h
theorem Sa:ax ab D7 Kn:=aF.own G20
theorem G21:aF ab T21:=ak (C:=C0) (A:=MC) G20 G20 cok_none mO (f:=Tryz.f60) (by kernel_rfl) λbs r h=>by
  split at h
  ·exact (Rd ..).trans h
  ·cases h
theorem Ri:ax ab DA Mj:=aF.own G21
theorem Hi:ax ab tG AE:=
 B8 (λ_=>rfl) (λ_=>rfl) Sa Ri TL Tt
theorem G22:aF ab T22:= .ext IU Hi G21
theorem m7 {C:IV->List Nat->List (List IV)->Option (List IV)} (a:COK ab C):ax ab fm ⟨.pure,true,[1],0,λl=>match l with | [[b],[c]]=>bJ C b c | _=>none⟩:=
 kV (C:=C) (A:=pF) G22 a mO (f:=Tryz.f155) (by kernel_rfl) (by kernel_rfl) (by kernel_rfl) rfl λbs r h=>by
  split at h
  ·exact (vU C ..).trans h
  ·cases h
theorem G23:aF ab T23:=ak (C:=C0) (A:=A1) G22 G22 cok_none mO (f:=bx) (by kernel_rfl) λbs r h=>by
  split at h
  ·exact (wu ..).trans h
  ·cases h
theorem Ej:COK ab (nr):=
 gP JK (λcaps cv w ok hcap=>aP (C:=C0) (A:=A1) G22 cok_none mO (f:=bx) (by kernel_rfl) (by kernel_rfl) hcap (by kernel_rfl) λbs r h=>by
  split at h
  ·exact (wu ..).trans h
  ·cases h) <|
 cok_none
theorem S4:aF ab (C6):= .ext nW (m7 (Ej)) <| G23
theorem G24:aF ab T24:=ak (C:=(nr)) (A:=A1) G23 S4 (Ej) mO (f:=Tryz.f154) (by kernel_rfl) λbs r h=>by
  split at h
  ·exact (Nm ..).trans h
  ·cases h
theorem G25:aF ab T25:=ak (C:=C0) (A:=A1) G24 G24 cok_none mO (f:=bd) (by kernel_rfl) λbs r h=>by
  split at h
  ·exact (AV ..).trans h
  ·cases h
theorem MV:COK ab (qF):=
 gP OT (λcaps cv w ok hcap=>aP (C:=C0) (A:=A1) G24 cok_none mO (f:=bd) (by kernel_rfl) (by kernel_rfl) hcap (by kernel_rfl) λbs r h=>by
  split at h
  ·exact (AV ..).trans h
  ·cases h) <|
 cok_none
theorem XD:aF ab (Ir):= .ext nW (m7 (MV)) <| G25
theorem G26:aF ab T26:=ak (C:=(qF)) (A:=A0) G25 XD (MV) mO (f:=Tryz.f89) (by kernel_rfl) λbs r h=>by
  split at h
  ·exact (SN ..).trans h
  ·cases h
theorem G27:aF ab T27:=ak (C:=C0) (A:=Cu) G26 G26 cok_none mO (f:=Tryz.f8) (by kernel_rfl) λbs r h=>by
  split at h
  ·exact (Jl ..).trans h
  ·cases h
theorem G28:aF ab T28:= .ext za (nD (C:=C0) (A:=lF) G27 cok_none mO (f:=Tryz.f20) (by kernel_rfl) (by kernel_rfl) (by kernel_rfl) (λvs bs r hl h=>by
  split at h
  ·rename_i heq;cases heq;exact (yd ..).trans h
  ·rename_i heq;cases heq;simp at hl
  ·cases h) (λbs r h=>by
  split at h
  ·rename_i heq;cases heq
  ·rename_i heq;cases heq;exact (uc ..).trans (Bm h)
  ·cases h)) G27
theorem MU {C:IV->List Nat->List (List IV)->Option (List IV)} (a:COK ab C):ax ab xq ⟨.pure,true,[1],0,λl=>match l with | [[b]]=>mn C b | _=>none⟩:=
 kV (C:=C) (A:=Ep) G28 a mO (f:=Tryz.f109) (by kernel_rfl) (by kernel_rfl) (by kernel_rfl) rfl λbs r h=>by
  split at h
  ·exact (MD C ..).trans h
  ·cases h
theorem G29:aF ab T29:=ak (C:=C0) (A:=A1) G28 G28 cok_none mO (f:=Tryz.f177) (by kernel_rfl) λbs r h=>by
  split at h
  ·exact (EB ..).trans h
  ·cases h
theorem G30:aF ab T30:=ak (C:=C0) (A:=A1) G29 G29 cok_none mO (f:=Tryz.f111) (by kernel_rfl) λbs r h=>by
  split at h
  ·exact (Cl ..).trans h
  ·cases h
theorem G31:aF ab T31:=ak (C:=C0) (A:=A1) G30 G30 cok_none mO (f:=a5) (by kernel_rfl) λbs r h=>by
  split at h
  ·exact (vn ..).trans h
  ·cases h
theorem G32:aF ab T32:=ak (C:=C0) (A:=A1) G31 G31 cok_none mO (f:=a6) (by kernel_rfl) λbs r h=>by
  split at h
  ·exact (u7 ..).trans h
  ·cases h
theorem CI:COK ab (iW):=
 gP Gu (λcaps cv w ok hcap=>aP (C:=C0) (A:=A1) G30 cok_none mO (f:=a5) (by kernel_rfl) (by kernel_rfl) hcap (by kernel_rfl) λbs r h=>by
  split at h
  ·exact (vn ..).trans h
  ·cases h) <|
 gP GP (λcaps cv w ok hcap=>aP (C:=C0) (A:=A1) G31 cok_none mO (f:=a6) (by kernel_rfl) (by kernel_rfl) hcap (by kernel_rfl) λbs r h=>by
  split at h
  ·exact (u7 ..).trans h
  ·cases h) <|
 cok_none
theorem Oh:aF ab (Au):= .ext PC (MU (CI)) <| G32
theorem G33:aF ab T33:=ak (C:=(iW)) (A:=A1) G32 Oh (CI) mO (f:=Tryz.f52) (by kernel_rfl) λbs r h=>by
  split at h
  ·exact (JT ..).trans h
  ·cases h
theorem uv {C:IV->List Nat->List (List IV)->Option (List IV)} (a:COK ab C):ax ab jh ⟨.pure,true,[1],0,λl=>match l with | [[b],[c]]=>cy C b c | _=>none⟩:=
 kV (C:=C) (A:=nY) G33 a mO (f:=Tryz.f191) (by kernel_rfl) (by kernel_rfl) (by kernel_rfl) rfl λbs r h=>by
  split at h
  ·exact (uC C ..).trans h
  ·cases h
theorem tz {C:IV->List Nat->List (List IV)->Option (List IV)} (a:COK ab C):aF ab (kM C):= .ext vO (uv a) <| G33
theorem rL {C:IV->List Nat->List (List IV)->Option (List IV)} (a:COK ab C):ax ab fO ⟨.pure,true,[1],0,λl=>match l with | [[b],[c]]=>cD C b c | _=>none⟩:=
 kV (C:=C) (A:=A1) (tz a) a mO (f:=Tryz.f125) (by kernel_rfl) (by kernel_rfl) (by kernel_rfl) rfl λbs r h=>by
  split at h
  ·exact (rz C ..).trans h
  ·cases h
theorem G34:aF ab T34:=ak (C:=C0) (A:=A1) G33 G33 cok_none mO (f:=Tryz.f71) (by kernel_rfl) λbs r h=>by
  split at h
  ·exact (OA ..).trans h
  ·cases h
theorem G35:aF ab T35:=ak (C:=C0) (A:=HZ) G34 G34 cok_none mO (f:=Tryz.f32) (by kernel_rfl) λbs r h=>by
  split at h
  ·exact (OL ..).trans h
  ·cases h
theorem G36:aF ab T36:=ak (C:=C0) (A:=A1) G35 G35 cok_none mO (f:=a8) (by kernel_rfl) λbs r h=>by
  split at h
  ·exact (yD ..).trans h
  ·cases h
theorem IC:COK ab (oO):=
 gP LJ (λcaps cv w ok hcap=>aP (C:=C0) (A:=A1) G35 cok_none mO (f:=a8) (by kernel_rfl) (by kernel_rfl) hcap (by kernel_rfl) λbs r h=>by
  split at h
  ·exact (yD ..).trans h
  ·cases h) <|
 cok_none
theorem Tr:aF ab (FU):= .ext sj (rL (IC)) <| G36
theorem G37:aF ab T37:=ak (C:=(oO)) (A:=HJ) G36 Tr (IC) mO (f:=Tryz.f58) (by kernel_rfl) λbs r h=>by
  split at h
  ·exact (N5 ..).trans h
  ·cases h
theorem G38:aF ab T38:=ak (C:=C0) (A:=HW) G37 G37 cok_none mO (f:=Tryz.f100) (by kernel_rfl) λbs r h=>by
  split at h
  ·exact (NV ..).trans h
  ·cases h
theorem G39:aF ab T39:=ak (C:=C0) (A:=vE) G38 G38 cok_none mO (f:=b5) (by kernel_rfl) λbs r h=>by
  split at h
  ·exact (yF ..).trans h
  ·cases h
theorem gx {C:IV->List Nat->List (List IV)->Option (List IV)} (a:COK ab C):ax ab dg ⟨.pure,true,[1],0,λl=>match l with | [[b],[c]]=>aV C b c | _=>none⟩:=
 kV (C:=C) (A:=oe) G39 a mO (f:=Tryz.f116) (by kernel_rfl) (by kernel_rfl) (by kernel_rfl) rfl λbs r h=>by
  split at h
  ·exact (uA C ..).trans h
  ·cases h
theorem G40:aF ab T40:=ak (C:=C0) (A:=A1) G39 G39 cok_none mO (f:=br) (by kernel_rfl) λbs r h=>by
  split at h
  ·exact (uF ..).trans h
  ·cases h
theorem CB:COK ab (lX):=
 gP Hc (λcaps cv w ok hcap=>aP (C:=C0) (A:=A1) G39 cok_none mO (f:=br) (by kernel_rfl) (by kernel_rfl) hcap (by kernel_rfl) λbs r h=>by
  split at h
  ·exact (uF ..).trans h
  ·cases h) <|
 cok_none
theorem N3:aF ab (Bn):= .ext ik (gx (CB)) <| G40
theorem G41:aF ab T41:=ak (C:=(lX)) (A:=A1) G40 N3 (CB) mO (f:=Tryz.f114) (by kernel_rfl) λbs r h=>by
  split at h
  ·exact (Je ..).trans h
  ·cases h
theorem G42:aF ab T42:=ak (C:=C0) (A:=wH) G41 G41 cok_none mO (f:=Tryz.f115) (by kernel_rfl) λbs r h=>by
  split at h
  ·exact (Dy ..).trans h
  ·cases h
theorem G43:aF ab T43:=ak (C:=C0) (A:=A1) G42 G42 cok_none mO (f:=a7) (by kernel_rfl) λbs r h=>by
  split at h
  ·exact (uQ ..).trans h
  ·cases h
theorem C3:COK ab (lV):=
 gP GG (λcaps cv w ok hcap=>aP (C:=C0) (A:=A1) G42 cok_none mO (f:=a7) (by kernel_rfl) (by kernel_rfl) hcap (by kernel_rfl) λbs r h=>by
  split at h
  ·exact (uQ ..).trans h
  ·cases h) <|
 cok_none
theorem OC:aF ab (zi):= .ext ik (gx (C3)) <| G43
theorem G44:aF ab T44:=ak (C:=(lV)) (A:=CD) G43 OC (C3) mO (f:=Tryz.f54) (by kernel_rfl) λbs r h=>by
  split at h
  ·exact (I2 ..).trans h
  ·cases h
theorem G45:aF ab T45:=ak (C:=C0) (A:=LN) G44 G44 cok_none mO (f:=Tryz.f103) (by kernel_rfl) λbs r h=>by
  split at h
  ·exact (RL ..).trans h
  ·cases h
theorem tq {C:IV->List Nat->List (List IV)->Option (List IV)} (a:COK ab C):aF ab (kJ C):= .ext ik (gx a) <| G45
theorem rD {C:IV->List Nat->List (List IV)->Option (List IV)} (a:COK ab C):ax ab gm ⟨.pure,true,[1],0,λl=>match l with | [[b],[c]]=>cC C b c | _=>none⟩:=
 kV (C:=C) (A:=A1) (tq a) a mO (f:=Tryz.f174) (by kernel_rfl) (by kernel_rfl) (by kernel_rfl) rfl λbs r h=>by
  split at h
  ·exact (rE C ..).trans h
  ·cases h
theorem G46:aF ab T46:=ak (C:=C0) (A:=A1) G45 G45 cok_none mO (f:=Tryz.f176) (by kernel_rfl) λbs r h=>by
  split at h
  ·exact (OO ..).trans h
  ·cases h
theorem G47:aF ab T47:=ak (C:=C0) (A:=rN) G46 G46 cok_none mO (f:=bm) (by kernel_rfl) λbs r h=>by
  split at h
  ·exact (uK ..).trans h
  ·cases h
theorem CH:COK ab (lZ):=
 gP F5 (λcaps cv w ok hcap=>aP (C:=C0) (A:=rN) G46 cok_none mO (f:=bm) (by kernel_rfl) (by kernel_rfl) hcap (by kernel_rfl) λbs r h=>by
  split at h
  ·exact (uK ..).trans h
  ·cases h) <|
 cok_none
theorem OJ:aF ab (zM):= .ext sD (rD (CH)) <| G47
theorem G48:aF ab T48:=ak (C:=(lZ)) (A:=A1) G47 OJ (CH) mO (f:=Tryz.f102) (by kernel_rfl) λbs r h=>by
  split at h
  ·exact (IJ ..).trans h
  ·cases h
theorem G49:aF ab T49:=ak (C:=C0) (A:=vH) G48 G48 cok_none mO (f:=ao) (by kernel_rfl) λbs r h=>by
  split at h
  ·exact (yz ..).trans h
  ·cases h
theorem G50:aF ab T50:=ak (C:=C0) (A:=Cp) G49 G49 cok_none mO (f:=Tryz.f105) (by kernel_rfl) λbs r h=>by
  split at h
  ·exact (JN ..).trans h
  ·cases h
theorem G51:aF ab T51:=ak (C:=C0) (A:=vR) G50 G50 cok_none mO (f:=aB) (by kernel_rfl) λbs r h=>by
  split at h
  ·exact (yP ..).trans h
  ·cases h
theorem G52:aF ab T52:=ak (C:=C0) (A:=A1) G51 G51 cok_none mO (f:=b4) (by kernel_rfl) λbs r h=>by
  split at h
  ·exact (pQ ..).trans h
  ·cases h
theorem G53:aF ab T53:=ak (C:=C0) (A:=CJ) G52 G52 cok_none mO (f:=Tryz.f107) (by kernel_rfl) λbs r h=>by
  split at h
  ·exact (IW ..).trans h
  ·cases h
theorem G54:aF ab T54:=ak (C:=C0) (A:=vw) G53 G53 cok_none mO (f:=a1) (by kernel_rfl) λbs r h=>by
  split at h
  ·exact (yK ..).trans h
  ·cases h
theorem G55:aF ab T55:=ak (C:=C0) (A:=wX) G54 G54 cok_none mO (f:=Tryz.f53) (by kernel_rfl) λbs r h=>by
  split at h
  ·exact (DB ..).trans h
  ·cases h
theorem G56:aF ab T56:=ak (C:=C0) (A:=A1) G55 G55 cok_none mO (f:=a2) (by kernel_rfl) λbs r h=>by
  split at h
  ·exact (yu ..).trans h
  ·cases h
theorem VA:COK ab (dU):=
 gP LC (λcaps cv w ok hcap=>aP (C:=C0) (A:=vE) G38 cok_none mO (f:=b5) (by kernel_rfl) (by kernel_rfl) hcap (by kernel_rfl) λbs r h=>by
  split at h
  ·exact (yF ..).trans h
  ·cases h) <|
 gP LV (λcaps cv w ok hcap=>aP (C:=C0) (A:=vH) G48 cok_none mO (f:=ao) (by kernel_rfl) (by kernel_rfl) hcap (by kernel_rfl) λbs r h=>by
  split at h
  ·exact (yz ..).trans h
  ·cases h) <|
 gP KJ (λcaps cv w ok hcap=>aP (C:=C0) (A:=vR) G50 cok_none mO (f:=aB) (by kernel_rfl) (by kernel_rfl) hcap (by kernel_rfl) λbs r h=>by
  split at h
  ·exact (yP ..).trans h
  ·cases h) <|
 gP MS (λcaps cv w ok hcap=>aP (C:=C0) (A:=vw) G53 cok_none mO (f:=a1) (by kernel_rfl) (by kernel_rfl) hcap (by kernel_rfl) λbs r h=>by
  split at h
  ·exact (yK ..).trans h
  ·cases h) <|
 gP Mb (λcaps cv w ok hcap=>aP (C:=C0) (A:=A1) G55 cok_none mO (f:=a2) (by kernel_rfl) (by kernel_rfl) hcap (by kernel_rfl) λbs r h=>by
  split at h
  ·exact (yu ..).trans h
  ·cases h) <|
 cok_none
theorem G57:aF ab T57:=ak (C:=(dU)) (A:=It) G56 G56 (VA) mO (f:=Tryz.f51) (by kernel_rfl) λbs r h=>by
  split at h
  ·exact (NU ..).trans h
  ·cases h
theorem xY {C:IV->List Nat->List (List IV)->Option (List IV)} (a:COK ab C):ax ab tV ⟨.pure,true,[1],0,λl=>match l with | [[b]]=>il C b | _=>none⟩:=
 kV (C:=C) (A:=KT) G57 a mO (f:=Tryz.f181) (by kernel_rfl) (by kernel_rfl) (by kernel_rfl) rfl λbs r h=>by
  split at h
  ·exact (R5 C ..).trans h
  ·cases h
theorem G58:aF ab T58:=ak (C:=C0) (A:=A1) G57 G57 cok_none mO (f:=ad) (by kernel_rfl) λbs r h=>by
  split at h
  ·exact (gI ..).trans h
  ·cases h
theorem G59:aF ab T59:=ak (C:=C0) (A:=A1) G58 G58 cok_none mO (f:=b1) (by kernel_rfl) λbs r h=>by
  split at h
  ·exact (mN ..).trans h
  ·cases h
theorem G60:aF ab T60:=ak (C:=C0) (A:=FW) G59 G59 cok_none mO (f:=Tryz.f238) (by kernel_rfl) λbs r h=>by
  split at h
  ·exact (Kh ..).trans h
  ·cases h
theorem G61:aF ab T61:=ak (C:=C0) (A:=A1) G60 G60 cok_none mO (f:=Tryz.f128) (by kernel_rfl) λbs r h=>by
  split at h
  ·exact (Q0 ..).trans h
  ·cases h
theorem G62:aF ab T62:=ak (C:=C0) (A:=wj) G61 G61 cok_none mO (f:=Tryz.f237) (by kernel_rfl) λbs r h=>by
  split at h
  ·exact (DU ..).trans h
  ·cases h
theorem G63:aF ab T63:=ak (C:=C0) (A:=CL) G62 G62 cok_none mO (f:=Tryz.f186) (by kernel_rfl) λbs r h=>by
  split at h
  ·exact (I9 ..).trans h
  ·cases h
theorem G64:aF ab T64:=ak (C:=C0) (A:=CU) G63 G63 cok_none mO (f:=Tryz.f187) (by kernel_rfl) λbs r h=>by
  split at h
  ·exact (JV ..).trans h
  ·cases h
theorem G65:aF ab T65:=ak (C:=C0) (A:=A1) G64 G64 cok_none mO (f:=Tryz.f286) (by kernel_rfl) λbs r h=>by
  split at h
  ·exact (qL ..).trans h
  ·cases h
theorem G66:aF ab T66:=ak (C:=C0) (A:=ED) G65 G65 cok_none mO (f:=Tryz.f193) (by kernel_rfl) λbs r h=>by
  split at h
  ·exact (Mk ..).trans h
  ·cases h
theorem G67:aF ab T67:=ak (C:=C0) (A:=A1) G66 G66 cok_none mO (f:=Tryz.f242) (by kernel_rfl) λbs r h=>by
  split at h
  ·exact (I3 ..).trans h
  ·cases h
theorem G68:aF ab T68:=ak (C:=C0) (A:=E8) G67 G67 cok_none mO (f:=Tryz.f194) (by kernel_rfl) λbs r h=>by
  split at h
  ·exact (Mg ..).trans h
  ·cases h
theorem G69:aF ab T69:=ak (C:=C0) (A:=A1) G68 G68 cok_none mO (f:=Tryz.f130) (by kernel_rfl) λbs r h=>by
  split at h
  ·exact (Oi ..).trans h
  ·cases h
theorem G70:aF ab T70:=ak (C:=C0) (A:=rX) G69 G69 cok_none mO (f:=Tryz.f263) (by kernel_rfl) λbs r h=>by
  split at h
  ·exact (yX ..).trans h
  ·cases h
theorem gS:ax ab ir ⟨.inl dW,false,[],0,λ_=>none⟩:=
 aY (C:=C0) (A:=A0) G70 cok_none mO (f:=bO) (by kernel_rfl) (by kernel_rfl)
theorem pH:aF ab gK:= .ext pg gS <| G70
theorem nQ:ax ab eG ⟨.inl iG,false,[],0,λ_=>none⟩:=
 aY (C:=C0) (A:=A0) pH cok_none mO (f:=b0) (by kernel_rfl) (by kernel_rfl)
theorem JH:aF ab (wy):= .ext pg gS <| .ext wQ nQ <| G70
theorem G71:aF ab T71:=ak (C:=C0) (A:=yG) G70 JH cok_none mO (f:=Tryz.f255) (by kernel_rfl) λbs r h=>by
  split at h
  ·exact (FY ..).trans h
  ·cases h
theorem G72:aF ab T72:=ak (C:=C0) (A:=Ak) G71 G71 cok_none mO (f:=Tryz.f239) (by kernel_rfl) λbs r h=>by
  split at h
  ·exact (GU ..).trans h
  ·cases h
theorem G73:aF ab T73:=ak (C:=C0) (A:=A1) G72 G72 cok_none mO (f:=Tryz.f184) (by kernel_rfl) λbs r h=>by
  split at h
  ·exact (La ..).trans h
  ·cases h
theorem G74:aF ab T74:=ak (C:=C0) (A:=A1) G73 G73 cok_none mO (f:=Tryz.f252) (by kernel_rfl) λbs r h=>by
  split at h
  ·exact (My ..).trans h
  ·cases h
theorem G75:aF ab T75:=ak (C:=C0) (A:=A1) G74 G74 cok_none mO (f:=bM) (by kernel_rfl) λbs r h=>by
  split at h
  ·exact (tw ..).trans h
  ·cases h
theorem tH:COK ab (cZ):=
 gP Fk (λcaps cv w ok hcap=>aP (C:=C0) (A:=A1) G74 cok_none mO (f:=bM) (by kernel_rfl) (by kernel_rfl) hcap (by kernel_rfl) λbs r h=>by
  split at h
  ·exact (tw ..).trans h
  ·cases h) <|
 cok_none
theorem iE:ax ab im ⟨.inl eF,false,[],0,λ_=>none⟩:=
 aY (C:=(cZ)) (A:=A0) G75 (tH) mO (f:=bB) (by kernel_rfl) (by kernel_rfl)
theorem p8:aF ab iA:= .ext oG iE <| G75
theorem oA:ax ab eE ⟨.inl iZ,false,[],0,λ_=>none⟩:=
 aY (C:=(cZ)) (A:=A0) p8 (tH) mO (f:=bR) (by kernel_rfl) (by kernel_rfl)
theorem L1:aF ab (yN):= .ext oG iE <| .ext wq oA <| G75
theorem G76:aF ab T76:=ak (C:=(cZ)) (A:=zL) G75 L1 (tH) mO (f:=Tryz.f240) (by kernel_rfl) λbs r h=>by
  split at h
  ·exact (F9 ..).trans h
  ·cases h
theorem G77:aF ab T77:=ak (C:=C0) (A:=wU) G76 G76 cok_none mO (f:=Tryz.f188) (by kernel_rfl) λbs r h=>by
  split at h
  ·exact (Dc ..).trans h
  ·cases h
theorem G78:aF ab T78:=ak (C:=C0) (A:=A1) G77 G77 cok_none mO (f:=Tryz.f287) (by kernel_rfl) λbs r h=>by
  split at h
  ·exact (rb ..).trans h
  ·cases h
theorem adG:aF ab T78:=G78
theorem yI:COK ab eJ:=
 pj (t:=266) (g:=284) (one:=false) (λu w=>by kernel_rfl) (λy u w ok a=>aP (C:=C0) (A:=A1) G57 cok_none mO (f:=ad) (by kernel_rfl) (by kernel_rfl) (s9 a) (by kernel_rfl) λbs r h=>by
  split at h
  ·rename_i heq;cases heq;exact (gI ..).trans h
  ·cases h) <|
 pj (t:=322) (g:=285) (one:=false) (λu w=>by kernel_rfl) (λy u w ok a=>aP (C:=C0) (A:=A1) G58 cok_none mO (f:=b1) (by kernel_rfl) (by kernel_rfl) (s9 a) (by kernel_rfl) λbs r h=>by
  split at h
  ·rename_i heq;cases heq;exact (mN ..).trans h
  ·cases h) <|
 pj (t:=323) (g:=286) (one:=false) (λu w=>by kernel_rfl) (λy u w ok a=>aP (C:=C0) (A:=A1) G64 cok_none mO (f:=Tryz.f286) (by kernel_rfl) (by kernel_rfl) (s9 a) (by kernel_rfl) λbs r h=>by
  split at h
  ·rename_i heq;cases heq;exact (qL ..).trans h
  ·cases h) <|
 pj (t:=324) (g:=287) (one:=false) (λu w=>by kernel_rfl) (λy u w ok a=>aP (C:=C0) (A:=A1) G77 cok_none mO (f:=Tryz.f287) (by kernel_rfl) (by kernel_rfl) (s9 a) (by kernel_rfl) λbs r h=>by
  split at h
  ·rename_i heq;cases heq;exact (rb ..).trans h
  ·cases h) <|
 cok_none
theorem zW:COK ab gA:=
 pj (t:=326) (g:=288) (one:=true) (λu w=>by kernel_rfl) (λy u w ok c=>by
  have h:=PY (A:=A0) adG yI mO (g:=288) (f:=Tryz.f288) (by kernel_rfl) (by kernel_rfl) (Uv eJ) y u w ok c
  refine λw ok bs args r h1 h2 b a=>h w ok bs args r h1 h2 b ?_
  revert a;cases bs<;>exact λa=>a) <|
 yI
theorem Mc:aF ab (yQ):= .ext AR (xY (zW)) <| G78
theorem G79:aF ab T79:=ak (C:=(gA)) (A:=zj) G78 Mc (zW) mO (f:=Tryz.f182) (by kernel_rfl) λbs r h=>by
  split at h
  ·exact (Hj ..).trans h
  ·cases h
theorem wY:COK ab iU:=
 pj (t:=266) (g:=284) (one:=false) (λu w=>by kernel_rfl) (λy u w ok a=>aP (C:=C0) (A:=A1) G57 cok_none mO (f:=ad) (by kernel_rfl) (by kernel_rfl) (s9 a) (by kernel_rfl) λbs r h=>by
  split at h
  ·rename_i heq;cases heq;exact (gI ..).trans h
  ·cases h) <|
 pj (t:=322) (g:=285) (one:=false) (λu w=>by kernel_rfl) (λy u w ok a=>aP (C:=C0) (A:=A1) G58 cok_none mO (f:=b1) (by kernel_rfl) (by kernel_rfl) (s9 a) (by kernel_rfl) λbs r h=>by
  split at h
  ·rename_i heq;cases heq;exact (mN ..).trans h
  ·cases h) <|
 cok_none
theorem yE:COK ab fK:=
 pj (t:=326) (g:=288) (one:=true) (λu w=>by kernel_rfl) (λy u w ok c=>by
  have h:=PY (A:=A0) adG wY mO (g:=288) (f:=Tryz.f288) (by kernel_rfl) (by kernel_rfl) (Uv iU) y u w ok c
  refine λw ok bs args r h1 h2 b a=>h w ok bs args r h1 h2 b ?_
  revert a;cases bs<;>exact λa=>a) <|
 wY
theorem Ja:aF ab (wZ):= .ext AR (xY (yE)) <| G79
theorem G80:aF ab T80:=ak (C:=(fK)) (A:=yq) G79 Ja (yE) mO (f:=Tryz.f183) (by kernel_rfl) λbs r h=>by
  split at h
  ·exact (Et ..).trans h
  ·cases h
theorem Ld:COK ab Bq:=
 pj (t:=266) (g:=284) (one:=false) (λu w=>by kernel_rfl) (λy u w ok a=>aP (C:=C0) (A:=A1) G57 cok_none mO (f:=ad) (by kernel_rfl) (by kernel_rfl) (s9 a) (by kernel_rfl) λbs r h=>by
  split at h
  ·rename_i heq;cases heq;exact (gI ..).trans h
  ·cases h) <|
 cok_none
theorem CT:COK ab jf:=
 Ld
theorem NS:aF ab (zG):= .ext AR (xY (CT)) <| G80
theorem G81:aF ab T81:=ak (C:=(jf)) (A:=C1) G80 NS (CT) mO (f:=Tryz.f119) (by kernel_rfl) λbs r h=>by
  split at h
  ·exact (Jt ..).trans h
  ·cases h
theorem G82:aF ab T82:=ak (C:=C0) (A:=zg) G81 G81 cok_none mO (f:=Tryz.f120) (by kernel_rfl) λbs r h=>by
  split at h
  ·exact (F7 ..).trans h
  ·cases h
theorem G83:aF ab T83:=ak (C:=C0) (A:=pR) G82 G82 cok_none mO (f:=Tryz.f121) (by kernel_rfl) λbs r h=>by
  split at h
  ·exact (wm ..).trans h
  ·cases h
theorem G84:aF ab T84:=ak (C:=C0) (A:=A0) G83 G83 cok_none mO (f:=Tryz.f55) (by kernel_rfl) λbs r h=>by
  split at h
  ·exact (Hs ..).trans h
  ·cases h
theorem G85:aF ab T85:=ak (C:=C0) (A:=M9) G84 G84 cok_none mO (f:=Tryz.f257) (by kernel_rfl) λbs r h=>by
  split at h
  ·exact (Tg ..).trans h
  ·cases h
theorem G86:aF ab T86:=ak (C:=C0) (A:=A1) G85 G85 cok_none mO (f:=Tryz.f241) (by kernel_rfl) λbs r h=>by
  split at h
  ·exact (TI ..).trans h
  ·cases h
theorem G87:aF ab T87:=ak (C:=C0) (A:=Ek) G86 G86 cok_none mO (f:=Tryz.f129) (by kernel_rfl) λbs r h=>by
  split at h
  ·exact (Nk ..).trans h
  ·cases h
theorem G88:aF ab T88:=ak (C:=C0) (A:=A1) G87 G87 cok_none mO (f:=Tryz.f190) (by kernel_rfl) λbs r h=>by
  split at h
  ·exact (Gb ..).trans h
  ·cases h
theorem G89:aF ab T89:=ak (C:=C0) (A:=HI) G88 G88 cok_none mO (f:=Tryz.f123) (by kernel_rfl) λbs r h=>by
  split at h
  ·exact (Pv ..).trans h
  ·cases h
theorem G90:aF ab T90:=ak (C:=C0) (A:=FB) G89 G89 cok_none mO (f:=Tryz.f56) (by kernel_rfl) λbs r h=>by
  split at h
  ·exact (Lw ..).trans h
  ·cases h
theorem G91:aF ab T91:=ak (C:=C0) (A:=A1) G90 G90 cok_none mO (f:=Tryz.f26) (by kernel_rfl) λbs r h=>by
  split at h
  ·exact (L5 ..).trans h
  ·cases h
theorem G92:aF ab T92:=ak (C:=C0) (A:=om) G91 G91 cok_none mO (f:=Tryz.f243) (by kernel_rfl) λbs r h=>by
  split at h
  ·exact (uq ..).trans h
  ·cases h
theorem G93:aF ab T93:=ak (C:=C0) (A:=A1) G92 G92 cok_none mO (f:=Tryz.f195) (by kernel_rfl) λbs r h=>by
  split at h
  ·exact (ux ..).trans h
  ·cases h
theorem G94:aF ab T94:=ak (C:=C0) (A:=A1) G93 G93 cok_none mO (f:=Tryz.f131) (by kernel_rfl) λbs r h=>by
  split at h
  ·exact (y5 ..).trans h
  ·cases h
theorem G95:aF ab T95:=ak (C:=C0) (A:=A1) G94 G94 cok_none mO (f:=Tryz.f63) (by kernel_rfl) λbs r h=>by
  split at h
  ·exact (Fq ..).trans h
  ·cases h
theorem G96:aF ab T96:= .ext Wa (sig_mko (C:=C0) (A:=A0) G95 cok_none mO (f:=Tryz.f64) (by kernel_rfl) (by kernel_rfl) (λbs r h=>by
  split at h
  ·exact (Rf ..).trans h
  ·cases h)) G95
theorem G97:aF ab T97:=ak (C:=C0) (A:=A1) G96 G96 cok_none mO (f:=Tryz.f134) (by kernel_rfl) λbs r h=>by
  split at h
  ·exact (O1 ..).trans h
  ·cases h
theorem dt:ax ab gR ⟨.inl cx,false,[],0,λ_=>none⟩:=
 aY (C:=C0) (A:=dS) G97 cok_none mO (f:=Tryz.f197) (by kernel_rfl) (by kernel_rfl)
theorem mo:aF ab ef:= .ext pP dt <| G97
theorem kE:ax ab gk ⟨.inl ej,false,[],0,λ_=>none⟩:=
 xF (C:=C0) (A:=eC) mo cok_none mO oa (f:=bb) (by kernel_rfl) (by kernel_rfl)
theorem Df:aF ab (r9):= .ext pP dt <| .ext r8 kE <| G97
theorem G98:aF ab T98:= .ext B1 (nD (C:=C0) (A:=A0) Df cok_none mO (f:=Tryz.f138) (by kernel_rfl) (by kernel_rfl) (by kernel_rfl) (λvs bs r hl h=>by
  split at h
  ·rename_i heq;cases heq;exact (zT ..).trans h
  ·cases h) (λbs r h=>by
  split at h
  ·rename_i heq;cases heq
  ·cases h)) G97
theorem dL:ax ab iK ⟨.inl cN,false,[],0,λ_=>none⟩:=
 aY (C:=C0) (A:=en) G98 cok_none mO (f:=Tryz.f133) (by kernel_rfl) (by kernel_rfl)
theorem mG:aF ab eA:= .ext qV dL <| G98
theorem kQ:ax ab gk ⟨.inl ff,false,[],0,λ_=>none⟩:=
 xF (C:=C0) (A:=eY) mG cok_none mO oa (f:=bb) (by kernel_rfl) (by kernel_rfl)
theorem Eh:aF ab (tc):= .ext qV dL <| .ext r8 kQ <| G98
theorem G99:aF ab T99:= .ext DE (nD (C:=C0) (A:=A0) Eh cok_none mO (f:=Tryz.f65) (by kernel_rfl) (by kernel_rfl) (by kernel_rfl) (λvs bs r hl h=>by
  split at h
  ·rename_i heq;cases heq;exact (Cf ..).trans h
  ·cases h) (λbs r h=>by
  split at h
  ·rename_i heq;cases heq
  ·cases h)) G98
theorem An:ax ab oH ⟨.pure,true,[1],0,λl=>match l with | [[a]]=>kK a | _=>none⟩:=
 kV (C:=C0) (A:=A1) G99 cok_none mO (f:=Tryz.f66) (by kernel_rfl) (by kernel_rfl) (by kernel_rfl) rfl λbs r h=>by
  split at h
  ·exact (Ce ..).trans h
  ·cases h
theorem aga:aF ab aen:= .ext Dl (FK An) G99
theorem yU:ax ab nV ⟨.pure,true,[1],0,λl=>match l with | [[a]]=>jz a | _=>none⟩:=
 kV (C:=C0) (A:=A1) aga cok_none mO (f:=Tryz.f142) (by kernel_rfl) (by kernel_rfl) (by kernel_rfl) rfl λbs r h=>by
  split at h
  ·exact (zV ..).trans h
  ·cases h
theorem agR:aF ab ad9:= .ext Ci (FK yU) aga
theorem afK:aF ab aeH:=ak (C:=C0) (A:=CR) agR agR cok_none mO (f:=Tryz.f158) (by kernel_rfl) λbs r h=>by
  split at h
  ·exact (Jh ..).trans h
  ·cases h
theorem agv:aF ab aes:=ak (C:=C0) (A:=Cz) afK afK cok_none mO (f:=Tryz.f92) (by kernel_rfl) λbs r h=>by
  split at h
  ·exact (Jr ..).trans h
  ·cases h
theorem G104:aF ab T104:= .ext Cb (nD (C:=C0) (A:=sS) agv cok_none mO (f:=Tryz.f68) (by kernel_rfl) (by kernel_rfl) (by kernel_rfl) (λvs bs r hl h=>by
  split at h
  ·rename_i heq;cases heq;exact (AP ..).trans h
  ·cases h) (λbs r h=>by
  split at h
  ·rename_i heq;cases heq
  ·cases h)) agv
theorem agl:aF ab aff:= .ext Rj (sig_mko (C:=C0) (A:=A0) G104 cok_none mO (f:=Tryz.f211) (by kernel_rfl) (by kernel_rfl) (λbs r h=>by
  split at h
  ·exact (OW ..).trans h
  ·cases h)) G104
theorem afL:aF ab aeG:=ak (C:=C0) (A:=z8) agl agl cok_none mO (f:=Tryz.f218) (by kernel_rfl) λbs r h=>by
  split at h
  ·exact (GY ..).trans h
  ·cases h
theorem afX:aF ab aeZ:=ak (C:=C0) (A:=H9) afL afL cok_none mO (f:=Tryz.f222) (by kernel_rfl) λbs r h=>by
  split at h
  ·exact (NF ..).trans h
  ·cases h
theorem agL:aF ab afi:=ak (C:=C0) (A:=A1) afX afX cok_none mO (f:=Tryz.f173) (by kernel_rfl) λbs r h=>by
  split at h
  ·exact (Ln ..).trans h
  ·cases h
theorem afE:aF ab ae1:=ak (C:=C0) (A:=A1) agL agL cok_none mO (f:=Tryz.f164) (by kernel_rfl) λbs r h=>by
  split at h
  ·exact (N8 ..).trans h
  ·cases h
theorem afD:aF ab aeR:=ak (C:=C0) (A:=A1) afE afE cok_none mO (f:=Tryz.f265) (by kernel_rfl) λbs r h=>by
  split at h
  ·exact (Lu ..).trans h
  ·cases h
theorem agH:aF ab adS:=ak (C:=C0) (A:=A1) afD afD cok_none mO (f:=Tryz.f264) (by kernel_rfl) λbs r h=>by
  split at h
  ·exact (Nn ..).trans h
  ·cases h
theorem afZ:aF ab aei:=ak (C:=C0) (A:=A1) agH agH cok_none mO (f:=Tryz.f259) (by kernel_rfl) λbs r h=>by
  split at h
  ·exact (R7 ..).trans h
  ·cases h
theorem acu:aF ab abR:=ak (C:=C0) (A:=qX) afZ afZ cok_none mO (f:=Tryz.f261) (by kernel_rfl) λbs r h=>by
  split at h
  ·exact (xa ..).trans h
  ·cases h
theorem iw:ax ab ir ⟨.inl eL,false,[],0,λ_=>none⟩:=
 aY (C:=C0) (A:=A0) acu cok_none mO (f:=bO) (by kernel_rfl) (by kernel_rfl)
theorem qn:aF ab ix:= .ext pg iw <| acu
theorem oB:ax ab eG ⟨.inl jc,false,[],0,λ_=>none⟩:=
 aY (C:=C0) (A:=A0) qn cok_none mO (f:=b0) (by kernel_rfl) (by kernel_rfl)
theorem Kq:aF ab (yt):= .ext pg iw <| .ext wQ oB <| acu
theorem agY:aF ab aer:=ak (C:=C0) (A:=AA) acu Kq cok_none mO (f:=Tryz.f249) (by kernel_rfl) λbs r h=>by
  split at h
  ·exact (GW ..).trans h
  ·cases h
theorem afO:aF ab adZ:=ak (C:=C0) (A:=zB) agY agY cok_none mO (f:=Tryz.f230) (by kernel_rfl) λbs r h=>by
  split at h
  ·exact (GI ..).trans h
  ·cases h
theorem agd:aF ab aek:=ak (C:=C0) (A:=A0) afO afO cok_none mO (f:=Tryz.f229) (by kernel_rfl) λbs r h=>by
  split at h
  ·exact (Jq ..).trans h
  ·cases h
theorem agX:aF ab aeP:=ak (C:=C0) (A:=CW) agd agd cok_none mO (f:=Tryz.f232) (by kernel_rfl) λbs r h=>by
  split at h
  ·exact (IT ..).trans h
  ·cases h
theorem agW:aF ab afe:=ak (C:=C0) (A:=En) agX agX cok_none mO (f:=Tryz.f141) (by kernel_rfl) λbs r h=>by
  split at h
  ·exact (Km ..).trans h
  ·cases h
theorem afP:aF ab aeu:=ak (C:=C0) (A:=EP) agW agW cok_none mO (f:=Tryz.f199) (by kernel_rfl) λbs r h=>by
  split at h
  ·exact (LI ..).trans h
  ·cases h
theorem ad6:aF ab aeJ:=ak (C:=C0) (A:=Fi) afP afP cok_none mO (f:=Tryz.f140) (by kernel_rfl) λbs r h=>by
  split at h
  ·exact (M7 ..).trans h
  ·cases h
theorem acr:aF ab aaA:=ak (C:=C0) (A:=A1) ad6 ad6 cok_none mO (f:=bC) (by kernel_rfl) λbs r h=>by
  split at h
  ·exact (tx ..).trans h
  ·cases h
theorem tu:COK ab (cY):=
 gP Fj (λcaps cv w ok hcap=>aP (C:=C0) (A:=A1) ad6 cok_none mO (f:=bC) (by kernel_rfl) (by kernel_rfl) hcap (by kernel_rfl) λbs r h=>by
  split at h
  ·exact (tx ..).trans h
  ·cases h) <|
 cok_none
theorem iu:ax ab im ⟨.inl eO,false,[],0,λ_=>none⟩:=
 aY (C:=(cY)) (A:=A0) acr (tu) mO (f:=bB) (by kernel_rfl) (by kernel_rfl)
theorem pW:aF ab iD:= .ext oG iu <| acr
theorem oz:ax ab eE ⟨.inl iY,false,[],0,λ_=>none⟩:=
 aY (C:=(cY)) (A:=A0) pW (tu) mO (f:=bR) (by kernel_rfl) (by kernel_rfl)
theorem LA:aF ab (yp):= .ext oG iu <| .ext wq oz <| acr
theorem agD:aF ab aew:=ak (C:=(cY)) (A:=zw) acr LA (tu) mO (f:=Tryz.f231) (by kernel_rfl) λbs r h=>by
  split at h
  ·exact (Gg ..).trans h
  ·cases h
theorem agA:aF ab aef:=ak (C:=C0) (A:=A0) agD agD cok_none mO (f:=Tryz.f171) (by kernel_rfl) λbs r h=>by
  split at h
  ·exact (Jo ..).trans h
  ·cases h
theorem ac0:aF ab aaW:=ak (C:=C0) (A:=A1) agA agA cok_none mO (f:=Tryz.f233) (by kernel_rfl) λbs r h=>by
  split at h
  ·exact (Pc ..).trans h
  ·cases h
theorem dJ:ax ab iQ ⟨.inl cM,false,[],0,λ_=>none⟩:=
 aY (C:=C0) (A:=er) ac0 cok_none mO (f:=Tryz.f228) (by kernel_rfl) (by kernel_rfl)
theorem pM:aF ab gQ:= .ext re dJ <| ac0
theorem nU:ax ab nx ⟨.inl iv,false,[],0,λ_=>none⟩:=
 xF (C:=C0) (A:=A0) pM cok_none mO tN (f:=bf) (by kernel_rfl) (by kernel_rfl)
theorem Ft:aF ab (tM):= .ext re dJ <| .ext zU nU <| ac0
theorem afs:aF ab afb:=ak (C:=C0) (A:=A0) ac0 Ft cok_none mO (f:=Tryz.f172) (by kernel_rfl) λbs r h=>by
  split at h
  ·exact (BQ ..).trans h
  ·cases h
theorem ago:aF ab aeB:=ak (C:=C0) (A:=HU) afs afs cok_none mO (f:=Tryz.f137) (by kernel_rfl) λbs r h=>by
  split at h
  ·exact (NG ..).trans h
  ·cases h
theorem agZ:aF ab aeV:=ak (C:=C0) (A:=MP) ago ago cok_none mO (f:=Tryz.f247) (by kernel_rfl) λbs r h=>by
  split at h
  ·exact (RZ ..).trans h
  ·cases h
theorem agr:aF ab aea:=ak (C:=C0) (A:=oM) agZ agZ cok_none mO (f:=Tryz.f248) (by kernel_rfl) λbs r h=>by
  split at h
  ·exact (vA ..).trans h
  ·cases h
theorem af6:aF ab ae3:=ak (C:=C0) (A:=CP) agr agr cok_none mO (f:=Tryz.f225) (by kernel_rfl) λbs r h=>by
  split at h
  ·exact (JI ..).trans h
  ·cases h
theorem agE:aF ab adV:=ak (C:=C0) (A:=Cq) af6 af6 cok_none mO (f:=Tryz.f168) (by kernel_rfl) λbs r h=>by
  split at h
  ·exact (Jj ..).trans h
  ·cases h
theorem agK:aF ab ad8:=ak (C:=C0) (A:=Mw) agE agE cok_none mO (f:=Tryz.f226) (by kernel_rfl) λbs r h=>by
  split at h
  ·exact (SQ ..).trans h
  ·cases h
theorem agI:aF ab aeO:=ak (C:=C0) (A:=HA) agK agK cok_none mO (f:=Tryz.f227) (by kernel_rfl) λbs r h=>by
  split at h
  ·exact (OQ ..).trans h
  ·cases h
theorem af0:aF ab aee:=ak (C:=C0) (A:=CC) agI agI cok_none mO (f:=Tryz.f170) (by kernel_rfl) λbs r h=>by
  split at h
  ·exact (Jk ..).trans h
  ·cases h
theorem af1:aF ab adg:=ak (C:=C0) (A:=A1) af0 af0 cok_none mO (f:=Tryz.f246) (by kernel_rfl) λbs r h=>by
  split at h
  ·exact (SO ..).trans h
  ·cases h
theorem agP:aF ab aeD:= .ext D6 (nD (C:=C0) (A:=A0) af1 cok_none mO (f:=Tryz.f223) (by kernel_rfl) (by kernel_rfl) (by kernel_rfl) (λvs bs r hl h=>by
  split at h
  ·rename_i heq;cases heq;exact (BU ..).trans h
  ·rename_i heq;cases heq;simp at hl
  ·cases h) (λbs r h=>by
  split at h
  ·rename_i heq;cases heq
  ·rename_i heq;cases heq;exact (wC ..).trans (Bm h)
  ·cases h)) af1
theorem agG:aF ab afd:=ak (C:=C0) (A:=EH) agP agP cok_none mO (f:=Tryz.f224) (by kernel_rfl) λbs r h=>by
  split at h
  ·exact (Kl ..).trans h
  ·cases h
theorem V6:aF ab SH:=ak (C:=C0) (A:=Bl) agG agG cok_none mO (f:=Tryz.f166) (by kernel_rfl) λbs r h=>by
  split at h
  ·exact (Gk ..).trans h
  ·cases h
theorem aR:ax ab cU ⟨.inl aM,false,[],0,λ_=>none⟩:=
 aY (C:=C0) (A:=A0) V6 cok_none mO (f:=Tryz.f212) (by kernel_rfl) (by kernel_rfl)
theorem pI:aF ab gG:= .ext dN aR <| V6
theorem bl:ax ab cH ⟨.inl bg,false,[],0,λ_=>none⟩:=
 aY (C:=C0) (A:=A0) pI cok_none mO (f:=bA) (by kernel_rfl) (by kernel_rfl)
theorem ox:aF ab gj:= .ext dN aR <| .ext dQ bl <| V6
theorem bQ:ax ab ei ⟨.inl bz,false,[],0,λ_=>none⟩:=
 aY (C:=C0) (A:=A0) ox cok_none mO (f:=Tryz.f215) (by kernel_rfl) (by kernel_rfl)
theorem nS:aF ab fp:= .ext dN aR <| .ext dQ bl <| .ext jK bQ <| V6
theorem cL:ax ab fS ⟨.inl cf,false,[],0,λ_=>none⟩:=
 aY (C:=C0) (A:=A0) nS cok_none mO (f:=Tryz.f214) (by kernel_rfl) (by kernel_rfl)
theorem ow:aF ab fU:= .ext dN aR <| .ext dQ bl <| .ext jK bQ <| .ext mP cL <| V6
theorem eX:ax ab kL ⟨.inl di,false,[],0,λ_=>none⟩:=
 aY (C:=C0) (A:=A0) ow cok_none mO (f:=Tryz.f217) (by kernel_rfl) (by kernel_rfl)
theorem nw:aF ab fg:= .ext dN aR <| .ext dQ bl <| .ext jK bQ <| .ext mP cL <| .ext tL eX <| V6
theorem kR:ax ab mQ ⟨.inl fA,false,[],0,λ_=>none⟩:=
 aY (C:=C0) (A:=A0) nw cok_none mO (f:=Tryz.f216) (by kernel_rfl) (by kernel_rfl)
theorem Jy:aF ab (wP):= .ext dN aR <| .ext dQ bl <| .ext jK bQ <| .ext mP cL <| .ext tL eX <| .ext Al kR <| V6
theorem abe:aF ab Zc:=ak (C:=C0) (A:=yL) V6 Jy cok_none mO (f:=Tryz.f159) (by kernel_rfl) λbs r h=>by
  split at h
  ·exact (Fb ..).trans h
  ·cases h
theorem cF:ax ab gi ⟨.inl bW,false,[],0,λ_=>none⟩:=
 aY (C:=C0) (A:=A0) abe cok_none mO (f:=Tryz.f219) (by kernel_rfl) (by kernel_rfl)
theorem pr:aF ab gu:= .ext mL cF <| abe
theorem fu:ax ab cH ⟨.inl dp,false,[],0,λ_=>none⟩:=
 aY (C:=C0) (A:=A0) pr cok_none mO (f:=bA) (by kernel_rfl) (by kernel_rfl)
theorem py:aF ab gv:= .ext mL cF <| .ext dQ fu <| abe
theorem nt:ax ab rS ⟨.inl gJ,false,[],0,λ_=>none⟩:=
 aY (C:=C0) (A:=A0) py cok_none mO (f:=Tryz.f220) (by kernel_rfl) (by kernel_rfl)
theorem GK:aF ab (vh):= .ext mL cF <| .ext dQ fu <| .ext GL nt <| abe
theorem afA:aF ab adX:=ak (C:=C0) (A:=wc) abe GK cok_none mO (f:=Tryz.f160) (by kernel_rfl) λbs r h=>by
  split at h
  ·exact (DD ..).trans h
  ·cases h
theorem agN:aF ab aeX:=ak (C:=C0) (A:=CM) afA afA cok_none mO (f:=Tryz.f94) (by kernel_rfl) λbs r h=>by
  split at h
  ·exact (IH ..).trans h
  ·cases h
theorem agB:aF ab ad7:=ak (C:=C0) (A:=A1) agN agN cok_none mO (f:=Tryz.f163) (by kernel_rfl) λbs r h=>by
  split at h
  ·exact (I7 ..).trans h
  ·cases h
theorem agx:aF ab adR:=ak (C:=C0) (A:=A0) agB agB cok_none mO (f:=Tryz.f165) (by kernel_rfl) λbs r h=>by
  split at h
  ·exact (Jp ..).trans h
  ·cases h
theorem af7:aF ab aeL:=ak (C:=C0) (A:=A0) agx agx cok_none mO (f:=Tryz.f167) (by kernel_rfl) λbs r h=>by
  split at h
  ·exact (JF ..).trans h
  ·cases h
theorem ach:aF ab abk:=ak (C:=C0) (A:=A0) af7 af7 cok_none mO (f:=Tryz.f169) (by kernel_rfl) λbs r h=>by
  split at h
  ·exact (JE ..).trans h
  ·cases h
theorem fP:ax ab mm ⟨.inl dG,false,[],0,λ_=>none⟩:=
 aY (C:=C0) (A:=iy) ach cok_none mO (f:=Tryz.f162) (by kernel_rfl) (by kernel_rfl)
theorem rQ:aF ab jv:= .ext u9 fP <| ach
theorem pL:ax ab nx ⟨.inl kb,false,[],0,λ_=>none⟩:=
 xF (C:=C0) (A:=A0) rQ cok_none mO tN (f:=bf) (by kernel_rfl) (by kernel_rfl)
theorem M8:aF ab (yr):= .ext u9 fP <| .ext zU pL <| ach
theorem TD:aF ab SI:=ak (C:=C0) (A:=Ap) ach M8 cok_none mO (f:=Tryz.f96) (by kernel_rfl) λbs r h=>by
  split at h
  ·exact (F8 ..).trans h
  ·cases h
theorem bh:ax ab dB ⟨.inl ba,false,[],0,λ_=>none⟩:=
 aY (C:=C0) (A:=jQ) TD cok_none mO (f:=Tryz.f90) (by kernel_rfl) (by kernel_rfl)
theorem rA:aF ab js:= .ext fD bh <| TD
theorem bL:ax ab eN ⟨.inl bD,false,[],0,λ_=>none⟩:=
 aY (C:=C0) (A:=j6) rA cok_none mO (f:=Tryz.f91) (by kernel_rfl) (by kernel_rfl)
theorem rC:aF ab ju:= .ext fD bh <| .ext jg bL <| TD
theorem cz:ax ab gz ⟨.inl cj,false,[],0,λ_=>none⟩:=
 aY (C:=C0) (A:=A0) rC cok_none mO (f:=Tryz.f93) (by kernel_rfl) (by kernel_rfl)
theorem rR:aF ab jq:= .ext fD bh <| .ext jg bL <| .ext mC cz <| TD
theorem dE:ax ab jS ⟨.inl da,false,[],0,λ_=>none⟩:=
 aY (C:=C0) (A:=A0) rR cok_none mO (f:=Tryz.f95) (by kernel_rfl) (by kernel_rfl)
theorem rH:aF ab jo:= .ext fD bh <| .ext jg bL <| .ext mC cz <| .ext pU dE <| TD
theorem iC:ax ab nN ⟨.inl eD,false,[],0,λ_=>none⟩:=
 aY (C:=C0) (A:=A0) rH cok_none mO (f:=Tryz.f97) (by kernel_rfl) (by kernel_rfl)
theorem sV:aF ab kN:= .ext fD bh <| .ext jg bL <| .ext mC cz <| .ext pU dE <| .ext wO iC <| TD
theorem qM:ax ab vK ⟨.inl lM,false,[],0,λ_=>none⟩:=
 aY (C:=C0) (A:=A0) sV cok_none mO (f:=Tryz.f49) (by kernel_rfl) (by kernel_rfl)
theorem Rs:aF ab (CK):= .ext fD bh <| .ext jg bL <| .ext mC cz <| .ext pU dE <| .ext wO iC <| .ext Nc qM <| TD
theorem agO:aF ab acw:=ak (C:=C0) (A:=ET) TD Rs cok_none mO (f:=Tryz.f22) (by kernel_rfl) λbs r h=>by
  split at h
  ·exact (No ..).trans h
  ·cases h
theorem agC:aF ab aez:= .ext AO (nD (C:=C0) (A:=A0) agO cok_none mO (f:=Tryz.f45) (by kernel_rfl) (by kernel_rfl) (by kernel_rfl) (λvs bs r hl h=>by
  split at h
  ·rename_i heq;cases heq;exact (y4 ..).trans h
  ·rename_i heq;cases heq;simp at hl
  ·cases h) (λbs r h=>by
  split at h
  ·rename_i heq;cases heq
  ·rename_i heq;cases heq;exact (uw ..).trans (Bm h)
  ·cases h)) agO
theorem af2:aF ab aeo:=ak (C:=C0) (A:=C4) agC agC cok_none mO (f:=Tryz.f88) (by kernel_rfl) λbs r h=>by
  split at h
  ·exact (JC ..).trans h
  ·cases h
theorem afH:aF ab afc:=ak (C:=C0) (A:=A0) af2 af2 cok_none mO (f:=Tryz.f48) (by kernel_rfl) λbs r h=>by
  split at h
  ·exact (V1 ..).trans h
  ·cases h
theorem af9:aF ab ae7:=ak (C:=C0) (A:=MR) afH afH cok_none mO (f:=Tryz.f16) (by kernel_rfl) λbs r h=>by
  split at h
  ·exact (R2 ..).trans h
  ·cases h
theorem agV:aF ab acW:=ak (C:=C0) (A:=CS) af9 af9 cok_none mO (f:=Tryz.f82) (by kernel_rfl) λbs r h=>by
  split at h
  ·exact (Jd ..).trans h
  ·cases h
theorem ade:aF ab ab7:= .ext Cg (nD (C:=C0) (A:=A0) agV cok_none mO (f:=Tryz.f44) (by kernel_rfl) (by kernel_rfl) (by kernel_rfl) (λvs bs r hl h=>by
  split at h
  ·rename_i heq;cases heq;exact (Bi ..).trans h
  ·rename_i heq;cases heq;simp at hl
  ·cases h) (λbs r h=>by
  split at h
  ·rename_i heq;cases heq
  ·rename_i heq;cases heq;exact (vP ..).trans (Bm h)
  ·cases h)) agV
theorem MT {C:IV->List Nat->List (List IV)->Option (List IV)} (a:COK ab C):ax ab yg ⟨.pure,true,[1],0,λl=>match l with | [[b],[c,d],[e]]=>jI C b c d e | _=>none⟩:=
 kV (C:=C) (A:=EG) ade a mO (f:=Tryz.f83) (by kernel_rfl) (by kernel_rfl) (by kernel_rfl) rfl λbs r h=>by
  split at h
  ·exact (MH C ..).trans h
  ·cases h
theorem agq:aF ab aeh:=ak (C:=C0) (A:=A1) ade ade cok_none mO (f:=b3) (by kernel_rfl) λbs r h=>by
  split at h
  ·exact (uU ..).trans h
  ·cases h
theorem Bf:COK ab (gy):=
 gP Ht (λcaps cv w ok hcap=>aP (C:=C0) (A:=A1) ade cok_none mO (f:=b3) (by kernel_rfl) (by kernel_rfl) hcap (by kernel_rfl) λbs r h=>by
  split at h
  ·exact (uU ..).trans h
  ·cases h) <|
 gP z5 (λcaps cv w ok hcap=>aP (C:=C0) (A:=A1) G51 cok_none mO (f:=b4) (by kernel_rfl) (by kernel_rfl) hcap (by kernel_rfl) λbs r h=>by
  split at h
  ·exact (pQ ..).trans h
  ·cases h) <|
 cok_none
theorem L2:aF ab (yv):= .ext Ny (MT (Bf)) <| agq
theorem afJ:aF ab ae0:=ak (C:=(gy)) (A:=Bb) agq L2 (Bf) mO (f:=Tryz.f46) (by kernel_rfl) λbs r h=>by
  split at h
  ·exact (Hw ..).trans h
  ·cases h
theorem afB:aF ab acK:=ak (C:=C0) (A:=HN) afJ afJ cok_none mO (f:=Tryz.f25) (by kernel_rfl) λbs r h=>by
  split at h
  ·exact (Od ..).trans h
  ·cases h
theorem afN:aF ab aeC:= .ext y0 (nD (C:=C0) (A:=lP) afB cok_none mO (f:=Tryz.f43) (by kernel_rfl) (by kernel_rfl) (by kernel_rfl) (λvs bs r hl h=>by
  split at h
  ·rename_i heq;cases heq;exact (xx ..).trans h
  ·rename_i heq;cases heq;simp at hl
  ·cases h) (λbs r h=>by
  split at h
  ·rename_i heq;cases heq
  ·rename_i heq;cases heq;exact (ta ..).trans (Bm h)
  ·cases h)) afB
theorem agz:aF ab aev:=ak (C:=C0) (A:=FJ) afN afN cok_none mO (f:=Tryz.f81) (by kernel_rfl) λbs r h=>by
  split at h
  ·exact (L6 ..).trans h
  ·cases h
theorem af4:aF ab acB:= .ext BV (nD (C:=C0) (A:=tY) agz cok_none mO (f:=Tryz.f42) (by kernel_rfl) (by kernel_rfl) (by kernel_rfl) (λvs bs r hl h=>by
  split at h
  ·rename_i heq;cases heq;exact (zK ..).trans h
  ·cases h) (λbs r h=>by
  split at h
  ·rename_i heq;cases heq
  ·cases h)) agz
theorem agb:aF ab ae6:= .ext Da (nD (C:=C0) (A:=o8) af4 cok_none mO (f:=Tryz.f12) (by kernel_rfl) (by kernel_rfl) (by kernel_rfl) (λvs bs r hl h=>by
  split at h
  ·rename_i heq;cases heq;exact (BW ..).trans h
  ·rename_i heq;cases heq;simp at hl
  ·cases h) (λbs r h=>by
  split at h
  ·rename_i heq;cases heq
  ·rename_i heq;cases heq;exact (vW ..).trans (Bm h)
  ·cases h)) af4
theorem afM:aF ab acn:=ak (C:=C0) (A:=A0) agb agb cok_none mO (f:=Tryz.f24) (by kernel_rfl) λbs r h=>by
  split at h
  ·exact (Ms ..).trans h
  ·cases h
theorem afV:aF ab afg:= .ext C8 (nD (C:=C0) (A:=A0) afM cok_none mO (f:=Tryz.f15) (by kernel_rfl) (by kernel_rfl) (by kernel_rfl) (λvs bs r hl h=>by
  split at h
  ·rename_i heq;cases heq;exact (B3 ..).trans h
  ·rename_i heq;cases heq;simp at hl
  ·cases h) (λbs r h=>by
  split at h
  ·rename_i heq;cases heq
  ·rename_i heq;cases heq;exact (we ..).trans (Bm h)
  ·cases h)) afM
theorem acV:aF ab aat:=ak (C:=C0) (A:=EO) afV afV cok_none mO (f:=Tryz.f40) (by kernel_rfl) λbs r h=>by
  split at h
  ·exact h
  ·cases h
theorem mD:ax ab p6 ⟨.inl jG,false,[],0,λ_=>none⟩:=
 aY (C:=C0) (A:=oY) acV cok_none mO (f:=b2) (by kernel_rfl) (by kernel_rfl)
theorem xd:aF ab ou:= .ext zQ mD <| acV
theorem uu:ax ab D4 ⟨.inl oK,false,[],0,λ_=>none⟩:=
 aY (C:=C0) (A:=pc) xd cok_none mO (f:=Tryz.f27) (by kernel_rfl) (by kernel_rfl)
theorem UX:aF ab (EV):= .ext zQ mD <| .ext VS uu <| acV
theorem agk:aF ab acZ:=ak (C:=C0) (A:=H0) acV UX cok_none mO (f:=Tryz.f9) (by kernel_rfl) λbs r h=>by
  split at h
  ·exact (Pu ..).trans h
  ·cases h
theorem afq:aF ab aeA:= .ext D1 (nD (C:=C0) (A:=A0) agk cok_none mO (f:=Tryz.f11) (by kernel_rfl) (by kernel_rfl) (by kernel_rfl) (λvs bs r hl h=>by
  split at h
  ·rename_i heq;cases heq;exact (Ca ..).trans h
  ·rename_i heq;cases heq;simp at hl
  ·cases h) (λbs r h=>by
  split at h
  ·rename_i heq;cases heq
  ·rename_i heq;cases heq;exact (wG ..).trans (Bm h)
  ·cases h)) agk
theorem agQ:aF ab aeW:=ak (C:=C0) (A:=C5) afq afq cok_none mO (f:=Tryz.f13) (by kernel_rfl) λbs r h=>by
  split at h
  ·exact (IX ..).trans h
  ·cases h
theorem afY:aF ab adN:=ak (C:=C0) (A:=A1) agQ agQ cok_none mO (f:=Tryz.f205) (by kernel_rfl) λbs r h=>by
  split at h
  ·exact (Li ..).trans h
  ·cases h
theorem afT:aF ab afa:=ak (C:=C0) (A:=CE) afY afY cok_none mO (f:=Tryz.f206) (by kernel_rfl) λbs r h=>by
  split at h
  ·exact (IZ ..).trans h
  ·cases h
theorem afu:aF ab aet:=ak (C:=C0) (A:=A1) afT afT cok_none mO (f:=Tryz.f207) (by kernel_rfl) λbs r h=>by
  split at h
  ·exact (O8 ..).trans h
  ·cases h
theorem af5:aF ab aeN:=ak (C:=C0) (A:=Fs) afu afu cok_none mO (f:=Tryz.f152) (by kernel_rfl) λbs r h=>by
  split at h
  ·exact (Mz ..).trans h
  ·cases h
theorem aft:aF ab ae4:=ak (C:=C0) (A:=A1) af5 af5 cok_none mO (f:=Tryz.f87) (by kernel_rfl) λbs r h=>by
  split at h
  ·exact (Lx ..).trans h
  ·cases h
theorem agS:aF ab ad3:=ak (C:=C0) (A:=CV) aft aft cok_none mO (f:=Tryz.f47) (by kernel_rfl) λbs r h=>by
  split at h
  ·exact (IL ..).trans h
  ·cases h
theorem ad0:aF ab ab9:=ak (C:=C0) (A:=FZ) agS agS cok_none mO (f:=Tryz.f14) (by kernel_rfl) λbs r h=>by
  split at h
  ·exact (KI ..).trans h
  ·cases h
theorem sC:ax ab p6 ⟨.inl nb,false,[],0,λ_=>none⟩:=
 aY (C:=C0) (A:=mX) ad0 cok_none mO (f:=b2) (by kernel_rfl) (by kernel_rfl)
theorem OD:aF ab (Ae):= .ext zQ sC <| ad0
theorem ahu:aF ab aiD:=ak (C:=C0) (A:=Co) ad0 OD cok_none mO (f:=Tryz.f3) (by kernel_rfl) λbs r h=>by
  split at h
  ·exact (JX ..).trans h
  ·cases h
theorem JW:ax ab C7 CF:=aF.own ahu
end Go.AM

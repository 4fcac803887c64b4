/- The contracts of all functions that are reached. -/
import Derived.Test.YtgoenohknokcmaaGreatWk
import Derived.Test.YtgoenohknokcmaaGreatHm
import Derived.Test.YtgoenohknokcmaaGreatHr
import Derived.Test.YtgoenohknokcmaaGreatDe
import Derived.Test.YtgoenohknokcmaaGreatFx
import Derived.Test.YtgoenohknokcmaaGreatGw
import Derived.Test.YtgoenohknokcmaaGreatGd
import Derived.Test.YtgoenohknokcmaaGreatTk
open Go.Proofs.Tryz renaming prog->ab,f284->ad,f101->al,f104->ao,f106->aB,f108->a1,f110->a2,f112->a5,f117->a6,f126->a7,f132->a8,f156->bb,f161->bd,f175->bf,f178->bm,f208->br,f213->bx,f250->bA,f251->bB,f256->bC,f260->bM,f262->bO,f266->bR,f285->b0,f10->b1,f27->b2,f84->b3,f85->b4,f98->b5
set_option linter.unusedVariables false
set_option linter.unusedSimpArgs false
set_option maxRecDepth 100000
namespace Go.AM
open Go.Proofs
theorem eQ0 {g:Go.FuncId} (f:Go.Func) (a:Tryz.prog.funcs[g]? =some f:=by kernel_rfl) (b:(f.name== "runtime.NumGoroutine")=false:=by kernel_rfl) (c:f.body.isNone=false:=by kernel_rfl):Enters Tryz.prog g:=enters_of a b c
theorem mO:ab.follows .mixedOrders=true:=by kernel_rfl
theorem vz:Enters ab oA:=eQ0 b1
theorem H4:Enters ab u7:=eQ0 b2
theorem fN:Enters ab dA:=eQ0 Tryz.f90
theorem jt:Enters ab eL:=eQ0 Tryz.f91
theorem mV:Enters ab gJ:=eQ0 Tryz.f93
theorem qG:Enters ab kf:=eQ0 Tryz.f95
theorem w9:Enters ab om:=eQ0 Tryz.f97
theorem iv:Enters ab dc:=eQ0 Tryz.f116
theorem sJ:Enters ab gu:=eQ0 a8
theorem rU:Enters ab iX:=eQ0 Tryz.f133
theorem np:Enters ab fU:=eQ0 Tryz.f135
theorem vD:Enters ab mX:=eQ0 Tryz.f136
theorem sQ:Enters ab oy:=eQ0 Tryz.f138
theorem oL:Enters ab fw:=eQ0 Tryz.f155
theorem AP:Enters ab nG:=eQ0 bd
theorem vF:Enters ab mQ:=eQ0 Tryz.f162
theorem zR:Enters ab um:=eQ0 Tryz.f181
theorem qp:Enters ab g9:=eQ0 Tryz.f197
theorem dR:Enters ab cT:=eQ0 Tryz.f212
theorem dN:Enters ab cI:=eQ0 bx
theorem ni:Enters ab gr:=eQ0 Tryz.f214
theorem jV:Enters ab eE:=eQ0 Tryz.f215
theorem An:Enters ab nc:=eQ0 Tryz.f216
theorem tW:Enters ab lq:=eQ0 Tryz.f217
theorem nq:Enters ab fS:=eQ0 Tryz.f219
theorem rS:Enters ab jf:=eQ0 Tryz.f228
theorem pN:Enters ab iB:=eQ0 bA
theorem pr:Enters ab im:=eQ0 bM
theorem xf:Enters ab ff:=eQ0 bO
theorem xd:Enters ab eO:=eQ0 bR
theorem G1:aF ab T1:= .ext (eQ0 Tryz.f41) zJ G0
theorem G2:aF ab T2:= .ext (eQ0 Tryz.f59) qo G1
theorem G3:aF ab T3:= .ext (eQ0 Tryz.f62) tY G2
theorem G4:aF ab T4:= .ext (eQ0 Tryz.f69) zQ G3
theorem G5:aF ab T5:= .ext (eQ0 Tryz.f86) yM G4
theorem G6:aF ab T6:= .ext (eQ0 Tryz.f113) zI G5
theorem G7:aF ab T7:= .ext (eQ0 Tryz.f118) yn G6
theorem G8:aF ab T8:= .ext (eQ0 Tryz.f122) rE G7
theorem Ml:ay ab yu Gh:=
 RI λw A b off cap ps i f g d a e c x y h=>callsIn_wide.1 (abJ 1 (Nat.le_refl _) w A b off cap ps i f g d a e c x y h)
theorem G9:aF ab T9:= .ext (eQ0 Tryz.f153) Ml G8
theorem G10:aF ab T10:= .ext (eQ0 Tryz.f157) zw G9
theorem G11:aF ab T11:= .ext (eQ0 Tryz.f189) zq G10
theorem G12:aF ab T12:=ak (C:=C0) (A:=A1) G11 G11 cok_none mO (f:=Tryz.f124) (by kernel_rfl) λbs r h=>by
  split at h
  ·exact (OO ..).trans h
  ·cases h
theorem G13:aF ab T13:=ak (C:=C0) (A:=FD) G12 G12 cok_none mO (f:=Tryz.f57) (by kernel_rfl) λbs r h=>by
  split at h
  ·exact (LV ..).trans h
  ·cases h
theorem G14:aF ab T14:=ak (C:=C0) (A:=A1) G13 G13 cok_none mO (f:=Tryz.f28) (by kernel_rfl) λbs r h=>by
  split at h
  ·exact (MB ..).trans h
  ·cases h
theorem G15:aF ab T15:=ak (C:=C0) (A:=LH) G14 G14 cok_none mO (f:=Tryz.f70) (by kernel_rfl) λbs r h=>by
  split at h
  ·exact (S0 ..).trans h
  ·cases h
theorem RY:ay ab K5 KI:=aF.own G15
theorem Tz:ay ab Ei Lo:=
 X0 (O:=(λl=>match l with | [[j,k,m,n]]=>mm j k m n | _=>none)) RY λw A b off cap ps i g ob h e a f d c=>callsIn_wide.1 (aek 1 (Nat.le_refl _) w A b off cap ps i g ob h e a f d c)
theorem G16:aF ab T16:= .ext (eQ0 Tryz.f99) Tz G15
theorem G17:aF ab T17:=ak (C:=C0) (A:=uW) G16 G16 cok_none mO (f:=Tryz.f203) (by kernel_rfl) λbs r h=>by
  split at h
  ·exact (Bb ..).trans h
  ·cases h
theorem G18:aF ab T18:=ak (C:=C0) (A:=A1) G17 G17 cok_none mO (f:=Tryz.f148) (by kernel_rfl) λbs r h=>by
  split at h
  ·exact (wZ ..).trans h
  ·cases h
theorem xc:ay ab qv qu:=aF.own G18
theorem O1:ay ab Ab IY:=
 Vy λw A b off cap ps j h i f a g d c e=>callsIn_wide.1 (ZD 1 (Nat.le_refl _) w A b off cap ps j h i f a g d c e (XC xc OD))
theorem G19:aF ab T19:= .ext (eQ0 Tryz.f39) O1 G18
theorem G20:aF ab T20:=ak (C:=C0) (A:=A1) G19 G19 cok_none mO (f:=Tryz.f236) (by kernel_rfl) λbs r h=>by
  split at h
  ·exact (R9 ..).trans h
  ·cases h
theorem RN:ay ab DY NM:=aF.own G20
theorem G21:aF ab T21:=ak (C:=C0) (A:=Nq) G20 G20 cok_none mO (f:=Tryz.f60) (by kernel_rfl) λbs r h=>by
  split at h
  ·exact (Tk ..).trans h
  ·cases h
theorem RB:ay ab DB LU:=aF.own G21
theorem Ha:ay ab uD AJ:=
 Cy (λ_=>rfl) (λ_=>rfl) RN RB (eQ0 Tryz.f236) (eQ0 Tryz.f60)
theorem G22:aF ab T22:= .ext (eQ0 Tryz.f185) Ha G21
theorem G23:aF ab T23:=ak (C:=C0) (A:=A1) G22 G22 cok_none mO (f:=Tryz.f134) (by kernel_rfl) λbs r h=>by
  split at h
  ·exact (NT ..).trans h
  ·cases h
theorem dw:ay ab g9 ⟨.inl cz,false,[],0,λ_=>none⟩:=
 aO (C:=C0) (A:=dS) G23 cok_none mO (f:=Tryz.f197) (by kernel_rfl) (by kernel_rfl)
theorem mI:aF ab en:= .ext qp dw <| G23
theorem lg:ay ab gu ⟨.inl ey,false,[],0,λ_=>none⟩:=
 yN (C:=C0) (A:=eC) mI cok_none mO oU (f:=a8) (by kernel_rfl) (by kernel_rfl)
theorem Ep:aF ab (sM):= .ext qp dw <| .ext sJ lg <| G23
theorem G24:aF ab T24:= .ext sQ (oh (C:=C0) (A:=A0) Ep cok_none mO (f:=Tryz.f138) (by kernel_rfl) (by kernel_rfl) (by kernel_rfl) (λvs bs r hl h=>by
  split at h
  ·rename_i heq;cases heq;exact (zZ ..).trans h
  ·cases h) (λbs r h=>by
  split at h
  ·rename_i heq;cases heq
  ·cases h)) G23
theorem AG:ay ab oy tH:=aF.own G24
theorem Cw:ay ab pC vB:=
 xS (λ_ _ _=>rfl) AG sQ
theorem G25:aF ab T25:= .ext (eQ0 Tryz.f139) Cw G24
theorem nW {C:IV->List Nat->List (List IV)->Option (List IV)} (a:COK ab C):ay ab fw ⟨.pure,true,[1],0,λl=>match l with | [[b],[c]]=>bJ C b c | _=>none⟩:=
 mf (C:=C) (A:=pn) G25 a mO (f:=Tryz.f155) (by kernel_rfl) (by kernel_rfl) (by kernel_rfl) rfl λbs r h=>by
  split at h
  ·exact (wN C ..).trans h
  ·cases h
theorem G26:aF ab T26:=ak (C:=C0) (A:=A1) G25 G25 cok_none mO (f:=br) (by kernel_rfl) λbs r h=>by
  split at h
  ·exact (xp ..).trans h
  ·cases h
theorem EV:COK ab (nT):=
 gR (eQ0 br) (λcaps cv w ok hcap=>aX (C:=C0) (A:=A1) G25 cok_none mO (f:=br) (by kernel_rfl) (by kernel_rfl) hcap (by kernel_rfl) λbs r h=>by
  split at h
  ·exact (xp ..).trans h
  ·cases h) <|
 cok_none
theorem Se:aF ab (C3):= .ext oL (nW (EV)) <| G26
theorem G27:aF ab T27:=ak (C:=(nT)) (A:=A1) G26 Se (EV) mO (f:=Tryz.f154) (by kernel_rfl) λbs r h=>by
  split at h
  ·exact (Mr ..).trans h
  ·cases h
theorem G28:aF ab T28:=ak (C:=C0) (A:=A1) G27 G27 cok_none mO (f:=bb) (by kernel_rfl) λbs r h=>by
  split at h
  ·exact (BP ..).trans h
  ·cases h
theorem KU:COK ab (rH):=
 gR (eQ0 bb) (λcaps cv w ok hcap=>aX (C:=C0) (A:=A1) G27 cok_none mO (f:=bb) (by kernel_rfl) (by kernel_rfl) hcap (by kernel_rfl) λbs r h=>by
  split at h
  ·exact (BP ..).trans h
  ·cases h) <|
 cok_none
theorem Xp:aF ab (H7):= .ext oL (nW (KU)) <| G28
theorem G29:aF ab T29:=ak (C:=(rH)) (A:=A0) G28 Xp (KU) mO (f:=Tryz.f89) (by kernel_rfl) λbs r h=>by
  split at h
  ·exact (Re ..).trans h
  ·cases h
theorem G30:aF ab T30:=ak (C:=C0) (A:=C9) G29 G29 cok_none mO (f:=Tryz.f8) (by kernel_rfl) λbs r h=>by
  split at h
  ·exact (Jl ..).trans h
  ·cases h
theorem G31:aF ab T31:= .ext (eQ0 Tryz.f20) (oh (C:=C0) (A:=lG) G30 cok_none mO (f:=Tryz.f20) (by kernel_rfl) (by kernel_rfl) (by kernel_rfl) (λvs bs r hl h=>by
  split at h
  ·rename_i heq;cases heq;exact (yq ..).trans h
  ·rename_i heq;cases heq;simp at hl
  ·cases h) (λbs r h=>by
  split at h
  ·rename_i heq;cases heq
  ·rename_i heq;cases heq;exact (u5 ..).trans (BH h)
  ·cases h)) G30
theorem Ly {C:IV->List Nat->List (List IV)->Option (List IV)} (a:COK ab C):ay ab xJ ⟨.pure,true,[1],0,λl=>match l with | [[b]]=>mK C b | _=>none⟩:=
 mf (C:=C) (A:=EB) G31 a mO (f:=Tryz.f109) (by kernel_rfl) (by kernel_rfl) (by kernel_rfl) rfl λbs r h=>by
  split at h
  ·exact (Lp C ..).trans h
  ·cases h
theorem G32:aF ab T32:=ak (C:=C0) (A:=A1) G31 G31 cok_none mO (f:=Tryz.f177) (by kernel_rfl) λbs r h=>by
  split at h
  ·exact (FV ..).trans h
  ·cases h
theorem G33:aF ab T33:=ak (C:=C0) (A:=A1) G32 G32 cok_none mO (f:=Tryz.f111) (by kernel_rfl) λbs r h=>by
  split at h
  ·exact (Co ..).trans h
  ·cases h
theorem G34:aF ab T34:=ak (C:=C0) (A:=A1) G33 G33 cok_none mO (f:=a2) (by kernel_rfl) λbs r h=>by
  split at h
  ·exact (vp ..).trans h
  ·cases h
theorem G35:aF ab T35:=ak (C:=C0) (A:=A1) G34 G34 cok_none mO (f:=a5) (by kernel_rfl) λbs r h=>by
  split at h
  ·exact (vS ..).trans h
  ·cases h
theorem CV:COK ab (jC):=
 gR (eQ0 a2) (λcaps cv w ok hcap=>aX (C:=C0) (A:=A1) G33 cok_none mO (f:=a2) (by kernel_rfl) (by kernel_rfl) hcap (by kernel_rfl) λbs r h=>by
  split at h
  ·exact (vp ..).trans h
  ·cases h) <|
 gR (eQ0 a5) (λcaps cv w ok hcap=>aX (C:=C0) (A:=A1) G34 cok_none mO (f:=a5) (by kernel_rfl) (by kernel_rfl) hcap (by kernel_rfl) λbs r h=>by
  split at h
  ·exact (vS ..).trans h
  ·cases h) <|
 cok_none
theorem Pr:aF ab (A4):= .ext (eQ0 Tryz.f109) (Ly (CV)) <| G35
theorem G36:aF ab T36:=ak (C:=(jC)) (A:=A1) G35 Pr (CV) mO (f:=Tryz.f52) (by kernel_rfl) λbs r h=>by
  split at h
  ·exact (JD ..).trans h
  ·cases h
theorem vo {C:IV->List Nat->List (List IV)->Option (List IV)} (a:COK ab C):ay ab jn ⟨.pure,true,[1],0,λl=>match l with | [[b],[c]]=>cA C b c | _=>none⟩:=
 mf (C:=C) (A:=o8) G36 a mO (f:=Tryz.f191) (by kernel_rfl) (by kernel_rfl) (by kernel_rfl) rfl λbs r h=>by
  split at h
  ·exact (vj C ..).trans h
  ·cases h
theorem tC {C:IV->List Nat->List (List IV)->Option (List IV)} (a:COK ab C):aF ab (lz C):= .ext (eQ0 Tryz.f191) (vo a) <| G36
theorem sA {C:IV->List Nat->List (List IV)->Option (List IV)} (a:COK ab C):ay ab gn ⟨.pure,true,[1],0,λl=>match l with | [[b],[c]]=>cE C b c | _=>none⟩:=
 mf (C:=C) (A:=A1) (tC a) a mO (f:=Tryz.f125) (by kernel_rfl) (by kernel_rfl) (by kernel_rfl) rfl λbs r h=>by
  split at h
  ·exact (sj C ..).trans h
  ·cases h
theorem G37:aF ab T37:=ak (C:=C0) (A:=A1) G36 G36 cok_none mO (f:=Tryz.f71) (by kernel_rfl) λbs r h=>by
  split at h
  ·exact (Ph ..).trans h
  ·cases h
theorem G38:aF ab T38:=ak (C:=C0) (A:=IA) G37 G37 cok_none mO (f:=Tryz.f32) (by kernel_rfl) λbs r h=>by
  split at h
  ·exact (Oh ..).trans h
  ·cases h
theorem G39:aF ab T39:=ak (C:=C0) (A:=A1) G38 G38 cok_none mO (f:=a7) (by kernel_rfl) λbs r h=>by
  split at h
  ·exact (y8 ..).trans h
  ·cases h
theorem Il:COK ab (pF):=
 gR (eQ0 a7) (λcaps cv w ok hcap=>aX (C:=C0) (A:=A1) G38 cok_none mO (f:=a7) (by kernel_rfl) (by kernel_rfl) hcap (by kernel_rfl) λbs r h=>by
  split at h
  ·exact (y8 ..).trans h
  ·cases h) <|
 cok_none
theorem TP:aF ab (E0):= .ext (eQ0 Tryz.f125) (sA (Il)) <| G39
theorem G40:aF ab T40:=ak (C:=(pF)) (A:=Iw) G39 TP (Il) mO (f:=Tryz.f58) (by kernel_rfl) λbs r h=>by
  split at h
  ·exact (Om ..).trans h
  ·cases h
theorem G41:aF ab T41:=ak (C:=C0) (A:=IM) G40 G40 cok_none mO (f:=Tryz.f100) (by kernel_rfl) λbs r h=>by
  split at h
  ·exact (N9 ..).trans h
  ·cases h
theorem G42:aF ab T42:=ak (C:=C0) (A:=wF) G41 G41 cok_none mO (f:=b5) (by kernel_rfl) λbs r h=>by
  split at h
  ·exact (y4 ..).trans h
  ·cases h
theorem gH {C:IV->List Nat->List (List IV)->Option (List IV)} (a:COK ab C):ay ab dc ⟨.pure,true,[1],0,λl=>match l with | [[b],[c]]=>bc C b c | _=>none⟩:=
 mf (C:=C) (A:=oK) G42 a mO (f:=Tryz.f116) (by kernel_rfl) (by kernel_rfl) (by kernel_rfl) rfl λbs r h=>by
  split at h
  ·exact (vd C ..).trans h
  ·cases h
theorem G43:aF ab T43:=ak (C:=C0) (A:=A1) G42 G42 cok_none mO (f:=bm) (by kernel_rfl) λbs r h=>by
  split at h
  ·exact (wc ..).trans h
  ·cases h
theorem Dh:COK ab (mg):=
 gR (eQ0 bm) (λcaps cv w ok hcap=>aX (C:=C0) (A:=A1) G42 cok_none mO (f:=bm) (by kernel_rfl) (by kernel_rfl) hcap (by kernel_rfl) λbs r h=>by
  split at h
  ·exact (wc ..).trans h
  ·cases h) <|
 cok_none
theorem OL:aF ab (BD):= .ext iv (gH (Dh)) <| G43
theorem G44:aF ab T44:=ak (C:=(mg)) (A:=A1) G43 OL (Dh) mO (f:=Tryz.f114) (by kernel_rfl) λbs r h=>by
  split at h
  ·exact (Jk ..).trans h
  ·cases h
theorem G45:aF ab T45:=ak (C:=C0) (A:=xm) G44 G44 cok_none mO (f:=Tryz.f115) (by kernel_rfl) λbs r h=>by
  split at h
  ·exact (Ew ..).trans h
  ·cases h
theorem G46:aF ab T46:=ak (C:=C0) (A:=A1) G45 G45 cok_none mO (f:=a6) (by kernel_rfl) λbs r h=>by
  split at h
  ·exact (vH ..).trans h
  ·cases h
theorem CS:COK ab (lH):=
 gR (eQ0 a6) (λcaps cv w ok hcap=>aX (C:=C0) (A:=A1) G45 cok_none mO (f:=a6) (by kernel_rfl) (by kernel_rfl) hcap (by kernel_rfl) λbs r h=>by
  split at h
  ·exact (vH ..).trans h
  ·cases h) <|
 cok_none
theorem PM:aF ab (Bj):= .ext iv (gH (CS)) <| G46
theorem G47:aF ab T47:=ak (C:=(lH)) (A:=Dl) G46 PM (CS) mO (f:=Tryz.f54) (by kernel_rfl) λbs r h=>by
  split at h
  ·exact (J3 ..).trans h
  ·cases h
theorem G48:aF ab T48:=ak (C:=C0) (A:=LN) G47 G47 cok_none mO (f:=Tryz.f103) (by kernel_rfl) λbs r h=>by
  split at h
  ·exact (Rj ..).trans h
  ·cases h
theorem ug {C:IV->List Nat->List (List IV)->Option (List IV)} (a:COK ab C):aF ab (lu C):= .ext iv (gH a) <| G48
theorem sF {C:IV->List Nat->List (List IV)->Option (List IV)} (a:COK ab C):ay ab fT ⟨.pure,true,[1],0,λl=>match l with | [[b],[c]]=>cF C b c | _=>none⟩:=
 mf (C:=C) (A:=A1) (ug a) a mO (f:=Tryz.f174) (by kernel_rfl) (by kernel_rfl) (by kernel_rfl) rfl λbs r h=>by
  split at h
  ·exact (sd C ..).trans h
  ·cases h
theorem G49:aF ab T49:=ak (C:=C0) (A:=A1) G48 G48 cok_none mO (f:=Tryz.f176) (by kernel_rfl) λbs r h=>by
  split at h
  ·exact (N4 ..).trans h
  ·cases h
theorem G50:aF ab T50:=ak (C:=C0) (A:=se) G49 G49 cok_none mO (f:=bf) (by kernel_rfl) λbs r h=>by
  split at h
  ·exact (vL ..).trans h
  ·cases h
theorem Du:COK ab (lC):=
 gR (eQ0 bf) (λcaps cv w ok hcap=>aX (C:=C0) (A:=se) G49 cok_none mO (f:=bf) (by kernel_rfl) (by kernel_rfl) hcap (by kernel_rfl) λbs r h=>by
  split at h
  ·exact (vL ..).trans h
  ·cases h) <|
 cok_none
theorem Od:aF ab (BA):= .ext (eQ0 Tryz.f174) (sF (Du)) <| G50
theorem G51:aF ab T51:=ak (C:=(lC)) (A:=A1) G50 Od (Du) mO (f:=Tryz.f102) (by kernel_rfl) λbs r h=>by
  split at h
  ·exact (Kb ..).trans h
  ·cases h
theorem G52:aF ab T52:=ak (C:=C0) (A:=wu) G51 G51 cok_none mO (f:=al) (by kernel_rfl) λbs r h=>by
  split at h
  ·exact (y3 ..).trans h
  ·cases h
theorem G53:aF ab T53:=ak (C:=C0) (A:=CP) G52 G52 cok_none mO (f:=Tryz.f105) (by kernel_rfl) λbs r h=>by
  split at h
  ·exact (J7 ..).trans h
  ·cases h
theorem G54:aF ab T54:=ak (C:=C0) (A:=wJ) G53 G53 cok_none mO (f:=ao) (by kernel_rfl) λbs r h=>by
  split at h
  ·exact (zb ..).trans h
  ·cases h
theorem G55:aF ab T55:=ak (C:=C0) (A:=A1) G54 G54 cok_none mO (f:=b4) (by kernel_rfl) λbs r h=>by
  split at h
  ·exact (qq ..).trans h
  ·cases h
theorem G56:aF ab T56:=ak (C:=C0) (A:=Dk) G55 G55 cok_none mO (f:=Tryz.f107) (by kernel_rfl) λbs r h=>by
  split at h
  ·exact (JT ..).trans h
  ·cases h
theorem G57:aF ab T57:=ak (C:=C0) (A:=wx) G56 G56 cok_none mO (f:=aB) (by kernel_rfl) λbs r h=>by
  split at h
  ·exact (zg ..).trans h
  ·cases h
theorem G58:aF ab T58:=ak (C:=C0) (A:=xF) G57 G57 cok_none mO (f:=Tryz.f53) (by kernel_rfl) λbs r h=>by
  split at h
  ·exact (Ec ..).trans h
  ·cases h
theorem G59:aF ab T59:=ak (C:=C0) (A:=A1) G58 G58 cok_none mO (f:=a1) (by kernel_rfl) λbs r h=>by
  split at h
  ·exact (zj ..).trans h
  ·cases h
theorem V8:COK ab (dW):=
 gR (eQ0 b5) (λcaps cv w ok hcap=>aX (C:=C0) (A:=wF) G41 cok_none mO (f:=b5) (by kernel_rfl) (by kernel_rfl) hcap (by kernel_rfl) λbs r h=>by
  split at h
  ·exact (y4 ..).trans h
  ·cases h) <|
 gR (eQ0 al) (λcaps cv w ok hcap=>aX (C:=C0) (A:=wu) G51 cok_none mO (f:=al) (by kernel_rfl) (by kernel_rfl) hcap (by kernel_rfl) λbs r h=>by
  split at h
  ·exact (y3 ..).trans h
  ·cases h) <|
 gR (eQ0 ao) (λcaps cv w ok hcap=>aX (C:=C0) (A:=wJ) G53 cok_none mO (f:=ao) (by kernel_rfl) (by kernel_rfl) hcap (by kernel_rfl) λbs r h=>by
  split at h
  ·exact (zb ..).trans h
  ·cases h) <|
 gR (eQ0 aB) (λcaps cv w ok hcap=>aX (C:=C0) (A:=wx) G56 cok_none mO (f:=aB) (by kernel_rfl) (by kernel_rfl) hcap (by kernel_rfl) λbs r h=>by
  split at h
  ·exact (zg ..).trans h
  ·cases h) <|
 gR (eQ0 a1) (λcaps cv w ok hcap=>aX (C:=C0) (A:=A1) G58 cok_none mO (f:=a1) (by kernel_rfl) (by kernel_rfl) hcap (by kernel_rfl) λbs r h=>by
  split at h
  ·exact (zj ..).trans h
  ·cases h) <|
 cok_none
theorem G60:aF ab T60:=ak (C:=(dW)) (A:=Ia) G59 G59 (V8) mO (f:=Tryz.f51) (by kernel_rfl) λbs r h=>by
  split at h
  ·exact (OA ..).trans h
  ·cases h
theorem xH {C:IV->List Nat->List (List IV)->Option (List IV)} (a:COK ab C):ay ab um ⟨.pure,true,[1],0,λl=>match l with | [[b]]=>iA C b | _=>none⟩:=
 mf (C:=C) (A:=Mz) G60 a mO (f:=Tryz.f181) (by kernel_rfl) (by kernel_rfl) (by kernel_rfl) rfl λbs r h=>by
  split at h
  ·exact (Rr C ..).trans h
  ·cases h
theorem G61:aF ab T61:=ak (C:=C0) (A:=A1) G60 G60 cok_none mO (f:=ad) (by kernel_rfl) λbs r h=>by
  split at h
  ·exact (gW ..).trans h
  ·cases h
theorem G62:aF ab T62:=ak (C:=C0) (A:=A1) G61 G61 cok_none mO (f:=b0) (by kernel_rfl) λbs r h=>by
  split at h
  ·exact (nh ..).trans h
  ·cases h
theorem G63:aF ab T63:=ak (C:=C0) (A:=Fj) G62 G62 cok_none mO (f:=Tryz.f238) (by kernel_rfl) λbs r h=>by
  split at h
  ·exact (Nh ..).trans h
  ·cases h
theorem G64:aF ab T64:=ak (C:=C0) (A:=A1) G63 G63 cok_none mO (f:=Tryz.f128) (by kernel_rfl) λbs r h=>by
  split at h
  ·exact (SL ..).trans h
  ·cases h
theorem G65:aF ab T65:=ak (C:=C0) (A:=xh) G64 G64 cok_none mO (f:=Tryz.f237) (by kernel_rfl) λbs r h=>by
  split at h
  ·exact (DE ..).trans h
  ·cases h
theorem G66:aF ab T66:=ak (C:=C0) (A:=C7) G65 G65 cok_none mO (f:=Tryz.f186) (by kernel_rfl) λbs r h=>by
  split at h
  ·exact (Jz ..).trans h
  ·cases h
theorem G67:aF ab T67:=ak (C:=C0) (A:=CW) G66 G66 cok_none mO (f:=Tryz.f187) (by kernel_rfl) λbs r h=>by
  split at h
  ·exact (J8 ..).trans h
  ·cases h
theorem G68:aF ab T68:=ak (C:=C0) (A:=A1) G67 G67 cok_none mO (f:=Tryz.f286) (by kernel_rfl) λbs r h=>by
  split at h
  ·exact (rC ..).trans h
  ·cases h
theorem G69:aF ab T69:=ak (C:=C0) (A:=Fs) G68 G68 cok_none mO (f:=Tryz.f193) (by kernel_rfl) λbs r h=>by
  split at h
  ·exact (Mp ..).trans h
  ·cases h
theorem G70:aF ab T70:=ak (C:=C0) (A:=A1) G69 G69 cok_none mO (f:=Tryz.f242) (by kernel_rfl) λbs r h=>by
  split at h
  ·exact (Ji ..).trans h
  ·cases h
theorem G71:aF ab T71:=ak (C:=C0) (A:=Fk) G70 G70 cok_none mO (f:=Tryz.f194) (by kernel_rfl) λbs r h=>by
  split at h
  ·exact (Mk ..).trans h
  ·cases h
theorem G72:aF ab T72:=ak (C:=C0) (A:=A1) G71 G71 cok_none mO (f:=Tryz.f130) (by kernel_rfl) λbs r h=>by
  split at h
  ·exact (OW ..).trans h
  ·cases h
theorem G73:aF ab T73:=ak (C:=C0) (A:=sO) G72 G72 cok_none mO (f:=Tryz.f263) (by kernel_rfl) λbs r h=>by
  split at h
  ·exact (zy ..).trans h
  ·cases h
theorem gQ:ay ab im ⟨.inl ef,false,[],0,λ_=>none⟩:=
 aO (C:=C0) (A:=A0) G73 cok_none mO (f:=bM) (by kernel_rfl) (by kernel_rfl)
theorem ql:aF ab ij:= .ext pr gQ <| G73
theorem oJ:ay ab eO ⟨.inl iT,false,[],0,λ_=>none⟩:=
 aO (C:=C0) (A:=A0) ql cok_none mO (f:=bR) (by kernel_rfl) (by kernel_rfl)
theorem JO:aF ab (xv):= .ext pr gQ <| .ext xd oJ <| G73
theorem G74:aF ab T74:=ak (C:=C0) (A:=yU) G73 JO cok_none mO (f:=Tryz.f255) (by kernel_rfl) λbs r h=>by
  split at h
  ·exact (FP ..).trans h
  ·cases h
theorem G75:aF ab T75:=ak (C:=C0) (A:=AI) G74 G74 cok_none mO (f:=Tryz.f239) (by kernel_rfl) λbs r h=>by
  split at h
  ·exact (Gv ..).trans h
  ·cases h
theorem G76:aF ab T76:=ak (C:=C0) (A:=A1) G75 G75 cok_none mO (f:=Tryz.f184) (by kernel_rfl) λbs r h=>by
  split at h
  ·exact (MQ ..).trans h
  ·cases h
theorem G77:aF ab T77:=ak (C:=C0) (A:=A1) G76 G76 cok_none mO (f:=Tryz.f252) (by kernel_rfl) λbs r h=>by
  split at h
  ·exact (MJ ..).trans h
  ·cases h
theorem G78:aF ab T78:=ak (C:=C0) (A:=A1) G77 G77 cok_none mO (f:=bC) (by kernel_rfl) λbs r h=>by
  split at h
  ·exact (tL ..).trans h
  ·cases h
theorem uC:COK ab (cX):=
 gR (eQ0 bC) (λcaps cv w ok hcap=>aX (C:=C0) (A:=A1) G77 cok_none mO (f:=bC) (by kernel_rfl) (by kernel_rfl) hcap (by kernel_rfl) λbs r h=>by
  split at h
  ·exact (tL ..).trans h
  ·cases h) <|
 cok_none
theorem iU:ay ab iB ⟨.inl eN,false,[],0,λ_=>none⟩:=
 aO (C:=(cX)) (A:=A0) G78 (uC) mO (f:=bA) (by kernel_rfl) (by kernel_rfl)
theorem qQ:aF ab iJ:= .ext pN iU <| G78
theorem o9:ay ab ff ⟨.inl jj,false,[],0,λ_=>none⟩:=
 aO (C:=(cX)) (A:=A0) qQ (uC) mO (f:=bO) (by kernel_rfl) (by kernel_rfl)
theorem MD:aF ab (za):= .ext pN iU <| .ext xf o9 <| G78
theorem G79:aF ab T79:=ak (C:=(cX)) (A:=BK) G78 MD (uC) mO (f:=Tryz.f240) (by kernel_rfl) λbs r h=>by
  split at h
  ·exact (HA ..).trans h
  ·cases h
theorem G80:aF ab T80:=ak (C:=C0) (A:=xt) G79 G79 cok_none mO (f:=Tryz.f188) (by kernel_rfl) λbs r h=>by
  split at h
  ·exact (D4 ..).trans h
  ·cases h
theorem G81:aF ab T81:=ak (C:=C0) (A:=A1) G80 G80 cok_none mO (f:=Tryz.f287) (by kernel_rfl) λbs r h=>by
  split at h
  ·exact (rJ ..).trans h
  ·cases h
theorem ad5:aF ab T81:=G81
theorem zi:COK ab eJ:=
 p9 (t:=266) (g:=284) (one:=false) (λu w=>by kernel_rfl) (λy u w ok a=>aX (C:=C0) (A:=A1) G60 cok_none mO (f:=ad) (by kernel_rfl) (by kernel_rfl) (uL a) (by kernel_rfl) λbs r h=>by
  split at h
  ·rename_i heq;cases heq;exact (gW ..).trans h
  ·cases h) <|
 p9 (t:=322) (g:=285) (one:=false) (λu w=>by kernel_rfl) (λy u w ok a=>aX (C:=C0) (A:=A1) G61 cok_none mO (f:=b0) (by kernel_rfl) (by kernel_rfl) (uL a) (by kernel_rfl) λbs r h=>by
  split at h
  ·rename_i heq;cases heq;exact (nh ..).trans h
  ·cases h) <|
 p9 (t:=323) (g:=286) (one:=false) (λu w=>by kernel_rfl) (λy u w ok a=>aX (C:=C0) (A:=A1) G67 cok_none mO (f:=Tryz.f286) (by kernel_rfl) (by kernel_rfl) (uL a) (by kernel_rfl) λbs r h=>by
  split at h
  ·rename_i heq;cases heq;exact (rC ..).trans h
  ·cases h) <|
 p9 (t:=324) (g:=287) (one:=false) (λu w=>by kernel_rfl) (λy u w ok a=>aX (C:=C0) (A:=A1) G80 cok_none mO (f:=Tryz.f287) (by kernel_rfl) (by kernel_rfl) (uL a) (by kernel_rfl) λbs r h=>by
  split at h
  ·rename_i heq;cases heq;exact (rJ ..).trans h
  ·cases h) <|
 cok_none
theorem Am:COK ab gM:=
 p9 (t:=326) (g:=288) (one:=true) (λu w=>by kernel_rfl) (λy u w ok c=>by
  have h:=QY (A:=A0) ad5 zi mO (g:=288) (f:=Tryz.f288) (by kernel_rfl) (by kernel_rfl) (Vh eJ) y u w ok c
  refine λw ok bs args r h1 h2 b a=>h w ok bs args r h1 h2 b ?_
  revert a;cases bs<;>exact λa=>a) <|
 zi
theorem MH:aF ab (yW):= .ext zR (xH (Am)) <| G81
theorem G82:aF ab T82:=ak (C:=(gM)) (A:=Av) G81 MH (Am) mO (f:=Tryz.f182) (by kernel_rfl) λbs r h=>by
  split at h
  ·exact (GZ ..).trans h
  ·cases h
theorem xk:COK ab jx:=
 p9 (t:=266) (g:=284) (one:=false) (λu w=>by kernel_rfl) (λy u w ok a=>aX (C:=C0) (A:=A1) G60 cok_none mO (f:=ad) (by kernel_rfl) (by kernel_rfl) (uL a) (by kernel_rfl) λbs r h=>by
  split at h
  ·rename_i heq;cases heq;exact (gW ..).trans h
  ·cases h) <|
 p9 (t:=322) (g:=285) (one:=false) (λu w=>by kernel_rfl) (λy u w ok a=>aX (C:=C0) (A:=A1) G61 cok_none mO (f:=b0) (by kernel_rfl) (by kernel_rfl) (uL a) (by kernel_rfl) λbs r h=>by
  split at h
  ·rename_i heq;cases heq;exact (nh ..).trans h
  ·cases h) <|
 cok_none
theorem ze:COK ab fO:=
 p9 (t:=326) (g:=288) (one:=true) (λu w=>by kernel_rfl) (λy u w ok c=>by
  have h:=QY (A:=A0) ad5 xk mO (g:=288) (f:=Tryz.f288) (by kernel_rfl) (by kernel_rfl) (Vh jx) y u w ok c
  refine λw ok bs args r h1 h2 b a=>h w ok bs args r h1 h2 b ?_
  revert a;cases bs<;>exact λa=>a) <|
 xk
theorem JL:aF ab (xb):= .ext zR (xH (ze)) <| G82
theorem G83:aF ab T83:=ak (C:=(fO)) (A:=yT) G82 JL (ze) mO (f:=Tryz.f183) (by kernel_rfl) λbs r h=>by
  split at h
  ·exact (Gm ..).trans h
  ·cases h
theorem KL:COK ab Ah:=
 p9 (t:=266) (g:=284) (one:=false) (λu w=>by kernel_rfl) (λy u w ok a=>aX (C:=C0) (A:=A1) G60 cok_none mO (f:=ad) (by kernel_rfl) (by kernel_rfl) (uL a) (by kernel_rfl) λbs r h=>by
  split at h
  ·rename_i heq;cases heq;exact (gW ..).trans h
  ·cases h) <|
 cok_none
theorem C8:COK ab jk:=
 KL
theorem Pm:aF ab (BF):= .ext zR (xH (C8)) <| G83
theorem G84:aF ab T84:=ak (C:=(jk)) (A:=Dp) G83 Pm (C8) mO (f:=Tryz.f119) (by kernel_rfl) λbs r h=>by
  split at h
  ·exact (Jf ..).trans h
  ·cases h
theorem G85:aF ab T85:=ak (C:=C0) (A:=AV) G84 G84 cok_none mO (f:=Tryz.f120) (by kernel_rfl) λbs r h=>by
  split at h
  ·exact (GL ..).trans h
  ·cases h
theorem G86:aF ab T86:=ak (C:=C0) (A:=qt) G85 G85 cok_none mO (f:=Tryz.f121) (by kernel_rfl) λbs r h=>by
  split at h
  ·exact (xj ..).trans h
  ·cases h
theorem G87:aF ab T87:=ak (C:=C0) (A:=A0) G86 G86 cok_none mO (f:=Tryz.f55) (by kernel_rfl) λbs r h=>by
  split at h
  ·exact (Gw ..).trans h
  ·cases h
theorem G88:aF ab T88:=ak (C:=C0) (A:=NH) G87 G87 cok_none mO (f:=Tryz.f257) (by kernel_rfl) λbs r h=>by
  split at h
  ·exact (Tj ..).trans h
  ·cases h
theorem G89:aF ab T89:=ak (C:=C0) (A:=A1) G88 G88 cok_none mO (f:=Tryz.f241) (by kernel_rfl) λbs r h=>by
  split at h
  ·exact (VS ..).trans h
  ·cases h
theorem G90:aF ab T90:=ak (C:=C0) (A:=FH) G89 G89 cok_none mO (f:=Tryz.f129) (by kernel_rfl) λbs r h=>by
  split at h
  ·exact (Nj ..).trans h
  ·cases h
theorem G91:aF ab T91:=ak (C:=C0) (A:=A1) G90 G90 cok_none mO (f:=Tryz.f190) (by kernel_rfl) λbs r h=>by
  split at h
  ·exact (Hn ..).trans h
  ·cases h
theorem G92:aF ab T92:=ak (C:=C0) (A:=H3) G91 G91 cok_none mO (f:=Tryz.f123) (by kernel_rfl) λbs r h=>by
  split at h
  ·exact (Oj ..).trans h
  ·cases h
theorem G93:aF ab T93:=ak (C:=C0) (A:=F4) G92 G92 cok_none mO (f:=Tryz.f56) (by kernel_rfl) λbs r h=>by
  split at h
  ·exact (Mw ..).trans h
  ·cases h
theorem G94:aF ab T94:=ak (C:=C0) (A:=A1) G93 G93 cok_none mO (f:=Tryz.f26) (by kernel_rfl) λbs r h=>by
  split at h
  ·exact (LR ..).trans h
  ·cases h
theorem G95:aF ab T95:=ak (C:=C0) (A:=oP) G94 G94 cok_none mO (f:=Tryz.f243) (by kernel_rfl) λbs r h=>by
  split at h
  ·exact (vg ..).trans h
  ·cases h
theorem G96:aF ab T96:=ak (C:=C0) (A:=A1) G95 G95 cok_none mO (f:=Tryz.f195) (by kernel_rfl) λbs r h=>by
  split at h
  ·exact (vn ..).trans h
  ·cases h
theorem G97:aF ab T97:=ak (C:=C0) (A:=A1) G96 G96 cok_none mO (f:=Tryz.f131) (by kernel_rfl) λbs r h=>by
  split at h
  ·exact (zD ..).trans h
  ·cases h
theorem G98:aF ab T98:=ak (C:=C0) (A:=A1) G97 G97 cok_none mO (f:=Tryz.f63) (by kernel_rfl) λbs r h=>by
  split at h
  ·exact (EX ..).trans h
  ·cases h
theorem G99:aF ab T99:= .ext (eQ0 Tryz.f64) (sig_mko (C:=C0) (A:=A0) G98 cok_none mO (f:=Tryz.f64) (by kernel_rfl) (by kernel_rfl) (λbs r h=>by
  split at h
  ·exact (Tc ..).trans h
  ·cases h)) G98
theorem dJ:ay ab iX ⟨.inl cQ,false,[],0,λ_=>none⟩:=
 aO (C:=C0) (A:=er) G99 cok_none mO (f:=Tryz.f133) (by kernel_rfl) (by kernel_rfl)
theorem nj:aF ab eu:= .ext rU dJ <| G99
theorem lB:ay ab gu ⟨.inl fo,false,[],0,λ_=>none⟩:=
 yN (C:=C0) (A:=fi) nj cok_none mO oU (f:=a8) (by kernel_rfl) (by kernel_rfl)
theorem FA:aF ab (uf):= .ext rU dJ <| .ext sJ lB <| G99
theorem ag3:aF ab afn:= .ext (eQ0 Tryz.f65) (oh (C:=C0) (A:=A0) FA cok_none mO (f:=Tryz.f65) (by kernel_rfl) (by kernel_rfl) (by kernel_rfl) (λvs bs r hl h=>by
  split at h
  ·rename_i heq;cases heq;exact (Ch ..).trans h
  ·cases h) (λbs r h=>by
  split at h
  ·rename_i heq;cases heq
  ·cases h)) G99
theorem Au:ay ab pW ⟨.pure,true,[1],0,λl=>match l with | [[a]]=>lp a | _=>none⟩:=
 mf (C:=C0) (A:=A1) ag3 cok_none mO (f:=Tryz.f66) (by kernel_rfl) (by kernel_rfl) (by kernel_rfl) rfl λbs r h=>by
  split at h
  ·exact (CN ..).trans h
  ·cases h
theorem agn:aF ab afj:= .ext (eQ0 Tryz.f66) (FR Au) ag3
theorem zn:ay ab oC ⟨.pure,true,[1],0,λl=>match l with | [[a]]=>jX a | _=>none⟩:=
 mf (C:=C0) (A:=A1) agn cok_none mO (f:=Tryz.f142) (by kernel_rfl) (by kernel_rfl) (by kernel_rfl) rfl λbs r h=>by
  split at h
  ·exact (Aa ..).trans h
  ·cases h
theorem af1:aF ab afh:= .ext (eQ0 Tryz.f142) (FR zn) agn
theorem afM:aF ab aed:=ak (C:=C0) (A:=Dj) af1 af1 cok_none mO (f:=Tryz.f158) (by kernel_rfl) λbs r h=>by
  split at h
  ·exact (Jg ..).trans h
  ·cases h
theorem agJ:aF ab afm:=ak (C:=C0) (A:=Dm) afM afM cok_none mO (f:=Tryz.f92) (by kernel_rfl) λbs r h=>by
  split at h
  ·exact (JQ ..).trans h
  ·cases h
theorem G105:aF ab T105:= .ext (eQ0 Tryz.f68) (oh (C:=C0) (A:=uz) agJ cok_none mO (f:=Tryz.f68) (by kernel_rfl) (by kernel_rfl) (by kernel_rfl) (λvs bs r hl h=>by
  split at h
  ·rename_i heq;cases heq;exact (Bq ..).trans h
  ·cases h) (λbs r h=>by
  split at h
  ·rename_i heq;cases heq
  ·cases h)) agJ
theorem agb:aF ab afe:= .ext (eQ0 Tryz.f211) (sig_mko (C:=C0) (A:=A0) G105 cok_none mO (f:=Tryz.f211) (by kernel_rfl) (by kernel_rfl) (λbs r h=>by
  split at h
  ·exact (Oo ..).trans h
  ·cases h)) G105
theorem agQ:aF ab aeW:=ak (C:=C0) (A:=BG) agb agb cok_none mO (f:=Tryz.f218) (by kernel_rfl) λbs r h=>by
  split at h
  ·exact (GC ..).trans h
  ·cases h
theorem aha:aF ab afz:=ak (C:=C0) (A:=IZ) agQ agQ cok_none mO (f:=Tryz.f222) (by kernel_rfl) λbs r h=>by
  split at h
  ·exact (PL ..).trans h
  ·cases h
theorem agi:aF ab aeS:=ak (C:=C0) (A:=A1) aha aha cok_none mO (f:=Tryz.f173) (by kernel_rfl) λbs r h=>by
  split at h
  ·exact (M0 ..).trans h
  ·cases h
theorem afL:aF ab aeE:=ak (C:=C0) (A:=A1) agi agi cok_none mO (f:=Tryz.f164) (by kernel_rfl) λbs r h=>by
  split at h
  ·exact (O8 ..).trans h
  ·cases h
theorem agG:aF ab afw:=ak (C:=C0) (A:=A1) afL afL cok_none mO (f:=Tryz.f265) (by kernel_rfl) λbs r h=>by
  split at h
  ·exact (MM ..).trans h
  ·cases h
theorem af9:aF ab aeT:=ak (C:=C0) (A:=A1) agG agG cok_none mO (f:=Tryz.f264) (by kernel_rfl) λbs r h=>by
  split at h
  ·exact (KY ..).trans h
  ·cases h
theorem ag6:aF ab aeh:=ak (C:=C0) (A:=A1) af9 af9 cok_none mO (f:=Tryz.f259) (by kernel_rfl) λbs r h=>by
  split at h
  ·exact (SK ..).trans h
  ·cases h
theorem ac5:aF ab aak:=ak (C:=C0) (A:=rP) ag6 ag6 cok_none mO (f:=Tryz.f261) (by kernel_rfl) λbs r h=>by
  split at h
  ·exact (yl ..).trans h
  ·cases h
theorem iP:ay ab im ⟨.inl eV,false,[],0,λ_=>none⟩:=
 aO (C:=C0) (A:=A0) ac5 cok_none mO (f:=bM) (by kernel_rfl) (by kernel_rfl)
theorem qY:aF ab iL:= .ext pr iP <| ac5
theorem pd:ay ab eO ⟨.inl js,false,[],0,λ_=>none⟩:=
 aO (C:=C0) (A:=A0) qY cok_none mO (f:=bR) (by kernel_rfl) (by kernel_rfl)
theorem LQ:aF ab (yZ):= .ext pr iP <| .ext xd pd <| ac5
theorem ahg:aF ab aeN:=ak (C:=C0) (A:=AX) ac5 LQ cok_none mO (f:=Tryz.f249) (by kernel_rfl) λbs r h=>by
  split at h
  ·exact (GV ..).trans h
  ·cases h
theorem agB:aF ab aeb:=ak (C:=C0) (A:=A8) ahg ahg cok_none mO (f:=Tryz.f230) (by kernel_rfl) λbs r h=>by
  split at h
  ·exact (GB ..).trans h
  ·cases h
theorem agA:aF ab aet:=ak (C:=C0) (A:=A0) agB agB cok_none mO (f:=Tryz.f229) (by kernel_rfl) λbs r h=>by
  split at h
  ·exact (JF ..).trans h
  ·cases h
theorem ag5:aF ab aeQ:=ak (C:=C0) (A:=C1) agA agA cok_none mO (f:=Tryz.f232) (by kernel_rfl) λbs r h=>by
  split at h
  ·exact (Jh ..).trans h
  ·cases h
theorem agI:aF ab ae6:=ak (C:=C0) (A:=Fh) ag5 ag5 cok_none mO (f:=Tryz.f141) (by kernel_rfl) λbs r h=>by
  split at h
  ·exact (M9 ..).trans h
  ·cases h
theorem agC:aF ab ae2:=ak (C:=C0) (A:=EH) agI agI cok_none mO (f:=Tryz.f199) (by kernel_rfl) λbs r h=>by
  split at h
  ·exact (NA ..).trans h
  ·cases h
theorem aeg:aF ab aee:=ak (C:=C0) (A:=FF) agC agC cok_none mO (f:=Tryz.f140) (by kernel_rfl) λbs r h=>by
  split at h
  ·exact (MK ..).trans h
  ·cases h
theorem acN:aF ab abW:=ak (C:=C0) (A:=A1) aeg aeg cok_none mO (f:=bB) (by kernel_rfl) λbs r h=>by
  split at h
  ·exact (uu ..).trans h
  ·cases h
theorem uA:COK ab (cW):=
 gR (eQ0 bB) (λcaps cv w ok hcap=>aX (C:=C0) (A:=A1) aeg cok_none mO (f:=bB) (by kernel_rfl) (by kernel_rfl) hcap (by kernel_rfl) λbs r h=>by
  split at h
  ·exact (uu ..).trans h
  ·cases h) <|
 cok_none
theorem iG:ay ab iB ⟨.inl eX,false,[],0,λ_=>none⟩:=
 aO (C:=(cW)) (A:=A0) acN (uA) mO (f:=bA) (by kernel_rfl) (by kernel_rfl)
theorem qT:aF ab iV:= .ext pN iG <| acN
theorem pb:ay ab ff ⟨.inl ju,false,[],0,λ_=>none⟩:=
 aO (C:=(cW)) (A:=A0) qT (uA) mO (f:=bO) (by kernel_rfl) (by kernel_rfl)
theorem K9:aF ab (zl):= .ext pN iG <| .ext xf pb <| acN
theorem afR:aF ab afc:=ak (C:=(cW)) (A:=BQ) acN K9 (uA) mO (f:=Tryz.f231) (by kernel_rfl) λbs r h=>by
  split at h
  ·exact (Ht ..).trans h
  ·cases h
theorem agj:aF ab aez:=ak (C:=C0) (A:=A0) afR afR cok_none mO (f:=Tryz.f171) (by kernel_rfl) λbs r h=>by
  split at h
  ·exact (Jy ..).trans h
  ·cases h
theorem adm:aF ab aad:=ak (C:=C0) (A:=A1) agj agj cok_none mO (f:=Tryz.f233) (by kernel_rfl) λbs r h=>by
  split at h
  ·exact (Pz ..).trans h
  ·cases h
theorem dM:ay ab jf ⟨.inl cN,false,[],0,λ_=>none⟩:=
 aO (C:=C0) (A:=ep) adm cok_none mO (f:=Tryz.f228) (by kernel_rfl) (by kernel_rfl)
theorem qm:aF ab gU:= .ext rS dM <| adm
theorem oG:ay ab nG ⟨.inl iO,false,[],0,λ_=>none⟩:=
 yN (C:=C0) (A:=A0) qm cok_none mO tG (f:=bd) (by kernel_rfl) (by kernel_rfl)
theorem EM:aF ab (uU):= .ext rS dM <| .ext AP oG <| adm
theorem af4:aF ab aeL:=ak (C:=C0) (A:=A0) adm EM cok_none mO (f:=Tryz.f172) (by kernel_rfl) λbs r h=>by
  split at h
  ·exact (CB ..).trans h
  ·cases h
theorem agL:aF ab afd:=ak (C:=C0) (A:=H0) af4 af4 cok_none mO (f:=Tryz.f137) (by kernel_rfl) λbs r h=>by
  split at h
  ·exact (NQ ..).trans h
  ·cases h
theorem ag1:aF ab afs:=ak (C:=C0) (A:=L9) agL agL cok_none mO (f:=Tryz.f247) (by kernel_rfl) λbs r h=>by
  split at h
  ·exact (R4 ..).trans h
  ·cases h
theorem agY:aF ab aeq:=ak (C:=C0) (A:=qf) ag1 ag1 cok_none mO (f:=Tryz.f248) (by kernel_rfl) λbs r h=>by
  split at h
  ·exact (wO ..).trans h
  ·cases h
theorem afU:aF ab afF:=ak (C:=C0) (A:=Dx) agY agY cok_none mO (f:=Tryz.f225) (by kernel_rfl) λbs r h=>by
  split at h
  ·exact (Kg ..).trans h
  ·cases h
theorem afV:aF ab aea:=ak (C:=C0) (A:=Dq) afU afU cok_none mO (f:=Tryz.f168) (by kernel_rfl) λbs r h=>by
  split at h
  ·exact (JZ ..).trans h
  ·cases h
theorem af3:aF ab afC:=ak (C:=C0) (A:=M4) afV afV cok_none mO (f:=Tryz.f226) (by kernel_rfl) λbs r h=>by
  split at h
  ·exact (RO ..).trans h
  ·cases h
theorem agK:aF ab aeK:=ak (C:=C0) (A:=Io) af3 af3 cok_none mO (f:=Tryz.f227) (by kernel_rfl) λbs r h=>by
  split at h
  ·exact (Oe ..).trans h
  ·cases h
theorem af6:aF ab aeo:=ak (C:=C0) (A:=CQ) agK agK cok_none mO (f:=Tryz.f170) (by kernel_rfl) λbs r h=>by
  split at h
  ·exact (J0 ..).trans h
  ·cases h
theorem agv:aF ab ady:=ak (C:=C0) (A:=A1) af6 af6 cok_none mO (f:=Tryz.f246) (by kernel_rfl) λbs r h=>by
  split at h
  ·exact (Sl ..).trans h
  ·cases h
theorem agr:aF ab aeU:= .ext (eQ0 Tryz.f223) (oh (C:=C0) (A:=A0) agv cok_none mO (f:=Tryz.f223) (by kernel_rfl) (by kernel_rfl) (by kernel_rfl) (λvs bs r hl h=>by
  split at h
  ·rename_i heq;cases heq;exact (Cq ..).trans h
  ·rename_i heq;cases heq;simp at hl
  ·cases h) (λbs r h=>by
  split at h
  ·rename_i heq;cases heq
  ·rename_i heq;cases heq;exact (xq ..).trans (BH h)
  ·cases h)) agv
theorem ag7:aF ab ad9:=ak (C:=C0) (A:=Fq) agr agr cok_none mO (f:=Tryz.f224) (by kernel_rfl) λbs r h=>by
  split at h
  ·exact (LZ ..).trans h
  ·cases h
theorem Wc:aF ab Tu:=ak (C:=C0) (A:=Bo) ag7 ag7 cok_none mO (f:=Tryz.f166) (by kernel_rfl) λbs r h=>by
  split at h
  ·exact (Hj ..).trans h
  ·cases h
theorem aZ:ay ab cT ⟨.inl aV,false,[],0,λ_=>none⟩:=
 aO (C:=C0) (A:=A0) Wc cok_none mO (f:=Tryz.f212) (by kernel_rfl) (by kernel_rfl)
theorem qj:aF ab gX:= .ext dR aZ <| Wc
theorem bu:ay ab cI ⟨.inl bp,false,[],0,λ_=>none⟩:=
 aO (C:=C0) (A:=A0) qj cok_none mO (f:=bx) (by kernel_rfl) (by kernel_rfl)
theorem pa:aF ab fZ:= .ext dR aZ <| .ext dN bu <| Wc
theorem bQ:ay ab eE ⟨.inl bF,false,[],0,λ_=>none⟩:=
 aO (C:=C0) (A:=A0) pa cok_none mO (f:=Tryz.f215) (by kernel_rfl) (by kernel_rfl)
theorem oz:aF ab fE:= .ext dR aZ <| .ext dN bu <| .ext jV bQ <| Wc
theorem cM:ay ab gr ⟨.inl b8,false,[],0,λ_=>none⟩:=
 aO (C:=C0) (A:=A0) oz cok_none mO (f:=Tryz.f214) (by kernel_rfl) (by kernel_rfl)
theorem pc:aF ab fY:= .ext dR aZ <| .ext dN bu <| .ext jV bQ <| .ext ni cM <| Wc
theorem fq:ay ab lq ⟨.inl dg,false,[],0,λ_=>none⟩:=
 aO (C:=C0) (A:=A0) pc cok_none mO (f:=Tryz.f217) (by kernel_rfl) (by kernel_rfl)
theorem oa:aF ab fh:= .ext dR aZ <| .ext dN bu <| .ext jV bQ <| .ext ni cM <| .ext tW fq <| Wc
theorem lV:ay ab nc ⟨.inl fB,false,[],0,λ_=>none⟩:=
 aO (C:=C0) (A:=A0) oa cok_none mO (f:=Tryz.f216) (by kernel_rfl) (by kernel_rfl)
theorem J4:aF ab (xu):= .ext dR aZ <| .ext dN bu <| .ext jV bQ <| .ext ni cM <| .ext tW fq <| .ext An lV <| Wc
theorem ab0:aF ab Zl:=ak (C:=C0) (A:=y7) Wc J4 cok_none mO (f:=Tryz.f159) (by kernel_rfl) λbs r h=>by
  split at h
  ·exact (Fg ..).trans h
  ·cases h
theorem cC:ay ab fS ⟨.inl bV,false,[],0,λ_=>none⟩:=
 aO (C:=C0) (A:=A0) ab0 cok_none mO (f:=Tryz.f219) (by kernel_rfl) (by kernel_rfl)
theorem pt:aF ab gC:= .ext nq cC <| ab0
theorem fG:ay ab cI ⟨.inl dv,false,[],0,λ_=>none⟩:=
 aO (C:=C0) (A:=A0) pt cok_none mO (f:=bx) (by kernel_rfl) (by kernel_rfl)
theorem qi:aF ab gF:= .ext nq cC <| .ext dN fG <| ab0
theorem nH:ay ab sb ⟨.inl ig,false,[],0,λ_=>none⟩:=
 aO (C:=C0) (A:=A0) qi cok_none mO (f:=Tryz.f220) (by kernel_rfl) (by kernel_rfl)
theorem HB:aF ab (vw):= .ext nq cC <| .ext dN fG <| .ext (eQ0 Tryz.f220) nH <| ab0
theorem afN:aF ab aew:=ak (C:=C0) (A:=xe) ab0 HB cok_none mO (f:=Tryz.f160) (by kernel_rfl) λbs r h=>by
  split at h
  ·exact (Eh ..).trans h
  ·cases h
theorem ahc:aF ab aeM:=ak (C:=C0) (A:=Da) afN afN cok_none mO (f:=Tryz.f94) (by kernel_rfl) λbs r h=>by
  split at h
  ·exact (JR ..).trans h
  ·cases h
theorem af7:aF ab aes:=ak (C:=C0) (A:=A1) ahc ahc cok_none mO (f:=Tryz.f163) (by kernel_rfl) λbs r h=>by
  split at h
  ·exact (JW ..).trans h
  ·cases h
theorem ahe:aF ab aeJ:=ak (C:=C0) (A:=A0) af7 af7 cok_none mO (f:=Tryz.f165) (by kernel_rfl) λbs r h=>by
  split at h
  ·exact (Ki ..).trans h
  ·cases h
theorem agM:aF ab afy:=ak (C:=C0) (A:=A0) ahe ahe cok_none mO (f:=Tryz.f167) (by kernel_rfl) λbs r h=>by
  split at h
  ·exact (Jp ..).trans h
  ·cases h
theorem adD:aF ab abT:=ak (C:=C0) (A:=A0) agM agM cok_none mO (f:=Tryz.f169) (by kernel_rfl) λbs r h=>by
  split at h
  ·exact (Jr ..).trans h
  ·cases h
theorem gh:ay ab mQ ⟨.inl dG,false,[],0,λ_=>none⟩:=
 aO (C:=C0) (A:=iQ) adD cok_none mO (f:=Tryz.f162) (by kernel_rfl) (by kernel_rfl)
theorem sy:aF ab jH:= .ext vF gh <| adD
theorem qk:ay ab nG ⟨.inl ko,false,[],0,λ_=>none⟩:=
 yN (C:=C0) (A:=A0) sy cok_none mO tG (f:=bd) (by kernel_rfl) (by kernel_rfl)
theorem No:aF ab (zh):= .ext vF gh <| .ext AP qk <| adD
theorem TX:aF ab Sr:=ak (C:=C0) (A:=BL) adD No cok_none mO (f:=Tryz.f96) (by kernel_rfl) λbs r h=>by
  split at h
  ·exact (HJ ..).trans h
  ·cases h
theorem bo:ay ab dA ⟨.inl bk,false,[],0,λ_=>none⟩:=
 aO (C:=C0) (A:=kE) TX cok_none mO (f:=Tryz.f90) (by kernel_rfl) (by kernel_rfl)
theorem sq:aF ab jO:= .ext fN bo <| TX
theorem bP:ay ab eL ⟨.inl bH,false,[],0,λ_=>none⟩:=
 aO (C:=C0) (A:=kJ) sq cok_none mO (f:=Tryz.f91) (by kernel_rfl) (by kernel_rfl)
theorem sf:aF ab jQ:= .ext fN bo <| .ext jt bP <| TX
theorem cB:ay ab gJ ⟨.inl cq,false,[],0,λ_=>none⟩:=
 aO (C:=C0) (A:=A0) sf cok_none mO (f:=Tryz.f93) (by kernel_rfl) (by kernel_rfl)
theorem su:aF ab jL:= .ext fN bo <| .ext jt bP <| .ext mV cB <| TX
theorem dD:ay ab kf ⟨.inl cY,false,[],0,λ_=>none⟩:=
 aO (C:=C0) (A:=A0) su cok_none mO (f:=Tryz.f95) (by kernel_rfl) (by kernel_rfl)
theorem r7:aF ab jN:= .ext fN bo <| .ext jt bP <| .ext mV cB <| .ext qG dD <| TX
theorem iK:ay ab om ⟨.inl fe,false,[],0,λ_=>none⟩:=
 aO (C:=C0) (A:=A0) r7 cok_none mO (f:=Tryz.f97) (by kernel_rfl) (by kernel_rfl)
theorem uP:aF ab lx:= .ext fN bo <| .ext jt bP <| .ext mV cB <| .ext qG dD <| .ext w9 iK <| TX
theorem rR:ay ab wL ⟨.inl lW,false,[],0,λ_=>none⟩:=
 aO (C:=C0) (A:=A0) uP cok_none mO (f:=Tryz.f49) (by kernel_rfl) (by kernel_rfl)
theorem Sm:aF ab (Dt):= .ext fN bo <| .ext jt bP <| .ext mV cB <| .ext qG dD <| .ext w9 iK <| .ext (eQ0 Tryz.f49) rR <| TX
theorem afZ:aF ab adz:=ak (C:=C0) (A:=FI) TX Sm cok_none mO (f:=Tryz.f22) (by kernel_rfl) λbs r h=>by
  split at h
  ·exact (Lm ..).trans h
  ·cases h
theorem ag2:aF ab afb:= .ext (eQ0 Tryz.f45) (oh (C:=C0) (A:=A0) afZ cok_none mO (f:=Tryz.f45) (by kernel_rfl) (by kernel_rfl) (by kernel_rfl) (λvs bs r hl h=>by
  split at h
  ·rename_i heq;cases heq;exact (zM ..).trans h
  ·rename_i heq;cases heq;simp at hl
  ·cases h) (λbs r h=>by
  split at h
  ·rename_i heq;cases heq
  ·rename_i heq;cases heq;exact (vh ..).trans (BH h)
  ·cases h)) afZ
theorem agP:aF ab aeY:=ak (C:=C0) (A:=C2) ag2 ag2 cok_none mO (f:=Tryz.f88) (by kernel_rfl) λbs r h=>by
  split at h
  ·exact (Jm ..).trans h
  ·cases h
theorem agN:aF ab aeI:=ak (C:=C0) (A:=A0) agP agP cok_none mO (f:=Tryz.f48) (by kernel_rfl) λbs r h=>by
  split at h
  ·exact (TN ..).trans h
  ·cases h
theorem agT:aF ab ae1:=ak (C:=C0) (A:=Np) agN agN cok_none mO (f:=Tryz.f16) (by kernel_rfl) λbs r h=>by
  split at h
  ·exact (SV ..).trans h
  ·cases h
theorem ag0:aF ab adk:=ak (C:=C0) (A:=CZ) agT agT cok_none mO (f:=Tryz.f82) (by kernel_rfl) λbs r h=>by
  split at h
  ·exact (JH ..).trans h
  ·cases h
theorem acu:aF ab adF:= .ext (eQ0 Tryz.f44) (oh (C:=C0) (A:=A0) ag0 cok_none mO (f:=Tryz.f44) (by kernel_rfl) (by kernel_rfl) (by kernel_rfl) (λvs bs r hl h=>by
  split at h
  ·rename_i heq;cases heq;exact (AF ..).trans h
  ·rename_i heq;cases heq;simp at hl
  ·cases h) (λbs r h=>by
  split at h
  ·rename_i heq;cases heq
  ·rename_i heq;cases heq;exact (wP ..).trans (BH h)
  ·cases h)) ag0
theorem LX {C:IV->List Nat->List (List IV)->Option (List IV)} (a:COK ab C):ay ab xQ ⟨.pure,true,[1],0,λl=>match l with | [[b],[c,d],[e]]=>jR C b c d e | _=>none⟩:=
 mf (C:=C) (A:=E4) acu a mO (f:=Tryz.f83) (by kernel_rfl) (by kernel_rfl) (by kernel_rfl) rfl λbs r h=>by
  split at h
  ·exact (MT C ..).trans h
  ·cases h
theorem agl:aF ab aer:=ak (C:=C0) (A:=A1) acu acu cok_none mO (f:=b3) (by kernel_rfl) λbs r h=>by
  split at h
  ·exact (vC ..).trans h
  ·cases h
theorem Bp:COK ab (gK):=
 gR (eQ0 b3) (λcaps cv w ok hcap=>aX (C:=C0) (A:=A1) acu cok_none mO (f:=b3) (by kernel_rfl) (by kernel_rfl) hcap (by kernel_rfl) λbs r h=>by
  split at h
  ·exact (vC ..).trans h
  ·cases h) <|
 gR (eQ0 b4) (λcaps cv w ok hcap=>aX (C:=C0) (A:=A1) G54 cok_none mO (f:=b4) (by kernel_rfl) (by kernel_rfl) hcap (by kernel_rfl) λbs r h=>by
  split at h
  ·exact (qq ..).trans h
  ·cases h) <|
 cok_none
theorem Nv:aF ab (y2):= .ext (eQ0 Tryz.f83) (LX (Bp)) <| agl
theorem afT:aF ab ael:=ak (C:=(gK)) (A:=z5) agl Nv (Bp) mO (f:=Tryz.f46) (by kernel_rfl) λbs r h=>by
  split at h
  ·exact (Hw ..).trans h
  ·cases h
theorem agk:aF ab adP:=ak (C:=C0) (A:=IK) afT afT cok_none mO (f:=Tryz.f25) (by kernel_rfl) λbs r h=>by
  split at h
  ·exact (O4 ..).trans h
  ·cases h
theorem agU:aF ab ae9:= .ext (eQ0 Tryz.f43) (oh (C:=C0) (A:=mA) agk cok_none mO (f:=Tryz.f43) (by kernel_rfl) (by kernel_rfl) (by kernel_rfl) (λvs bs r hl h=>by
  split at h
  ·rename_i heq;cases heq;exact (yD ..).trans h
  ·rename_i heq;cases heq;simp at hl
  ·cases h) (λbs r h=>by
  split at h
  ·rename_i heq;cases heq
  ·rename_i heq;cases heq;exact (tK ..).trans (BH h)
  ·cases h)) agk
theorem agD:aF ab aeP:=ak (C:=C0) (A:=Fb) agU agU cok_none mO (f:=Tryz.f81) (by kernel_rfl) λbs r h=>by
  split at h
  ·exact (KN ..).trans h
  ·cases h
theorem agZ:aF ab ada:= .ext (eQ0 Tryz.f42) (oh (C:=C0) (A:=tU) agD cok_none mO (f:=Tryz.f42) (by kernel_rfl) (by kernel_rfl) (by kernel_rfl) (λvs bs r hl h=>by
  split at h
  ·rename_i heq;cases heq;exact (Aj ..).trans h
  ·cases h) (λbs r h=>by
  split at h
  ·rename_i heq;cases heq
  ·cases h)) agD
theorem af8:aF ab afv:= .ext (eQ0 Tryz.f12) (oh (C:=C0) (A:=pV) agZ cok_none mO (f:=Tryz.f12) (by kernel_rfl) (by kernel_rfl) (by kernel_rfl) (λvs bs r hl h=>by
  split at h
  ·rename_i heq;cases heq;exact (Cs ..).trans h
  ·rename_i heq;cases heq;simp at hl
  ·cases h) (λbs r h=>by
  split at h
  ·rename_i heq;cases heq
  ·rename_i heq;cases heq;exact (wQ ..).trans (BH h)
  ·cases h)) agZ
theorem agS:aF ab adl:=ak (C:=C0) (A:=A0) af8 af8 cok_none mO (f:=Tryz.f24) (by kernel_rfl) λbs r h=>by
  split at h
  ·exact (Ld ..).trans h
  ·cases h
theorem ahb:aF ab aec:= .ext (eQ0 Tryz.f15) (oh (C:=C0) (A:=A0) agS cok_none mO (f:=Tryz.f15) (by kernel_rfl) (by kernel_rfl) (by kernel_rfl) (λvs bs r hl h=>by
  split at h
  ·rename_i heq;cases heq;exact (Cv ..).trans h
  ·rename_i heq;cases heq;simp at hl
  ·cases h) (λbs r h=>by
  split at h
  ·rename_i heq;cases heq
  ·rename_i heq;cases heq;exact (xi ..).trans (BH h)
  ·cases h)) agS
theorem adQ:aF ab aaO:=ak (C:=C0) (A:=FL) ahb ahb cok_none mO (f:=Tryz.f40) (by kernel_rfl) λbs r h=>by
  split at h
  ·exact h
  ·cases h
theorem m6:ay ab oA ⟨.inl j7,false,[],0,λ_=>none⟩:=
 aO (C:=C0) (A:=pO) adQ cok_none mO (f:=b1) (by kernel_rfl) (by kernel_rfl)
theorem xG:aF ab o7:= .ext vz m6 <| adQ
theorem vk:ay ab u7 ⟨.inl pD,false,[],0,λ_=>none⟩:=
 aO (C:=C0) (A:=pI) xG cok_none mO (f:=b2) (by kernel_rfl) (by kernel_rfl)
theorem VO:aF ab (Gk):= .ext vz m6 <| .ext H4 vk <| adQ
theorem afW:aF ab acL:=ak (C:=C0) (A:=I4) adQ VO cok_none mO (f:=Tryz.f9) (by kernel_rfl) λbs r h=>by
  split at h
  ·exact (PG ..).trans h
  ·cases h
theorem agH:aF ab aex:= .ext (eQ0 Tryz.f11) (oh (C:=C0) (A:=A0) afW cok_none mO (f:=Tryz.f11) (by kernel_rfl) (by kernel_rfl) (by kernel_rfl) (λvs bs r hl h=>by
  split at h
  ·rename_i heq;cases heq;exact (CM ..).trans h
  ·rename_i heq;cases heq;simp at hl
  ·cases h) (λbs r h=>by
  split at h
  ·rename_i heq;cases heq
  ·rename_i heq;cases heq;exact (xD ..).trans (BH h)
  ·cases h)) afW
theorem afQ:aF ab afg:=ak (C:=C0) (A:=Dy) agH agH cok_none mO (f:=Tryz.f13) (by kernel_rfl) λbs r h=>by
  split at h
  ·exact (Kh ..).trans h
  ·cases h
theorem ag4:aF ab aeG:=ak (C:=C0) (A:=LP) afQ afQ cok_none mO (f:=Tryz.f61) (by kernel_rfl) λbs r h=>by
  split at h
  ·exact (S3 ..).trans h
  ·cases h
theorem aby:aF ab ZO:=ak (C:=C0) (A:=Dv) ag4 ag4 cok_none mO (f:=Tryz.f29) (by kernel_rfl) λbs r h=>by
  split at h
  ·exact (Ka ..).trans h
  ·cases h
theorem cV:ay ab fU ⟨.inl cx,false,[],0,λ_=>none⟩:=
 aO (C:=C0) (A:=gY) aby cok_none mO (f:=Tryz.f135) (by kernel_rfl) (by kernel_rfl)
theorem qF:aF ab iE:= .ext np cV <| aby
theorem gB:ay ab mX ⟨.inl dQ,false,[],0,λ_=>none⟩:=
 aO (C:=C0) (A:=jD) qF cok_none mO (f:=Tryz.f136) (by kernel_rfl) (by kernel_rfl)
theorem p7:aF ab gD:= .ext np cV <| .ext vD gB <| aby
theorem nX:ay ab oE ⟨.inl gV,false,[],0,λ_=>none⟩:=
 aO (C:=C0) (A:=gN) p7 cok_none mO (f:=Tryz.f67) (by kernel_rfl) (by kernel_rfl)
theorem OT:aF ab (AH):= .ext np cV <| .ext vD gB <| .ext (eQ0 Tryz.f67) nX <| aby
theorem ac9:aF ab aay:=ak (C:=C0) (A:=Db) aby OT cok_none mO (f:=Tryz.f30) (by kernel_rfl) λbs r h=>by
  split at h
  ·exact (JU ..).trans h
  ·cases h
theorem ky:ay ab oA ⟨.inl gG,false,[],0,λ_=>none⟩:=
 aO (C:=C0) (A:=na) ac9 cok_none mO (f:=b1) (by kernel_rfl) (by kernel_rfl)
theorem ve:aF ab ml:= .ext vz ky <| ac9
theorem sH:ay ab u7 ⟨.inl m9,false,[],0,λ_=>none⟩:=
 aO (C:=C0) (A:=nb) ve cok_none mO (f:=b2) (by kernel_rfl) (by kernel_rfl)
theorem Ni:aF ab (y5):= .ext vz ky <| .ext H4 sH <| ac9
theorem aiE:aF ab ah3:=ak (C:=C0) (A:=Bu) ac9 Ni cok_none mO (f:=Tryz.f6) (by kernel_rfl) λbs r h=>by
  split at h
  ·exact (Gu ..).trans h
  ·cases h
theorem HT:ay ab Ae BM:=aF.own aiE
end Go.AM

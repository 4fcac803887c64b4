/- The contracts of all functions that are reached. -/
import Derived.Test.YtgoenohknokcmaaGreatWk
import Derived.Test.YtgoenohknokcmaaGreatHm
import Derived.Test.YtgoenohknokcmaaGreatHr
import Derived.Test.YtgoenohknokcmaaGreatDe
import Derived.Test.YtgoenohknokcmaaGreatGw
import Derived.Test.YtgoenohknokcmaaGreatGd
import Derived.Test.YtgoenohknokcmaaGreatTk
open Go.Proofs.Tryz renaming prog->ab,f284->ad,f101->ao,f104->aB,f106->a1,f108->a2,f110->a5,f112->a6,f117->a7,f126->a8,f132->bb,f156->bd,f161->bf,f175->bm,f178->br,f208->bx,f213->bA,f250->bB,f251->bC,f256->bM,f260->bO,f262->bR,f266->b0,f285->b1,f10->b2,f84->b3,f85->b4,f98->b5
set_option linter.unusedVariables false
set_option linter.unusedSimpArgs false
set_option maxRecDepth 100000
namespace Go.AM
open Go.Proofs
theorem eQ0 {g:Go.FuncId} (f:Go.Func) (a:Tryz.prog.funcs[g]? =some f:=by kernel_rfl) (b:(f.name== "runtime.NumGoroutine")=false:=by kernel_rfl) (c:f.body.isNone=false:=by kernel_rfl):Enters Tryz.prog g:=enters_of a b c
theorem mO:ab.follows .mixedOrders=true:=by kernel_rfl
theorem zQ:Enters ab p8:=eQ0 b2
theorem fI:Enters ab dE:=eQ0 Tryz.f90
theorem jl:Enters ab eM:=eQ0 Tryz.f91
theorem mE:Enters ab gC:=eQ0 Tryz.f93
theorem qj:Enters ab j4:=eQ0 Tryz.f95
theorem wY:Enters ab nM:=eQ0 Tryz.f97
theorem An:Enters ab mM:=eQ0 Tryz.f113
theorem iu:Enters ab df:=eQ0 Tryz.f116
theorem sj:Enters ab gh:=eQ0 bb
theorem qR:Enters ab iR:=eQ0 Tryz.f133
theorem oe:Enters ab fo:=eQ0 Tryz.f155
theorem A8:Enters ab nG:=eQ0 bf
theorem vw:Enters ab mF:=eQ0 Tryz.f162
theorem Bh:Enters ab tG:=eQ0 Tryz.f181
theorem pW:Enters ab gM:=eQ0 Tryz.f197
theorem dT:Enters ab cT:=eQ0 Tryz.f212
theorem dR:Enters ab cI:=eQ0 bA
theorem mX:Enters ab fT:=eQ0 Tryz.f214
theorem jS:Enters ab eC:=eQ0 Tryz.f215
theorem tW:Enters ab kS:=eQ0 Tryz.f217
theorem mV:Enters ab gm:=eQ0 Tryz.f219
theorem rr:Enters ab iT:=eQ0 Tryz.f228
theorem px:Enters ab gY:=eQ0 bB
theorem oV:Enters ab ik:=eQ0 bO
theorem wW:Enters ab eL:=eQ0 bR
theorem wZ:Enters ab eJ:=eQ0 b0
theorem G1:aE ab T1:= .ext (eQ0 Tryz.f41) y7 G0
theorem G2:aE ab T2:= .ext (eQ0 Tryz.f59) pL G1
theorem G3:aE ab T3:= .ext (eQ0 Tryz.f62) ub G2
theorem G4:aE ab T4:= .ext (eQ0 Tryz.f69) AX G3
theorem G5:aE ab T5:= .ext (eQ0 Tryz.f86) ym G4
theorem G6:aE ab T6:= .ext An zf G5
theorem G7:aE ab T7:= .ext (eQ0 Tryz.f118) yv G6
theorem G8:aE ab T8:= .ext (eQ0 Tryz.f122) qP G7
theorem MH:ax ab xT Et:=
 SF λw A b off cap ps i f g d a e c x y h=>callsIn_wide.1 (aax 1 (Nat.le_refl _) w A b off cap ps i f g d a e c x y h)
theorem G9:aE ab T9:= .ext (eQ0 Tryz.f153) MH G8
theorem G10:aE ab T10:= .ext (eQ0 Tryz.f157) y9 G9
theorem G11:aE ab T11:= .ext (eQ0 Tryz.f189) ze G10
theorem G12:aE ab T12:=ak (C:=C0) (A:=A1) G11 G11 cok_none mO (f:=Tryz.f124) (by kernel_rfl) λbs r h=>by
  split at h
  ·exact (OO ..).trans h
  ·cases h
theorem G13:aE ab T13:=ak (C:=C0) (A:=E3) G12 G12 cok_none mO (f:=Tryz.f57) (by kernel_rfl) λbs r h=>by
  split at h
  ·exact (MQ ..).trans h
  ·cases h
theorem G14:aE ab T14:=ak (C:=C0) (A:=A1) G13 G13 cok_none mO (f:=Tryz.f28) (by kernel_rfl) λbs r h=>by
  split at h
  ·exact (Lk ..).trans h
  ·cases h
theorem G15:aE ab T15:=ak (C:=C0) (A:=Nv) G14 G14 cok_none mO (f:=Tryz.f70) (by kernel_rfl) λbs r h=>by
  split at h
  ·exact (S8 ..).trans h
  ·cases h
theorem Q8:ax ab Lv Li:=aE.own G15
theorem Rk:ax ab Ej L9:=
 WW (O:=(λl=>match l with | [[j,k,m,n]]=>lu j k m n | _=>none)) Q8 λw A b off cap ps i g ob h e a f d c=>callsIn_wide.1 (aeg 1 (Nat.le_refl _) w A b off cap ps i g ob h e a f d c)
theorem G16:aE ab T16:= .ext (eQ0 Tryz.f99) Rk G15
theorem G17:aE ab T17:=ak (C:=C0) (A:=ta) G16 G16 cok_none mO (f:=Tryz.f203) (by kernel_rfl) λbs r h=>by
  split at h
  ·exact (AZ ..).trans h
  ·cases h
theorem G18:aE ab T18:=ak (C:=C0) (A:=A1) G17 G17 cok_none mO (f:=Tryz.f148) (by kernel_rfl) λbs r h=>by
  split at h
  ·exact (xh ..).trans h
  ·cases h
theorem wE:ax ab pU pX:=aE.own G18
theorem N0:ax ab Ap Iw:=
 TG λw A b off cap ps j h i f a g d c e=>callsIn_wide.1 (Y7 1 (Nat.le_refl _) w A b off cap ps j h i f a g d c e (WO wE Pg))
theorem G19:aE ab T19:= .ext (eQ0 Tryz.f39) N0 G18
theorem G20:aE ab T20:=ak (C:=C0) (A:=A1) G19 G19 cok_none mO (f:=Tryz.f236) (by kernel_rfl) λbs r h=>by
  split at h
  ·exact (R5 ..).trans h
  ·cases h
theorem RG:ax ab Ee Me:=aE.own G20
theorem G21:aE ab T21:=ak (C:=C0) (A:=Lc) G20 G20 cok_none mO (f:=Tryz.f60) (by kernel_rfl) λbs r h=>by
  split at h
  ·exact (QY ..).trans h
  ·cases h
theorem Ra:ax ab DC Mt:=aE.own G21
theorem Hz:ax ab tx Bg:=
 Ct (λ_=>rfl) (λ_=>rfl) RG Ra (eQ0 Tryz.f236) (eQ0 Tryz.f60)
theorem G22:aE ab T22:= .ext (eQ0 Tryz.f185) Hz G21
theorem ng {C:IV->List Nat->List (List IV)->Option (List IV)} (a:COK ab C):ax ab fo ⟨.pure,true,[1],0,λl=>match l with | [[b],[c]]=>bF C b c | _=>none⟩:=
 lz (C:=C) (A:=pz) G22 a mO (f:=Tryz.f155) (by kernel_rfl) (by kernel_rfl) (by kernel_rfl) rfl λbs r h=>by
  split at h
  ·exact (vX C ..).trans h
  ·cases h
theorem G23:aE ab T23:=ak (C:=C0) (A:=A1) G22 G22 cok_none mO (f:=bx) (by kernel_rfl) λbs r h=>by
  split at h
  ·exact (xd ..).trans h
  ·cases h
theorem E9:COK ab (m0):=
 gH (eQ0 bx) (λcaps cv w ok hcap=>aQ (C:=C0) (A:=A1) G22 cok_none mO (f:=bx) (by kernel_rfl) (by kernel_rfl) hcap (by kernel_rfl) λbs r h=>by
  split at h
  ·exact (xd ..).trans h
  ·cases h) <|
 cok_none
theorem SQ:aE ab (C7):= .ext oe (ng (E9)) <| G23
theorem G24:aE ab T24:=ak (C:=(m0)) (A:=A1) G23 SQ (E9) mO (f:=Tryz.f154) (by kernel_rfl) λbs r h=>by
  split at h
  ·exact (KU ..).trans h
  ·cases h
theorem G25:aE ab T25:=ak (C:=C0) (A:=A1) G24 G24 cok_none mO (f:=bd) (by kernel_rfl) λbs r h=>by
  split at h
  ·exact (Bt ..).trans h
  ·cases h
theorem Lm:COK ab (qY):=
 gH (eQ0 bd) (λcaps cv w ok hcap=>aQ (C:=C0) (A:=A1) G24 cok_none mO (f:=bd) (by kernel_rfl) (by kernel_rfl) hcap (by kernel_rfl) λbs r h=>by
  split at h
  ·exact (Bt ..).trans h
  ·cases h) <|
 cok_none
theorem X2:aE ab (IG):= .ext oe (ng (Lm)) <| G25
theorem G26:aE ab T26:=ak (C:=(qY)) (A:=A0) G25 X2 (Lm) mO (f:=Tryz.f89) (by kernel_rfl) λbs r h=>by
  split at h
  ·exact (Tk ..).trans h
  ·cases h
theorem G27:aE ab T27:=ak (C:=C0) (A:=C2) G26 G26 cok_none mO (f:=Tryz.f8) (by kernel_rfl) λbs r h=>by
  split at h
  ·exact (JJ ..).trans h
  ·cases h
theorem G28:aE ab T28:= .ext (eQ0 Tryz.f20) (mq (C:=C0) (A:=lW) G27 cok_none mO (f:=Tryz.f20) (by kernel_rfl) (by kernel_rfl) (by kernel_rfl) (λvs bs r hl h=>by
  split at h
  ·rename_i heq;cases heq;exact (yr ..).trans h
  ·rename_i heq;cases heq;simp at hl
  ·cases h) (λbs r h=>by
  split at h
  ·rename_i heq;cases heq
  ·rename_i heq;cases heq;exact (uf ..).trans (yb h)
  ·cases h)) G27
theorem MO {C:IV->List Nat->List (List IV)->Option (List IV)} (a:COK ab C):ax ab xO ⟨.pure,true,[1],0,λl=>match l with | [[b]]=>mB C b | _=>none⟩:=
 lz (C:=C) (A:=Eu) G28 a mO (f:=Tryz.f109) (by kernel_rfl) (by kernel_rfl) (by kernel_rfl) rfl λbs r h=>by
  split at h
  ·exact (Mh C ..).trans h
  ·cases h
theorem G29:aE ab T29:=ak (C:=C0) (A:=A1) G28 G28 cok_none mO (f:=Tryz.f177) (by kernel_rfl) λbs r h=>by
  split at h
  ·exact (EN ..).trans h
  ·cases h
theorem G30:aE ab T30:=ak (C:=C0) (A:=A1) G29 G29 cok_none mO (f:=Tryz.f111) (by kernel_rfl) λbs r h=>by
  split at h
  ·exact (B6 ..).trans h
  ·cases h
theorem G31:aE ab T31:=ak (C:=C0) (A:=A1) G30 G30 cok_none mO (f:=a5) (by kernel_rfl) λbs r h=>by
  split at h
  ·exact (vA ..).trans h
  ·cases h
theorem G32:aE ab T32:=ak (C:=C0) (A:=A1) G31 G31 cok_none mO (f:=a6) (by kernel_rfl) λbs r h=>by
  split at h
  ·exact (vb ..).trans h
  ·cases h
theorem CS:COK ab (ja):=
 gH (eQ0 a5) (λcaps cv w ok hcap=>aQ (C:=C0) (A:=A1) G30 cok_none mO (f:=a5) (by kernel_rfl) (by kernel_rfl) hcap (by kernel_rfl) λbs r h=>by
  split at h
  ·exact (vA ..).trans h
  ·cases h) <|
 gH (eQ0 a6) (λcaps cv w ok hcap=>aQ (C:=C0) (A:=A1) G31 cok_none mO (f:=a6) (by kernel_rfl) (by kernel_rfl) hcap (by kernel_rfl) λbs r h=>by
  split at h
  ·exact (vb ..).trans h
  ·cases h) <|
 cok_none
theorem Om:aE ab (zB):= .ext (eQ0 Tryz.f109) (MO (CS)) <| G32
theorem G33:aE ab T33:=ak (C:=(ja)) (A:=A1) G32 Om (CS) mO (f:=Tryz.f52) (by kernel_rfl) λbs r h=>by
  split at h
  ·exact (Jb ..).trans h
  ·cases h
theorem uI {C:IV->List Nat->List (List IV)->Option (List IV)} (a:COK ab C):ax ab iW ⟨.pure,true,[1],0,λl=>match l with | [[b],[c]]=>cw C b c | _=>none⟩:=
 lz (C:=C) (A:=ot) G33 a mO (f:=Tryz.f191) (by kernel_rfl) (by kernel_rfl) (by kernel_rfl) rfl λbs r h=>by
  split at h
  ·exact (uL C ..).trans h
  ·cases h
theorem sZ {C:IV->List Nat->List (List IV)->Option (List IV)} (a:COK ab C):aE ab (kR C):= .ext (eQ0 Tryz.f191) (uI a) <| G33
theorem rY {C:IV->List Nat->List (List IV)->Option (List IV)} (a:COK ab C):ax ab fR ⟨.pure,true,[1],0,λl=>match l with | [[b],[c]]=>cB C b c | _=>none⟩:=
 lz (C:=C) (A:=A1) (sZ a) a mO (f:=Tryz.f125) (by kernel_rfl) (by kernel_rfl) (by kernel_rfl) rfl λbs r h=>by
  split at h
  ·exact (rR C ..).trans h
  ·cases h
theorem G34:aE ab T34:=ak (C:=C0) (A:=A1) G33 G33 cok_none mO (f:=Tryz.f71) (by kernel_rfl) λbs r h=>by
  split at h
  ·exact (Ou ..).trans h
  ·cases h
theorem G35:aE ab T35:=ak (C:=C0) (A:=Iy) G34 G34 cok_none mO (f:=Tryz.f32) (by kernel_rfl) λbs r h=>by
  split at h
  ·exact (PH ..).trans h
  ·cases h
theorem G36:aE ab T36:=ak (C:=C0) (A:=A1) G35 G35 cok_none mO (f:=a8) (by kernel_rfl) λbs r h=>by
  split at h
  ·exact (yF ..).trans h
  ·cases h
theorem H4:COK ab (pG):=
 gH (eQ0 a8) (λcaps cv w ok hcap=>aQ (C:=C0) (A:=A1) G35 cok_none mO (f:=a8) (by kernel_rfl) (by kernel_rfl) hcap (by kernel_rfl) λbs r h=>by
  split at h
  ·exact (yF ..).trans h
  ·cases h) <|
 cok_none
theorem Ud:aE ab (Fw):= .ext (eQ0 Tryz.f125) (rY (H4)) <| G36
theorem G37:aE ab T37:=ak (C:=(pG)) (A:=Ik) G36 Ud (H4) mO (f:=Tryz.f58) (by kernel_rfl) λbs r h=>by
  split at h
  ·exact (Oa ..).trans h
  ·cases h
theorem G38:aE ab T38:=ak (C:=C0) (A:=Ip) G37 G37 cok_none mO (f:=Tryz.f100) (by kernel_rfl) λbs r h=>by
  split at h
  ·exact (PK ..).trans h
  ·cases h
theorem G39:aE ab T39:=ak (C:=C0) (A:=vW) G38 G38 cok_none mO (f:=b5) (by kernel_rfl) λbs r h=>by
  split at h
  ·exact (yV ..).trans h
  ·cases h
theorem gA {C:IV->List Nat->List (List IV)->Option (List IV)} (a:COK ab C):ax ab df ⟨.pure,true,[1],0,λl=>match l with | [[b],[c]]=>aW C b c | _=>none⟩:=
 lz (C:=C) (A:=ox) G39 a mO (f:=Tryz.f116) (by kernel_rfl) (by kernel_rfl) (by kernel_rfl) rfl λbs r h=>by
  split at h
  ·exact (uF C ..).trans h
  ·cases h
theorem G40:aE ab T40:=ak (C:=C0) (A:=A1) G39 G39 cok_none mO (f:=br) (by kernel_rfl) λbs r h=>by
  split at h
  ·exact (vh ..).trans h
  ·cases h
theorem De:COK ab (lR):=
 gH (eQ0 br) (λcaps cv w ok hcap=>aQ (C:=C0) (A:=A1) G39 cok_none mO (f:=br) (by kernel_rfl) (by kernel_rfl) hcap (by kernel_rfl) λbs r h=>by
  split at h
  ·exact (vh ..).trans h
  ·cases h) <|
 cok_none
theorem NX:aE ab (Ae):= .ext iu (gA (De)) <| G40
theorem G41:aE ab T41:=ak (C:=(lR)) (A:=A1) G40 NX (De) mO (f:=Tryz.f114) (by kernel_rfl) λbs r h=>by
  split at h
  ·exact (IY ..).trans h
  ·cases h
theorem G42:aE ab T42:=ak (C:=C0) (A:=wU) G41 G41 cok_none mO (f:=Tryz.f115) (by kernel_rfl) λbs r h=>by
  split at h
  ·exact (Dt ..).trans h
  ·cases h
theorem G43:aE ab T43:=ak (C:=C0) (A:=A1) G42 G42 cok_none mO (f:=a7) (by kernel_rfl) λbs r h=>by
  split at h
  ·exact (u5 ..).trans h
  ·cases h
theorem CY:COK ab (ln):=
 gH (eQ0 a7) (λcaps cv w ok hcap=>aQ (C:=C0) (A:=A1) G42 cok_none mO (f:=a7) (by kernel_rfl) (by kernel_rfl) hcap (by kernel_rfl) λbs r h=>by
  split at h
  ·exact (u5 ..).trans h
  ·cases h) <|
 cok_none
theorem PE:aE ab (zL):= .ext iu (gA (CY)) <| G43
theorem G44:aE ab T44:=ak (C:=(ln)) (A:=CG) G43 PE (CY) mO (f:=Tryz.f54) (by kernel_rfl) λbs r h=>by
  split at h
  ·exact (J2 ..).trans h
  ·cases h
theorem G45:aE ab T45:=ak (C:=C0) (A:=Nb) G44 G44 cok_none mO (f:=Tryz.f103) (by kernel_rfl) λbs r h=>by
  split at h
  ·exact (RA ..).trans h
  ·cases h
theorem tz {C:IV->List Nat->List (List IV)->Option (List IV)} (a:COK ab C):aE ab (kW C):= .ext iu (gA a) <| G45
theorem rP {C:IV->List Nat->List (List IV)->Option (List IV)} (a:COK ab C):ax ab fS ⟨.pure,true,[1],0,λl=>match l with | [[b],[c]]=>cD C b c | _=>none⟩:=
 lz (C:=C) (A:=A1) (tz a) a mO (f:=Tryz.f174) (by kernel_rfl) (by kernel_rfl) (by kernel_rfl) rfl λbs r h=>by
  split at h
  ·exact (rJ C ..).trans h
  ·cases h
theorem G46:aE ab T46:=ak (C:=C0) (A:=A1) G45 G45 cok_none mO (f:=Tryz.f176) (by kernel_rfl) λbs r h=>by
  split at h
  ·exact (Ok ..).trans h
  ·cases h
theorem G47:aE ab T47:=ak (C:=C0) (A:=rM) G46 G46 cok_none mO (f:=bm) (by kernel_rfl) λbs r h=>by
  split at h
  ·exact (uX ..).trans h
  ·cases h
theorem CU:COK ab (l9):=
 gH (eQ0 bm) (λcaps cv w ok hcap=>aQ (C:=C0) (A:=rM) G46 cok_none mO (f:=bm) (by kernel_rfl) (by kernel_rfl) hcap (by kernel_rfl) λbs r h=>by
  split at h
  ·exact (uX ..).trans h
  ·cases h) <|
 cok_none
theorem OI:aE ab (AV):= .ext (eQ0 Tryz.f174) (rP (CU)) <| G47
theorem G48:aE ab T48:=ak (C:=(l9)) (A:=A1) G47 OI (CU) mO (f:=Tryz.f102) (by kernel_rfl) λbs r h=>by
  split at h
  ·exact (I0 ..).trans h
  ·cases h
theorem G49:aE ab T49:=ak (C:=C0) (A:=vF) G48 G48 cok_none mO (f:=ao) (by kernel_rfl) λbs r h=>by
  split at h
  ·exact (yD ..).trans h
  ·cases h
theorem G50:aE ab T50:=ak (C:=C0) (A:=C3) G49 G49 cok_none mO (f:=Tryz.f105) (by kernel_rfl) λbs r h=>by
  split at h
  ·exact (JN ..).trans h
  ·cases h
theorem G51:aE ab T51:=ak (C:=C0) (A:=vH) G50 G50 cok_none mO (f:=aB) (by kernel_rfl) λbs r h=>by
  split at h
  ·exact (yM ..).trans h
  ·cases h
theorem G52:aE ab T52:=ak (C:=C0) (A:=A1) G51 G51 cok_none mO (f:=b4) (by kernel_rfl) λbs r h=>by
  split at h
  ·exact (pV ..).trans h
  ·cases h
theorem G53:aE ab T53:=ak (C:=C0) (A:=CM) G52 G52 cok_none mO (f:=Tryz.f107) (by kernel_rfl) λbs r h=>by
  split at h
  ·exact (JL ..).trans h
  ·cases h
theorem G54:aE ab T54:=ak (C:=C0) (A:=vK) G53 G53 cok_none mO (f:=a1) (by kernel_rfl) λbs r h=>by
  split at h
  ·exact (yG ..).trans h
  ·cases h
theorem G55:aE ab T55:=ak (C:=C0) (A:=wx) G54 G54 cok_none mO (f:=Tryz.f53) (by kernel_rfl) λbs r h=>by
  split at h
  ·exact (Dl ..).trans h
  ·cases h
theorem G56:aE ab T56:=ak (C:=C0) (A:=A1) G55 G55 cok_none mO (f:=a2) (by kernel_rfl) λbs r h=>by
  split at h
  ·exact (yQ ..).trans h
  ·cases h
theorem VN:COK ab (dX):=
 gH (eQ0 b5) (λcaps cv w ok hcap=>aQ (C:=C0) (A:=vW) G38 cok_none mO (f:=b5) (by kernel_rfl) (by kernel_rfl) hcap (by kernel_rfl) λbs r h=>by
  split at h
  ·exact (yV ..).trans h
  ·cases h) <|
 gH (eQ0 ao) (λcaps cv w ok hcap=>aQ (C:=C0) (A:=vF) G48 cok_none mO (f:=ao) (by kernel_rfl) (by kernel_rfl) hcap (by kernel_rfl) λbs r h=>by
  split at h
  ·exact (yD ..).trans h
  ·cases h) <|
 gH (eQ0 aB) (λcaps cv w ok hcap=>aQ (C:=C0) (A:=vH) G50 cok_none mO (f:=aB) (by kernel_rfl) (by kernel_rfl) hcap (by kernel_rfl) λbs r h=>by
  split at h
  ·exact (yM ..).trans h
  ·cases h) <|
 gH (eQ0 a1) (λcaps cv w ok hcap=>aQ (C:=C0) (A:=vK) G53 cok_none mO (f:=a1) (by kernel_rfl) (by kernel_rfl) hcap (by kernel_rfl) λbs r h=>by
  split at h
  ·exact (yG ..).trans h
  ·cases h) <|
 gH (eQ0 a2) (λcaps cv w ok hcap=>aQ (C:=C0) (A:=A1) G55 cok_none mO (f:=a2) (by kernel_rfl) (by kernel_rfl) hcap (by kernel_rfl) λbs r h=>by
  split at h
  ·exact (yQ ..).trans h
  ·cases h) <|
 cok_none
theorem G57:aE ab T57:=ak (C:=(dX)) (A:=ID) G56 G56 (VN) mO (f:=Tryz.f51) (by kernel_rfl) λbs r h=>by
  split at h
  ·exact (O6 ..).trans h
  ·cases h
theorem yf {C:IV->List Nat->List (List IV)->Option (List IV)} (a:COK ab C):ax ab tG ⟨.pure,true,[1],0,λl=>match l with | [[b]]=>il C b | _=>none⟩:=
 lz (C:=C) (A:=L6) G57 a mO (f:=Tryz.f181) (by kernel_rfl) (by kernel_rfl) (by kernel_rfl) rfl λbs r h=>by
  split at h
  ·exact (Sr C ..).trans h
  ·cases h
theorem G58:aE ab T58:=ak (C:=C0) (A:=A1) G57 G57 cok_none mO (f:=ad) (by kernel_rfl) λbs r h=>by
  split at h
  ·exact (gO ..).trans h
  ·cases h
theorem G59:aE ab T59:=ak (C:=C0) (A:=A1) G58 G58 cok_none mO (f:=b1) (by kernel_rfl) λbs r h=>by
  split at h
  ·exact (mT ..).trans h
  ·cases h
theorem G60:aE ab T60:=ak (C:=C0) (A:=EW) G59 G59 cok_none mO (f:=Tryz.f238) (by kernel_rfl) λbs r h=>by
  split at h
  ·exact (K5 ..).trans h
  ·cases h
theorem G61:aE ab T61:=ak (C:=C0) (A:=A1) G60 G60 cok_none mO (f:=Tryz.f128) (by kernel_rfl) λbs r h=>by
  split at h
  ·exact (Tn ..).trans h
  ·cases h
theorem G62:aE ab T62:=ak (C:=C0) (A:=wX) G61 G61 cok_none mO (f:=Tryz.f237) (by kernel_rfl) λbs r h=>by
  split at h
  ·exact (DP ..).trans h
  ·cases h
theorem G63:aE ab T63:=ak (C:=C0) (A:=CI) G62 G62 cok_none mO (f:=Tryz.f186) (by kernel_rfl) λbs r h=>by
  split at h
  ·exact (Jp ..).trans h
  ·cases h
theorem G64:aE ab T64:=ak (C:=C0) (A:=CW) G63 G63 cok_none mO (f:=Tryz.f187) (by kernel_rfl) λbs r h=>by
  split at h
  ·exact (JY ..).trans h
  ·cases h
theorem G65:aE ab T65:=ak (C:=C0) (A:=A1) G64 G64 cok_none mO (f:=Tryz.f286) (by kernel_rfl) λbs r h=>by
  split at h
  ·exact (qS ..).trans h
  ·cases h
theorem G66:aE ab T66:=ak (C:=C0) (A:=ED) G65 G65 cok_none mO (f:=Tryz.f193) (by kernel_rfl) λbs r h=>by
  split at h
  ·exact (Mf ..).trans h
  ·cases h
theorem G67:aE ab T67:=ak (C:=C0) (A:=A1) G66 G66 cok_none mO (f:=Tryz.f242) (by kernel_rfl) λbs r h=>by
  split at h
  ·exact (I3 ..).trans h
  ·cases h
theorem G68:aE ab T68:=ak (C:=C0) (A:=EB) G67 G67 cok_none mO (f:=Tryz.f194) (by kernel_rfl) λbs r h=>by
  split at h
  ·exact (LG ..).trans h
  ·cases h
theorem G69:aE ab T69:=ak (C:=C0) (A:=A1) G68 G68 cok_none mO (f:=Tryz.f130) (by kernel_rfl) λbs r h=>by
  split at h
  ·exact (N7 ..).trans h
  ·cases h
theorem G70:aE ab T70:=ak (C:=C0) (A:=si) G69 G69 cok_none mO (f:=Tryz.f263) (by kernel_rfl) λbs r h=>by
  split at h
  ·exact (zn ..).trans h
  ·cases h
theorem gJ:ax ab ik ⟨.inl dY,false,[],0,λ_=>none⟩:=
 aY (C:=C0) (A:=A0) G70 cok_none mO (f:=bO) (by kernel_rfl) (by kernel_rfl)
theorem pM:aE ab gI:= .ext oV gJ <| G70
theorem oa:ax ab eJ ⟨.inl iy,false,[],0,λ_=>none⟩:=
 aY (C:=C0) (A:=A0) pM cok_none mO (f:=b0) (by kernel_rfl) (by kernel_rfl)
theorem JW:aE ab (wq):= .ext oV gJ <| .ext wZ oa <| G70
theorem G71:aE ab T71:=ak (C:=C0) (A:=yK) G70 JW cok_none mO (f:=Tryz.f255) (by kernel_rfl) λbs r h=>by
  split at h
  ·exact (Ft ..).trans h
  ·cases h
theorem G72:aE ab T72:=ak (C:=C0) (A:=zZ) G71 G71 cok_none mO (f:=Tryz.f239) (by kernel_rfl) λbs r h=>by
  split at h
  ·exact (Hm ..).trans h
  ·cases h
theorem G73:aE ab T73:=ak (C:=C0) (A:=A1) G72 G72 cok_none mO (f:=Tryz.f184) (by kernel_rfl) λbs r h=>by
  split at h
  ·exact (Nw ..).trans h
  ·cases h
theorem G74:aE ab T74:=ak (C:=C0) (A:=A1) G73 G73 cok_none mO (f:=Tryz.f252) (by kernel_rfl) λbs r h=>by
  split at h
  ·exact (Lr ..).trans h
  ·cases h
theorem G75:aE ab T75:=ak (C:=C0) (A:=A1) G74 G74 cok_none mO (f:=bM) (by kernel_rfl) λbs r h=>by
  split at h
  ·exact (tw ..).trans h
  ·cases h
theorem s6:COK ab (cX):=
 gH (eQ0 bM) (λcaps cv w ok hcap=>aQ (C:=C0) (A:=A1) G74 cok_none mO (f:=bM) (by kernel_rfl) (by kernel_rfl) hcap (by kernel_rfl) λbs r h=>by
  split at h
  ·exact (tw ..).trans h
  ·cases h) <|
 cok_none
theorem iG:ax ab gY ⟨.inl eH,false,[],0,λ_=>none⟩:=
 aY (C:=(cX)) (A:=A0) G75 (s6) mO (f:=bB) (by kernel_rfl) (by kernel_rfl)
theorem qb:aE ab iK:= .ext px iG <| G75
theorem oG:ax ab eL ⟨.inl jn,false,[],0,λ_=>none⟩:=
 aY (C:=(cX)) (A:=A0) qb (s6) mO (f:=bR) (by kernel_rfl) (by kernel_rfl)
theorem Nd:aE ab (yH):= .ext px iG <| .ext wW oG <| G75
theorem G76:aE ab T76:=ak (C:=(cX)) (A:=zU) G75 Nd (s6) mO (f:=Tryz.f240) (by kernel_rfl) λbs r h=>by
  split at h
  ·exact (GI ..).trans h
  ·cases h
theorem G77:aE ab T77:=ak (C:=C0) (A:=wR) G76 G76 cok_none mO (f:=Tryz.f188) (by kernel_rfl) λbs r h=>by
  split at h
  ·exact (Dj ..).trans h
  ·cases h
theorem G78:aE ab T78:=ak (C:=C0) (A:=A1) G77 G77 cok_none mO (f:=Tryz.f287) (by kernel_rfl) λbs r h=>by
  split at h
  ·exact (qW ..).trans h
  ·cases h
theorem adV:aE ab T78:=G78
theorem yZ:COK ab eN:=
 pJ (t:=266) (g:=284) (one:=false) (λu w=>by kernel_rfl) (λy u w ok a=>aQ (C:=C0) (A:=A1) G57 cok_none mO (f:=ad) (by kernel_rfl) (by kernel_rfl) (uu a) (by kernel_rfl) λbs r h=>by
  split at h
  ·rename_i heq;cases heq;exact (gO ..).trans h
  ·cases h) <|
 pJ (t:=322) (g:=285) (one:=false) (λu w=>by kernel_rfl) (λy u w ok a=>aQ (C:=C0) (A:=A1) G58 cok_none mO (f:=b1) (by kernel_rfl) (by kernel_rfl) (uu a) (by kernel_rfl) λbs r h=>by
  split at h
  ·rename_i heq;cases heq;exact (mT ..).trans h
  ·cases h) <|
 pJ (t:=323) (g:=286) (one:=false) (λu w=>by kernel_rfl) (λy u w ok a=>aQ (C:=C0) (A:=A1) G64 cok_none mO (f:=Tryz.f286) (by kernel_rfl) (by kernel_rfl) (uu a) (by kernel_rfl) λbs r h=>by
  split at h
  ·rename_i heq;cases heq;exact (qS ..).trans h
  ·cases h) <|
 pJ (t:=324) (g:=287) (one:=false) (λu w=>by kernel_rfl) (λy u w ok a=>aQ (C:=C0) (A:=A1) G77 cok_none mO (f:=Tryz.f287) (by kernel_rfl) (by kernel_rfl) (uu a) (by kernel_rfl) λbs r h=>by
  split at h
  ·rename_i heq;cases heq;exact (qW ..).trans h
  ·cases h) <|
 cok_none
theorem A5:COK ab gF:=
 pJ (t:=326) (g:=288) (one:=true) (λu w=>by kernel_rfl) (λy u w ok c=>by
  have h:=P9 (A:=A0) adV yZ mO (g:=288) (f:=Tryz.f288) (by kernel_rfl) (by kernel_rfl) (VK eN) y u w ok c
  refine λw ok bs args r h1 h2 b a=>h w ok bs args r h1 h2 b ?_
  revert a;cases bs<;>exact λa=>a) <|
 yZ
theorem Mr:aE ab (yL):= .ext Bh (yf (A5)) <| G78
theorem G79:aE ab T79:=ak (C:=(gF)) (A:=AB) G78 Mr (A5) mO (f:=Tryz.f182) (by kernel_rfl) λbs r h=>by
  split at h
  ·exact (Hw ..).trans h
  ·cases h
theorem wu:COK ab iY:=
 pJ (t:=266) (g:=284) (one:=false) (λu w=>by kernel_rfl) (λy u w ok a=>aQ (C:=C0) (A:=A1) G57 cok_none mO (f:=ad) (by kernel_rfl) (by kernel_rfl) (uu a) (by kernel_rfl) λbs r h=>by
  split at h
  ·rename_i heq;cases heq;exact (gO ..).trans h
  ·cases h) <|
 pJ (t:=322) (g:=285) (one:=false) (λu w=>by kernel_rfl) (λy u w ok a=>aQ (C:=C0) (A:=A1) G58 cok_none mO (f:=b1) (by kernel_rfl) (by kernel_rfl) (uu a) (by kernel_rfl) λbs r h=>by
  split at h
  ·rename_i heq;cases heq;exact (mT ..).trans h
  ·cases h) <|
 cok_none
theorem yR:COK ab fK:=
 pJ (t:=326) (g:=288) (one:=true) (λu w=>by kernel_rfl) (λy u w ok c=>by
  have h:=P9 (A:=A0) adV wu mO (g:=288) (f:=Tryz.f288) (by kernel_rfl) (by kernel_rfl) (VK iY) y u w ok c
  refine λw ok bs args r h1 h2 b a=>h w ok bs args r h1 h2 b ?_
  revert a;cases bs<;>exact λa=>a) <|
 wu
theorem JB:aE ab (wh):= .ext Bh (yf (yR)) <| G79
theorem G80:aE ab T80:=ak (C:=(fK)) (A:=yI) G79 JB (yR) mO (f:=Tryz.f183) (by kernel_rfl) λbs r h=>by
  split at h
  ·exact (Fc ..).trans h
  ·cases h
theorem Ms:COK ab zS:=
 pJ (t:=266) (g:=284) (one:=false) (λu w=>by kernel_rfl) (λy u w ok a=>aQ (C:=C0) (A:=A1) G57 cok_none mO (f:=ad) (by kernel_rfl) (by kernel_rfl) (uu a) (by kernel_rfl) λbs r h=>by
  split at h
  ·rename_i heq;cases heq;exact (gO ..).trans h
  ·cases h) <|
 cok_none
theorem CB:COK ab je:=
 Ms
theorem O7:aE ab (z6):= .ext Bh (yf (CB)) <| G80
theorem G81:aE ab T81:=ak (C:=(je)) (A:=CH) G80 O7 (CB) mO (f:=Tryz.f119) (by kernel_rfl) λbs r h=>by
  split at h
  ·exact (Ji ..).trans h
  ·cases h
theorem G82:aE ab T82:=ak (C:=C0) (A:=AL) G81 G81 cok_none mO (f:=Tryz.f120) (by kernel_rfl) λbs r h=>by
  split at h
  ·exact (Gp ..).trans h
  ·cases h
theorem G83:aE ab T83:=ak (C:=C0) (A:=pR) G82 G82 cok_none mO (f:=Tryz.f121) (by kernel_rfl) λbs r h=>by
  split at h
  ·exact (wM ..).trans h
  ·cases h
theorem G84:aE ab T84:=ak (C:=C0) (A:=A0) G83 G83 cok_none mO (f:=Tryz.f55) (by kernel_rfl) λbs r h=>by
  split at h
  ·exact (Gg ..).trans h
  ·cases h
theorem G85:aE ab T85:=ak (C:=C0) (A:=Nx) G84 G84 cok_none mO (f:=Tryz.f257) (by kernel_rfl) λbs r h=>by
  split at h
  ·exact (Q2 ..).trans h
  ·cases h
theorem G86:aE ab T86:=ak (C:=C0) (A:=A1) G85 G85 cok_none mO (f:=Tryz.f241) (by kernel_rfl) λbs r h=>by
  split at h
  ·exact (UK ..).trans h
  ·cases h
theorem G87:aE ab T87:=ak (C:=C0) (A:=Ga) G86 G86 cok_none mO (f:=Tryz.f129) (by kernel_rfl) λbs r h=>by
  split at h
  ·exact (Np ..).trans h
  ·cases h
theorem G88:aE ab T88:=ak (C:=C0) (A:=A1) G87 G87 cok_none mO (f:=Tryz.f190) (by kernel_rfl) λbs r h=>by
  split at h
  ·exact (Hh ..).trans h
  ·cases h
theorem G89:aE ab T89:=ak (C:=C0) (A:=HV) G88 G88 cok_none mO (f:=Tryz.f123) (by kernel_rfl) λbs r h=>by
  split at h
  ·exact (NR ..).trans h
  ·cases h
theorem G90:aE ab T90:=ak (C:=C0) (A:=EO) G89 G89 cok_none mO (f:=Tryz.f56) (by kernel_rfl) λbs r h=>by
  split at h
  ·exact (Ns ..).trans h
  ·cases h
theorem G91:aE ab T91:=ak (C:=C0) (A:=A1) G90 G90 cok_none mO (f:=Tryz.f26) (by kernel_rfl) λbs r h=>by
  split at h
  ·exact (Ma ..).trans h
  ·cases h
theorem G92:aE ab T92:=ak (C:=C0) (A:=ow) G91 G91 cok_none mO (f:=Tryz.f243) (by kernel_rfl) λbs r h=>by
  split at h
  ·exact (uK ..).trans h
  ·cases h
theorem G93:aE ab T93:=ak (C:=C0) (A:=A1) G92 G92 cok_none mO (f:=Tryz.f195) (by kernel_rfl) λbs r h=>by
  split at h
  ·exact (uH ..).trans h
  ·cases h
theorem G94:aE ab T94:=ak (C:=C0) (A:=A1) G93 G93 cok_none mO (f:=Tryz.f131) (by kernel_rfl) λbs r h=>by
  split at h
  ·exact (zg ..).trans h
  ·cases h
theorem G95:aE ab T95:=ak (C:=C0) (A:=A1) G94 G94 cok_none mO (f:=Tryz.f63) (by kernel_rfl) λbs r h=>by
  split at h
  ·exact (Er ..).trans h
  ·cases h
theorem G96:aE ab T96:= .ext (eQ0 Tryz.f64) (sig_mko (C:=C0) (A:=A0) G95 cok_none mO (f:=Tryz.f64) (by kernel_rfl) (by kernel_rfl) (λbs r h=>by
  split at h
  ·exact (RX ..).trans h
  ·cases h)) G95
theorem G97:aE ab T97:=ak (C:=C0) (A:=A1) G96 G96 cok_none mO (f:=Tryz.f134) (by kernel_rfl) λbs r h=>by
  split at h
  ·exact (NS ..).trans h
  ·cases h
theorem dj:ax ab gM ⟨.inl cu,false,[],0,λ_=>none⟩:=
 aY (C:=C0) (A:=dU) G97 cok_none mO (f:=Tryz.f197) (by kernel_rfl) (by kernel_rfl)
theorem ml:aE ab ej:= .ext pW dj <| G97
theorem kJ:ax ab gh ⟨.inl ey,false,[],0,λ_=>none⟩:=
 xn (C:=C0) (A:=eu) ml cok_none mO oy (f:=bb) (by kernel_rfl) (by kernel_rfl)
theorem DD:aE ab (sb):= .ext pW dj <| .ext sj kJ <| G97
theorem G98:aE ab T98:= .ext (eQ0 Tryz.f138) (mq (C:=C0) (A:=A0) DD cok_none mO (f:=Tryz.f138) (by kernel_rfl) (by kernel_rfl) (by kernel_rfl) (λvs bs r hl h=>by
  split at h
  ·rename_i heq;cases heq;exact (AO ..).trans h
  ·cases h) (λbs r h=>by
  split at h
  ·rename_i heq;cases heq
  ·cases h)) G97
theorem dL:ax ab iR ⟨.inl cQ,false,[],0,λ_=>none⟩:=
 aY (C:=C0) (A:=eA) G98 cok_none mO (f:=Tryz.f133) (by kernel_rfl) (by kernel_rfl)
theorem mN:aE ab eo:= .ext qR dL <| G98
theorem kY:ax ab gh ⟨.inl fk,false,[],0,λ_=>none⟩:=
 xn (C:=C0) (A:=fm) mN cok_none mO oy (f:=bb) (by kernel_rfl) (by kernel_rfl)
theorem EZ:aE ab (tI):= .ext qR dL <| .ext sj kY <| G98
theorem G99:aE ab T99:= .ext (eQ0 Tryz.f65) (mq (C:=C0) (A:=A0) EZ cok_none mO (f:=Tryz.f65) (by kernel_rfl) (by kernel_rfl) (by kernel_rfl) (λvs bs r hl h=>by
  split at h
  ·rename_i heq;cases heq;exact (B3 ..).trans h
  ·cases h) (λbs r h=>by
  split at h
  ·rename_i heq;cases heq
  ·cases h)) G98
theorem Bc:ax ab pB ⟨.pure,true,[1],0,λl=>match l with | [[a]]=>kU a | _=>none⟩:=
 lz (C:=C0) (A:=A1) G99 cok_none mO (f:=Tryz.f66) (by kernel_rfl) (by kernel_rfl) (by kernel_rfl) rfl λbs r h=>by
  split at h
  ·exact (Cj ..).trans h
  ·cases h
theorem afM:aE ab afa:= .ext (eQ0 Tryz.f66) (En Bc) G99
theorem zt:ax ab nY ⟨.pure,true,[1],0,λl=>match l with | [[a]]=>jQ a | _=>none⟩:=
 lz (C:=C0) (A:=A1) afM cok_none mO (f:=Tryz.f142) (by kernel_rfl) (by kernel_rfl) (by kernel_rfl) rfl λbs r h=>by
  split at h
  ·exact (Bn ..).trans h
  ·cases h
theorem agT:aE ab aer:= .ext (eQ0 Tryz.f142) (En zt) afM
theorem agc:aE ab ael:=ak (C:=C0) (A:=CX) agT agT cok_none mO (f:=Tryz.f158) (by kernel_rfl) λbs r h=>by
  split at h
  ·exact (JH ..).trans h
  ·cases h
theorem agx:aE ab ae7:=ak (C:=C0) (A:=C9) agc agc cok_none mO (f:=Tryz.f92) (by kernel_rfl) λbs r h=>by
  split at h
  ·exact (Jy ..).trans h
  ·cases h
theorem G104:aE ab T104:= .ext (eQ0 Tryz.f68) (mq (C:=C0) (A:=uz) agx cok_none mO (f:=Tryz.f68) (by kernel_rfl) (by kernel_rfl) (by kernel_rfl) (λvs bs r hl h=>by
  split at h
  ·rename_i heq;cases heq;exact (Bm ..).trans h
  ·cases h) (λbs r h=>by
  split at h
  ·rename_i heq;cases heq
  ·cases h)) agx
theorem agB:aE ab aeb:= .ext (eQ0 Tryz.f211) (sig_mko (C:=C0) (A:=A0) G104 cok_none mO (f:=Tryz.f211) (by kernel_rfl) (by kernel_rfl) (λbs r h=>by
  split at h
  ·exact (N8 ..).trans h
  ·cases h)) G104
theorem afN:aE ab aeA:=ak (C:=C0) (A:=zy) agB agB cok_none mO (f:=Tryz.f218) (by kernel_rfl) λbs r h=>by
  split at h
  ·exact (Gw ..).trans h
  ·cases h
theorem ahf:aE ab aew:=ak (C:=C0) (A:=Iu) afN afN cok_none mO (f:=Tryz.f222) (by kernel_rfl) λbs r h=>by
  split at h
  ·exact (Pq ..).trans h
  ·cases h
theorem afH:aE ab ad6:=ak (C:=C0) (A:=A1) ahf ahf cok_none mO (f:=Tryz.f173) (by kernel_rfl) λbs r h=>by
  split at h
  ·exact (KI ..).trans h
  ·cases h
theorem afY:aE ab aeQ:=ak (C:=C0) (A:=A1) afH afH cok_none mO (f:=Tryz.f164) (by kernel_rfl) λbs r h=>by
  split at h
  ·exact (Pp ..).trans h
  ·cases h
theorem ago:aE ab aeK:=ak (C:=C0) (A:=A1) afY afY cok_none mO (f:=Tryz.f265) (by kernel_rfl) λbs r h=>by
  split at h
  ·exact (MV ..).trans h
  ·cases h
theorem agm:aE ab afg:=ak (C:=C0) (A:=A1) ago ago cok_none mO (f:=Tryz.f264) (by kernel_rfl) λbs r h=>by
  split at h
  ·exact (LL ..).trans h
  ·cases h
theorem afD:aE ab aey:=ak (C:=C0) (A:=A1) agm agm cok_none mO (f:=Tryz.f259) (by kernel_rfl) λbs r h=>by
  split at h
  ·exact (Rx ..).trans h
  ·cases h
theorem ac4:aE ab abv:=ak (C:=C0) (A:=qU) afD afD cok_none mO (f:=Tryz.f261) (by kernel_rfl) λbs r h=>by
  split at h
  ·exact (xt ..).trans h
  ·cases h
theorem ix:ax ab ik ⟨.inl eT,false,[],0,λ_=>none⟩:=
 aY (C:=C0) (A:=A0) ac4 cok_none mO (f:=bO) (by kernel_rfl) (by kernel_rfl)
theorem qo:aE ab iC:= .ext oV ix <| ac4
theorem oC:ax ab eJ ⟨.inl jh,false,[],0,λ_=>none⟩:=
 aY (C:=C0) (A:=A0) qo cok_none mO (f:=b0) (by kernel_rfl) (by kernel_rfl)
theorem NC:aE ab (y1):= .ext oV ix <| .ext wZ oC <| ac4
theorem afB:aE ab aeJ:=ak (C:=C0) (A:=AU) ac4 NC cok_none mO (f:=Tryz.f249) (by kernel_rfl) λbs r h=>by
  split at h
  ·exact (Hu ..).trans h
  ·cases h
theorem af1:aE ab aea:=ak (C:=C0) (A:=AW) afB afB cok_none mO (f:=Tryz.f230) (by kernel_rfl) λbs r h=>by
  split at h
  ·exact (GV ..).trans h
  ·cases h
theorem agK:aE ab aeo:=ak (C:=C0) (A:=A0) af1 af1 cok_none mO (f:=Tryz.f229) (by kernel_rfl) λbs r h=>by
  split at h
  ·exact (JU ..).trans h
  ·cases h
theorem agv:aE ab aeG:=ak (C:=C0) (A:=C8) agK agK cok_none mO (f:=Tryz.f232) (by kernel_rfl) λbs r h=>by
  split at h
  ·exact (JT ..).trans h
  ·cases h
theorem af0:aE ab aeI:=ak (C:=C0) (A:=FT) agv agv cok_none mO (f:=Tryz.f141) (by kernel_rfl) λbs r h=>by
  split at h
  ·exact (Mb ..).trans h
  ·cases h
theorem agC:aE ab aeU:=ak (C:=C0) (A:=FC) af0 af0 cok_none mO (f:=Tryz.f199) (by kernel_rfl) λbs r h=>by
  split at h
  ·exact (KE ..).trans h
  ·cases h
theorem afs:aE ab aeT:=ak (C:=C0) (A:=Fb) agC agC cok_none mO (f:=Tryz.f140) (by kernel_rfl) λbs r h=>by
  split at h
  ·exact (KS ..).trans h
  ·cases h
theorem acB:aE ab aaX:=ak (C:=C0) (A:=A1) afs afs cok_none mO (f:=bC) (by kernel_rfl) λbs r h=>by
  split at h
  ·exact (tV ..).trans h
  ·cases h
theorem tF:COK ab (cY):=
 gH (eQ0 bC) (λcaps cv w ok hcap=>aQ (C:=C0) (A:=A1) afs cok_none mO (f:=bC) (by kernel_rfl) (by kernel_rfl) hcap (by kernel_rfl) λbs r h=>by
  split at h
  ·exact (tV ..).trans h
  ·cases h) <|
 cok_none
theorem iJ:ax ab gY ⟨.inl eO,false,[],0,λ_=>none⟩:=
 aY (C:=(cY)) (A:=A0) acB (tF) mO (f:=bB) (by kernel_rfl) (by kernel_rfl)
theorem p6:aE ab iD:= .ext px iJ <| acB
theorem oE:ax ab eL ⟨.inl ji,false,[],0,λ_=>none⟩:=
 aY (C:=(cY)) (A:=A0) p6 (tF) mO (f:=bR) (by kernel_rfl) (by kernel_rfl)
theorem Lp:aE ab (yP):= .ext px iJ <| .ext wW oE <| acB
theorem agE:aE ab ae1:=ak (C:=(cY)) (A:=Ai) acB Lp (tF) mO (f:=Tryz.f231) (by kernel_rfl) λbs r h=>by
  split at h
  ·exact (HB ..).trans h
  ·cases h
theorem afJ:aE ab aet:=ak (C:=C0) (A:=A0) agE agE cok_none mO (f:=Tryz.f171) (by kernel_rfl) λbs r h=>by
  split at h
  ·exact (JS ..).trans h
  ·cases h
theorem acH:aE ab abp:=ak (C:=C0) (A:=A1) afJ afJ cok_none mO (f:=Tryz.f233) (by kernel_rfl) λbs r h=>by
  split at h
  ·exact (NU ..).trans h
  ·cases h
theorem dN:ax ab iT ⟨.inl cK,false,[],0,λ_=>none⟩:=
 aY (C:=C0) (A:=eG) acH cok_none mO (f:=Tryz.f228) (by kernel_rfl) (by kernel_rfl)
theorem pO:aE ab gL:= .ext rr dN <| acH
theorem n9:ax ab nG ⟨.inl iA,false,[],0,λ_=>none⟩:=
 xn (C:=C0) (A:=A0) pO cok_none mO tY (f:=bf) (by kernel_rfl) (by kernel_rfl)
theorem Es:aE ab (td):= .ext rr dN <| .ext A8 n9 <| acH
theorem aga:aE ab ad7:=ak (C:=C0) (A:=A0) acH Es cok_none mO (f:=Tryz.f172) (by kernel_rfl) λbs r h=>by
  split at h
  ·exact (B4 ..).trans h
  ·cases h
theorem agl:aE ab aeF:=ak (C:=C0) (A:=HS) aga aga cok_none mO (f:=Tryz.f137) (by kernel_rfl) λbs r h=>by
  split at h
  ·exact (On ..).trans h
  ·cases h
theorem agW:aE ab afb:=ak (C:=C0) (A:=KM) agl agl cok_none mO (f:=Tryz.f247) (by kernel_rfl) λbs r h=>by
  split at h
  ·exact (RE ..).trans h
  ·cases h
theorem afR:aE ab aff:=ak (C:=C0) (A:=oZ) agW agW cok_none mO (f:=Tryz.f248) (by kernel_rfl) λbs r h=>by
  split at h
  ·exact (wb ..).trans h
  ·cases h
theorem ag9:aE ab aeh:=ak (C:=C0) (A:=CP) afR afR cok_none mO (f:=Tryz.f225) (by kernel_rfl) λbs r h=>by
  split at h
  ·exact (IZ ..).trans h
  ·cases h
theorem agD:aE ab afm:=ak (C:=C0) (A:=C4) ag9 ag9 cok_none mO (f:=Tryz.f168) (by kernel_rfl) λbs r h=>by
  split at h
  ·exact (JF ..).trans h
  ·cases h
theorem afE:aE ab aeW:=ak (C:=C0) (A:=LS) agD agD cok_none mO (f:=Tryz.f226) (by kernel_rfl) λbs r h=>by
  split at h
  ·exact (SI ..).trans h
  ·cases h
theorem ag5:aE ab aeZ:=ak (C:=C0) (A:=IU) afE afE cok_none mO (f:=Tryz.f227) (by kernel_rfl) λbs r h=>by
  split at h
  ·exact (NP ..).trans h
  ·cases h
theorem agi:aE ab aeD:=ak (C:=C0) (A:=C6) ag5 ag5 cok_none mO (f:=Tryz.f170) (by kernel_rfl) λbs r h=>by
  split at h
  ·exact (J3 ..).trans h
  ·cases h
theorem agJ:aE ab ac2:=ak (C:=C0) (A:=A1) agi agi cok_none mO (f:=Tryz.f246) (by kernel_rfl) λbs r h=>by
  split at h
  ·exact (R7 ..).trans h
  ·cases h
theorem agM:aE ab aft:= .ext (eQ0 Tryz.f223) (mq (C:=C0) (A:=A0) agJ cok_none mO (f:=Tryz.f223) (by kernel_rfl) (by kernel_rfl) (by kernel_rfl) (λvs bs r hl h=>by
  split at h
  ·rename_i heq;cases heq;exact (Cd ..).trans h
  ·rename_i heq;cases heq;simp at hl
  ·cases h) (λbs r h=>by
  split at h
  ·rename_i heq;cases heq
  ·rename_i heq;cases heq;exact (xj ..).trans (yb h)
  ·cases h)) agJ
theorem agZ:aE ab aeE:=ak (C:=C0) (A:=F8) agM agM cok_none mO (f:=Tryz.f224) (by kernel_rfl) λbs r h=>by
  split at h
  ·exact (Ny ..).trans h
  ·cases h
theorem V1:aE ab SN:=ak (C:=C0) (A:=zE) agZ agZ cok_none mO (f:=Tryz.f166) (by kernel_rfl) λbs r h=>by
  split at h
  ·exact (HI ..).trans h
  ·cases h
theorem aR:ax ab cT ⟨.inl aO,false,[],0,λ_=>none⟩:=
 aY (C:=C0) (A:=A0) V1 cok_none mO (f:=Tryz.f212) (by kernel_rfl) (by kernel_rfl)
theorem pQ:aE ab gG:= .ext dT aR <| V1
theorem bk:ax ab cI ⟨.inl bg,false,[],0,λ_=>none⟩:=
 aY (C:=C0) (A:=A0) pQ cok_none mO (f:=bA) (by kernel_rfl) (by kernel_rfl)
theorem oD:aE ab gq:= .ext dT aR <| .ext dR bk <| V1
theorem bN:ax ab eC ⟨.inl bu,false,[],0,λ_=>none⟩:=
 aY (C:=C0) (A:=A0) oD cok_none mO (f:=Tryz.f215) (by kernel_rfl) (by kernel_rfl)
theorem nZ:aE ab fA:= .ext dT aR <| .ext dR bk <| .ext jS bN <| V1
theorem cM:ax ab fT ⟨.inl cf,false,[],0,λ_=>none⟩:=
 aY (C:=C0) (A:=A0) nZ cok_none mO (f:=Tryz.f214) (by kernel_rfl) (by kernel_rfl)
theorem oH:aE ab fW:= .ext dT aR <| .ext dR bk <| .ext jS bN <| .ext mX cM <| V1
theorem fj:ax ab kS ⟨.inl dh,false,[],0,λ_=>none⟩:=
 aY (C:=C0) (A:=A0) oH cok_none mO (f:=Tryz.f217) (by kernel_rfl) (by kernel_rfl)
theorem m6:aE ab fg:= .ext dT aR <| .ext dR bk <| .ext jS bN <| .ext mX cM <| .ext tW fj <| V1
theorem lN:ax ab mW ⟨.inl fD,false,[],0,λ_=>none⟩:=
 aY (C:=C0) (A:=A0) m6 cok_none mO (f:=Tryz.f216) (by kernel_rfl) (by kernel_rfl)
theorem I8:aE ab (wJ):= .ext dT aR <| .ext dR bk <| .ext jS bN <| .ext mX cM <| .ext tW fj <| .ext (eQ0 Tryz.f216) lN <| V1
theorem aaZ:aE ab ZJ:=ak (C:=C0) (A:=y0) V1 I8 cok_none mO (f:=Tryz.f159) (by kernel_rfl) λbs r h=>by
  split at h
  ·exact (FB ..).trans h
  ·cases h
theorem cG:ax ab gm ⟨.inl bS,false,[],0,λ_=>none⟩:=
 aY (C:=C0) (A:=A0) aaZ cok_none mO (f:=Tryz.f219) (by kernel_rfl) (by kernel_rfl)
theorem pn:aE ab gz:= .ext mV cG <| aaZ
theorem fE:ax ab cI ⟨.inl dr,false,[],0,λ_=>none⟩:=
 aY (C:=C0) (A:=A0) pn cok_none mO (f:=bA) (by kernel_rfl) (by kernel_rfl)
theorem o9:aE ab gy:= .ext mV cG <| .ext dR fE <| aaZ
theorem nh:ax ab rO ⟨.inl gP,false,[],0,λ_=>none⟩:=
 aY (C:=C0) (A:=A0) o9 cok_none mO (f:=Tryz.f220) (by kernel_rfl) (by kernel_rfl)
theorem Gs:aE ab (vD):= .ext mV cG <| .ext dR fE <| .ext (eQ0 Tryz.f220) nh <| aaZ
theorem afL:aE ab aej:=ak (C:=C0) (A:=xe) aaZ Gs cok_none mO (f:=Tryz.f160) (by kernel_rfl) λbs r h=>by
  split at h
  ·exact (DZ ..).trans h
  ·cases h
theorem agV:aE ab aeq:=ak (C:=C0) (A:=Cx) afL afL cok_none mO (f:=Tryz.f94) (by kernel_rfl) λbs r h=>by
  split at h
  ·exact (Jq ..).trans h
  ·cases h
theorem agd:aE ab ae8:=ak (C:=C0) (A:=A1) agV agV cok_none mO (f:=Tryz.f163) (by kernel_rfl) λbs r h=>by
  split at h
  ·exact (Jd ..).trans h
  ·cases h
theorem af4:aE ab afe:=ak (C:=C0) (A:=A0) agd agd cok_none mO (f:=Tryz.f165) (by kernel_rfl) λbs r h=>by
  split at h
  ·exact (Jm ..).trans h
  ·cases h
theorem ahd:aE ab aep:=ak (C:=C0) (A:=A0) af4 af4 cok_none mO (f:=Tryz.f167) (by kernel_rfl) λbs r h=>by
  split at h
  ·exact (J6 ..).trans h
  ·cases h
theorem adE:aE ab aak:=ak (C:=C0) (A:=A0) ahd ahd cok_none mO (f:=Tryz.f169) (by kernel_rfl) λbs r h=>by
  split at h
  ·exact (J0 ..).trans h
  ·cases h
theorem gi:ax ab mF ⟨.inl dG,false,[],0,λ_=>none⟩:=
 aY (C:=C0) (A:=iL) adE cok_none mO (f:=Tryz.f162) (by kernel_rfl) (by kernel_rfl)
theorem rK:aE ab jB:= .ext vw gi <| adE
theorem pP:ax ab nG ⟨.inl kb,false,[],0,λ_=>none⟩:=
 xn (C:=C0) (A:=A0) rK cok_none mO tY (f:=bf) (by kernel_rfl) (by kernel_rfl)
theorem KD:aE ab (yJ):= .ext vw gi <| .ext A8 pP <| adE
theorem Ub:aE ab R8:=ak (C:=C0) (A:=zW) adE KD cok_none mO (f:=Tryz.f96) (by kernel_rfl) λbs r h=>by
  split at h
  ·exact (HD ..).trans h
  ·cases h
theorem bh:ax ab dE ⟨.inl bc,false,[],0,λ_=>none⟩:=
 aY (C:=C0) (A:=jW) Ub cok_none mO (f:=Tryz.f90) (by kernel_rfl) (by kernel_rfl)
theorem rD:aE ab jx:= .ext fI bh <| Ub
theorem bK:ax ab eM ⟨.inl bz,false,[],0,λ_=>none⟩:=
 aY (C:=C0) (A:=ka) rD cok_none mO (f:=Tryz.f91) (by kernel_rfl) (by kernel_rfl)
theorem rN:aE ab jv:= .ext fI bh <| .ext jl bK <| Ub
theorem cy:ax ab gC ⟨.inl cj,false,[],0,λ_=>none⟩:=
 aY (C:=C0) (A:=A0) rN cok_none mO (f:=Tryz.f93) (by kernel_rfl) (by kernel_rfl)
theorem rU:aE ab ju:= .ext fI bh <| .ext jl bK <| .ext mE cy <| Ub
theorem dH:ax ab j4 ⟨.inl cW,false,[],0,λ_=>none⟩:=
 aY (C:=C0) (A:=A0) rU cok_none mO (f:=Tryz.f95) (by kernel_rfl) (by kernel_rfl)
theorem rA:aE ab jz:= .ext fI bh <| .ext jl bK <| .ext mE cy <| .ext qj dH <| Ub
theorem iE:ax ab nM ⟨.inl eX,false,[],0,λ_=>none⟩:=
 aY (C:=C0) (A:=A0) rA cok_none mO (f:=Tryz.f97) (by kernel_rfl) (by kernel_rfl)
theorem tm:aE ab kP:= .ext fI bh <| .ext jl bK <| .ext mE cy <| .ext qj dH <| .ext wY iE <| Ub
theorem rq:ax ab vQ ⟨.inl mi,false,[],0,λ_=>none⟩:=
 aY (C:=C0) (A:=A0) tm cok_none mO (f:=Tryz.f49) (by kernel_rfl) (by kernel_rfl)
theorem Rl:aE ab (CR):= .ext fI bh <| .ext jl bK <| .ext mE cy <| .ext qj dH <| .ext wY iE <| .ext (eQ0 Tryz.f49) rq <| Ub
theorem af9:aE ab acX:=ak (C:=C0) (A:=E6) Ub Rl cok_none mO (f:=Tryz.f22) (by kernel_rfl) λbs r h=>by
  split at h
  ·exact (Mw ..).trans h
  ·cases h
theorem age:aE ab aev:= .ext (eQ0 Tryz.f45) (mq (C:=C0) (A:=A0) af9 cok_none mO (f:=Tryz.f45) (by kernel_rfl) (by kernel_rfl) (by kernel_rfl) (λvs bs r hl h=>by
  split at h
  ·rename_i heq;cases heq;exact (y5 ..).trans h
  ·rename_i heq;cases heq;simp at hl
  ·cases h) (λbs r h=>by
  split at h
  ·rename_i heq;cases heq
  ·rename_i heq;cases heq;exact (uG ..).trans (yb h)
  ·cases h)) af9
theorem agj:aE ab aeM:=ak (C:=C0) (A:=CL) age age cok_none mO (f:=Tryz.f88) (by kernel_rfl) λbs r h=>by
  split at h
  ·exact (Jn ..).trans h
  ·cases h
theorem agN:aE ab ad9:=ak (C:=C0) (A:=A0) agj agj cok_none mO (f:=Tryz.f48) (by kernel_rfl) λbs r h=>by
  split at h
  ·exact (Wh ..).trans h
  ·cases h
theorem ag3:aE ab aen:=ak (C:=C0) (A:=Ll) agN agN cok_none mO (f:=Tryz.f16) (by kernel_rfl) λbs r h=>by
  split at h
  ·exact (SX ..).trans h
  ·cases h
theorem afF:aE ab adv:=ak (C:=C0) (A:=CJ) ag3 ag3 cok_none mO (f:=Tryz.f82) (by kernel_rfl) λbs r h=>by
  split at h
  ·exact (JG ..).trans h
  ·cases h
theorem ac1:aE ab adD:= .ext (eQ0 Tryz.f44) (mq (C:=C0) (A:=A0) afF cok_none mO (f:=Tryz.f44) (by kernel_rfl) (by kernel_rfl) (by kernel_rfl) (λvs bs r hl h=>by
  split at h
  ·rename_i heq;cases heq;exact (z8 ..).trans h
  ·rename_i heq;cases heq;simp at hl
  ·cases h) (λbs r h=>by
  split at h
  ·rename_i heq;cases heq
  ·rename_i heq;cases heq;exact (we ..).trans (yb h)
  ·cases h)) afF
theorem KG {C:IV->List Nat->List (List IV)->Option (List IV)} (a:COK ab C):ax ab yt ⟨.pure,true,[1],0,λl=>match l with | [[b],[c,d],[e]]=>jE C b c d e | _=>none⟩:=
 lz (C:=C) (A:=FO) ac1 a mO (f:=Tryz.f83) (by kernel_rfl) (by kernel_rfl) (by kernel_rfl) rfl λbs r h=>by
  split at h
  ·exact (NA C ..).trans h
  ·cases h
theorem afS:aE ab ae4:=ak (C:=C0) (A:=A1) ac1 ac1 cok_none mO (f:=b3) (by kernel_rfl) λbs r h=>by
  split at h
  ·exact (uW ..).trans h
  ·cases h
theorem zJ:COK ab (gD):=
 gH (eQ0 b3) (λcaps cv w ok hcap=>aQ (C:=C0) (A:=A1) ac1 cok_none mO (f:=b3) (by kernel_rfl) (by kernel_rfl) hcap (by kernel_rfl) λbs r h=>by
  split at h
  ·exact (uW ..).trans h
  ·cases h) <|
 gH (eQ0 b4) (λcaps cv w ok hcap=>aQ (C:=C0) (A:=A1) G51 cok_none mO (f:=b4) (by kernel_rfl) (by kernel_rfl) hcap (by kernel_rfl) λbs r h=>by
  split at h
  ·exact (pV ..).trans h
  ·cases h) <|
 cok_none
theorem ME:aE ab (yE):= .ext (eQ0 Tryz.f83) (KG (zJ)) <| afS
theorem agA:aE ab ad8:=ak (C:=(gD)) (A:=zK) afS ME (zJ) mO (f:=Tryz.f46) (by kernel_rfl) λbs r h=>by
  split at h
  ·exact (GD ..).trans h
  ·cases h
theorem agb:aE ab ac3:=ak (C:=C0) (A:=HY) agA agA cok_none mO (f:=Tryz.f25) (by kernel_rfl) λbs r h=>by
  split at h
  ·exact (PQ ..).trans h
  ·cases h
theorem afW:aE ab aeS:= .ext (eQ0 Tryz.f43) (mq (C:=C0) (A:=lQ) agb cok_none mO (f:=Tryz.f43) (by kernel_rfl) (by kernel_rfl) (by kernel_rfl) (λvs bs r hl h=>by
  split at h
  ·rename_i heq;cases heq;exact (xx ..).trans h
  ·rename_i heq;cases heq;simp at hl
  ·cases h) (λbs r h=>by
  split at h
  ·rename_i heq;cases heq
  ·rename_i heq;cases heq;exact (tj ..).trans (yb h)
  ·cases h)) agb
theorem agH:aE ab aee:=ak (C:=C0) (A:=EA) afW afW cok_none mO (f:=Tryz.f81) (by kernel_rfl) λbs r h=>by
  split at h
  ·exact (M6 ..).trans h
  ·cases h
theorem ag7:aE ab acp:= .ext (eQ0 Tryz.f42) (mq (C:=C0) (A:=uw) agH cok_none mO (f:=Tryz.f42) (by kernel_rfl) (by kernel_rfl) (by kernel_rfl) (λvs bs r hl h=>by
  split at h
  ·rename_i heq;cases heq;exact (AG ..).trans h
  ·cases h) (λbs r h=>by
  split at h
  ·rename_i heq;cases heq
  ·cases h)) agH
theorem agk:aE ab afd:= .ext (eQ0 Tryz.f12) (mq (C:=C0) (A:=po) ag7 cok_none mO (f:=Tryz.f12) (by kernel_rfl) (by kernel_rfl) (by kernel_rfl) (λvs bs r hl h=>by
  split at h
  ·rename_i heq;cases heq;exact (B0 ..).trans h
  ·rename_i heq;cases heq;simp at hl
  ·cases h) (λbs r h=>by
  split at h
  ·rename_i heq;cases heq
  ·rename_i heq;cases heq;exact (wL ..).trans (yb h)
  ·cases h)) ag7
theorem afQ:aE ab acW:=ak (C:=C0) (A:=A0) agk agk cok_none mO (f:=Tryz.f24) (by kernel_rfl) λbs r h=>by
  split at h
  ·exact (LW ..).trans h
  ·cases h
theorem agF:aE ab ae6:= .ext (eQ0 Tryz.f15) (mq (C:=C0) (A:=A0) afQ cok_none mO (f:=Tryz.f15) (by kernel_rfl) (by kernel_rfl) (by kernel_rfl) (λvs bs r hl h=>by
  split at h
  ·rename_i heq;cases heq;exact (Cn ..).trans h
  ·rename_i heq;cases heq;simp at hl
  ·cases h) (λbs r h=>by
  split at h
  ·rename_i heq;cases heq
  ·rename_i heq;cases heq;exact (wP ..).trans (yb h)
  ·cases h)) afQ
theorem ac0:aE ab aaA:=ak (C:=C0) (A:=Gb) agF agF cok_none mO (f:=Tryz.f40) (by kernel_rfl) λbs r h=>by
  split at h
  ·exact h
  ·cases h
theorem mK:ax ab p8 ⟨.inl jP,false,[],0,λ_=>none⟩:=
 aY (C:=C0) (A:=oQ) ac0 cok_none mO (f:=b2) (by kernel_rfl) (by kernel_rfl)
theorem yc:aE ab oq:= .ext zQ mK <| ac0
theorem uJ:ax ab DE ⟨.inl oU,false,[],0,λ_=>none⟩:=
 aY (C:=C0) (A:=pd) yc cok_none mO (f:=Tryz.f27) (by kernel_rfl) (by kernel_rfl)
theorem V5:aE ab (ER):= .ext zQ mK <| .ext (eQ0 Tryz.f27) uJ <| ac0
theorem agS:aE ab acu:=ak (C:=C0) (A:=HZ) ac0 V5 cok_none mO (f:=Tryz.f9) (by kernel_rfl) λbs r h=>by
  split at h
  ·exact (OH ..).trans h
  ·cases h
theorem agn:aE ab afi:= .ext (eQ0 Tryz.f11) (mq (C:=C0) (A:=A0) agS cok_none mO (f:=Tryz.f11) (by kernel_rfl) (by kernel_rfl) (by kernel_rfl) (λvs bs r hl h=>by
  split at h
  ·rename_i heq;cases heq;exact (Cl ..).trans h
  ·rename_i heq;cases heq;simp at hl
  ·cases h) (λbs r h=>by
  split at h
  ·rename_i heq;cases heq
  ·rename_i heq;cases heq;exact (wg ..).trans (yb h)
  ·cases h)) agS
theorem agY:aE ab aei:=ak (C:=C0) (A:=CQ) agn agn cok_none mO (f:=Tryz.f13) (by kernel_rfl) λbs r h=>by
  split at h
  ·exact (Ju ..).trans h
  ·cases h
theorem ag0:aE ab afn:=ak (C:=C0) (A:=A1) agY agY cok_none mO (f:=Tryz.f205) (by kernel_rfl) λbs r h=>by
  split at h
  ·exact (MN ..).trans h
  ·cases h
theorem agt:aE ab aeH:=ak (C:=C0) (A:=CC) ag0 ag0 cok_none mO (f:=Tryz.f206) (by kernel_rfl) λbs r h=>by
  split at h
  ·exact (I6 ..).trans h
  ·cases h
theorem ag4:aE ab aeu:=ak (C:=C0) (A:=A1) agt agt cok_none mO (f:=Tryz.f207) (by kernel_rfl) λbs r h=>by
  split at h
  ·exact (PD ..).trans h
  ·cases h
theorem afX:aE ab afv:=ak (C:=C0) (A:=FA) ag4 ag4 cok_none mO (f:=Tryz.f152) (by kernel_rfl) λbs r h=>by
  split at h
  ·exact (L7 ..).trans h
  ·cases h
theorem af5:aE ab aeR:=ak (C:=C0) (A:=A1) afX afX cok_none mO (f:=Tryz.f87) (by kernel_rfl) λbs r h=>by
  split at h
  ·exact (Nu ..).trans h
  ·cases h
theorem agw:aE ab aeB:=ak (C:=C0) (A:=Dc) af5 af5 cok_none mO (f:=Tryz.f47) (by kernel_rfl) λbs r h=>by
  split at h
  ·exact (JE ..).trans h
  ·cases h
theorem afO:aE ab acK:=ak (C:=C0) (A:=Fk) agw agw cok_none mO (f:=Tryz.f14) (by kernel_rfl) λbs r h=>by
  split at h
  ·exact (Mo ..).trans h
  ·cases h
theorem aeX:aE ab acv:= .ext (eQ0 Tryz.f21) (mq (C:=C0) (A:=A0) afO cok_none mO (f:=Tryz.f21) (by kernel_rfl) (by kernel_rfl) (by kernel_rfl) (λvs bs r hl h=>by
  split at h
  ·rename_i heq;cases heq;exact (Ch ..).trans h
  ·rename_i heq;cases heq;simp at hl
  ·cases h) (λbs r h=>by
  split at h
  ·rename_i heq;cases heq
  ·rename_i heq;cases heq;exact (w9 ..).trans (yb h)
  ·cases h)) afO
theorem pr:ax ab p8 ⟨.inl jw,false,[],0,λ_=>none⟩:=
 aY (C:=C0) (A:=jy) aeX cok_none mO (f:=b2) (by kernel_rfl) (by kernel_rfl)
theorem DX:aE ab (se):= .ext zQ pr <| aeX
theorem ajb:aE ab ai1:=ak (C:=C0) (A:=ue) aeX DX cok_none mO (f:=Tryz.f5) (by kernel_rfl) λbs r h=>by
  split at h
  ·exact (Bi ..).trans h
  ·cases h
theorem Am:ax ab tD sV:=aE.own ajb
end Go.AM

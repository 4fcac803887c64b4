/- The contracts of all functions that are reached. -/
import Derived.Test.YtgoenohknokcmaaGreatCk
import Derived.Test.YtgoenohknokcmaaGreatWk
import Derived.Test.YtgoenohknokcmaaGreatHd
import Derived.Test.YtgoenohknokcmaaGreatHe
import Derived.Test.YtgoenohknokcmaaGreatHm
import Derived.Test.YtgoenohknokcmaaGreatHq
import Derived.Test.YtgoenohknokcmaaGreatHr
import Derived.Test.YtgoenohknokcmaaGreatDe
import Derived.Test.YtgoenohknokcmaaGreatBd
import Derived.Test.YtgoenohknokcmaaGreatGw
import Derived.Test.YtgoenohknokcmaaGreatGd
import Derived.Test.YtgoenohknokcmaaGreatTk
import Derived.Test.YtgoenohknokcmaaGreatAf
import Derived.Test.YtgoenohknokcmaaGreatAe
set_option linter.unusedVariables false
set_option linter.unusedSimpArgs false
set_option maxRecDepth 100000
namespace Go.AM
open Go.Proofs
theorem mO:Tryz.prog.follows .mixedOrders=true:=by kernel_rfl
theorem DB:Enters Tryz.prog tY:=enters_of (f:=Tryz.f10) (by kernel_rfl) (by kernel_rfl) (by kernel_rfl)
theorem zU:Enters Tryz.prog qq:=enters_of (f:=Tryz.f12) (by kernel_rfl) (by kernel_rfl) (by kernel_rfl)
theorem zK:Enters Tryz.prog qz:=enters_of (f:=Tryz.f15) (by kernel_rfl) (by kernel_rfl) (by kernel_rfl)
theorem uO:Enters Tryz.prog nR:=enters_of (f:=Tryz.f20) (by kernel_rfl) (by kernel_rfl) (by kernel_rfl)
theorem QC:Enters Tryz.prog Ab:=enters_of (f:=Tryz.f27) (by kernel_rfl) (by kernel_rfl) (by kernel_rfl)
theorem I3:Enters Tryz.prog Aw:=enters_of (f:=Tryz.f31) (by kernel_rfl) (by kernel_rfl) (by kernel_rfl)
theorem zN:Enters Tryz.prog qG:=enters_of (f:=Tryz.f33) (by kernel_rfl) (by kernel_rfl) (by kernel_rfl)
theorem xO:Enters Tryz.prog pF:=enters_of (f:=Tryz.f34) (by kernel_rfl) (by kernel_rfl) (by kernel_rfl)
theorem zB:Enters Tryz.prog qw:=enters_of (f:=Tryz.f36) (by kernel_rfl) (by kernel_rfl) (by kernel_rfl)
theorem MB:Enters Tryz.prog vT:=enters_of (f:=Tryz.f37) (by kernel_rfl) (by kernel_rfl) (by kernel_rfl)
theorem vQ:Enters Tryz.prog oD:=enters_of (f:=Tryz.f38) (by kernel_rfl) (by kernel_rfl) (by kernel_rfl)
theorem Mc:Enters Tryz.prog wq:=enters_of (f:=Tryz.f39) (by kernel_rfl) (by kernel_rfl) (by kernel_rfl)
theorem xr:Enters Tryz.prog jJ:=enters_of (f:=Tryz.f41) (by kernel_rfl) (by kernel_rfl) (by kernel_rfl)
theorem xL:Enters Tryz.prog p7:=enters_of (f:=Tryz.f42) (by kernel_rfl) (by kernel_rfl) (by kernel_rfl)
theorem vq:Enters Tryz.prog nP:=enters_of (f:=Tryz.f43) (by kernel_rfl) (by kernel_rfl) (by kernel_rfl)
theorem yo:Enters Tryz.prog qe:=enters_of (f:=Tryz.f44) (by kernel_rfl) (by kernel_rfl) (by kernel_rfl)
theorem xt:Enters Tryz.prog ox:=enters_of (f:=Tryz.f45) (by kernel_rfl) (by kernel_rfl) (by kernel_rfl)
theorem HF:Enters Tryz.prog rA:=enters_of (f:=Tryz.f49) (by kernel_rfl) (by kernel_rfl) (by kernel_rfl)
theorem nc:Enters Tryz.prog gb:=enters_of (f:=Tryz.f59) (by kernel_rfl) (by kernel_rfl) (by kernel_rfl)
theorem PY:Enters Tryz.prog zG:=enters_of (f:=Tryz.f60) (by kernel_rfl) (by kernel_rfl) (by kernel_rfl)
theorem ql:Enters Tryz.prog jN:=enters_of (f:=Tryz.f62) (by kernel_rfl) (by kernel_rfl) (by kernel_rfl)
theorem P1:Enters Tryz.prog FK:=enters_of (f:=Tryz.f64) (by kernel_rfl) (by kernel_rfl) (by kernel_rfl)
theorem zY:Enters Tryz.prog qE:=enters_of (f:=Tryz.f65) (by kernel_rfl) (by kernel_rfl) (by kernel_rfl)
theorem zb:Enters Tryz.prog mm:=enters_of (f:=Tryz.f66) (by kernel_rfl) (by kernel_rfl) (by kernel_rfl)
theorem xX:Enters Tryz.prog pW:=enters_of (f:=Tryz.f68) (by kernel_rfl) (by kernel_rfl) (by kernel_rfl)
theorem oz:Enters Tryz.prog gx:=enters_of (f:=Tryz.f69) (by kernel_rfl) (by kernel_rfl) (by kernel_rfl)
theorem ND:Enters Tryz.prog wQ:=enters_of (f:=Tryz.f72) (by kernel_rfl) (by kernel_rfl) (by kernel_rfl)
theorem tj:Enters Tryz.prog mS:=enters_of (f:=Tryz.f73) (by kernel_rfl) (by kernel_rfl) (by kernel_rfl)
theorem J9:Enters Tryz.prog Ba:=enters_of (f:=Tryz.f76) (by kernel_rfl) (by kernel_rfl) (by kernel_rfl)
theorem vW:Enters Tryz.prog jC:=enters_of (f:=Tryz.f78) (by kernel_rfl) (by kernel_rfl) (by kernel_rfl)
theorem Ks:Enters Tryz.prog tc:=enters_of (f:=Tryz.f83) (by kernel_rfl) (by kernel_rfl) (by kernel_rfl)
theorem Ck:Enters Tryz.prog kF:=enters_of (f:=Tryz.f84) (by kernel_rfl) (by kernel_rfl) (by kernel_rfl)
theorem wk:Enters Tryz.prog fK:=enters_of (f:=Tryz.f85) (by kernel_rfl) (by kernel_rfl) (by kernel_rfl)
theorem uW:Enters Tryz.prog iY:=enters_of (f:=Tryz.f86) (by kernel_rfl) (by kernel_rfl) (by kernel_rfl)
theorem dU:Enters Tryz.prog cz:=enters_of (f:=Tryz.f90) (by kernel_rfl) (by kernel_rfl) (by kernel_rfl)
theorem fN:Enters Tryz.prog dt:=enters_of (f:=Tryz.f91) (by kernel_rfl) (by kernel_rfl) (by kernel_rfl)
theorem jd:Enters Tryz.prog eE:=enters_of (f:=Tryz.f93) (by kernel_rfl) (by kernel_rfl) (by kernel_rfl)
theorem na:Enters Tryz.prog gQ:=enters_of (f:=Tryz.f95) (by kernel_rfl) (by kernel_rfl) (by kernel_rfl)
theorem sJ:Enters Tryz.prog kA:=enters_of (f:=Tryz.f97) (by kernel_rfl) (by kernel_rfl) (by kernel_rfl)
theorem FL:Enters Tryz.prog kn:=enters_of (f:=Tryz.f98) (by kernel_rfl) (by kernel_rfl) (by kernel_rfl)
theorem PW:Enters Tryz.prog zD:=enters_of (f:=Tryz.f99) (by kernel_rfl) (by kernel_rfl) (by kernel_rfl)
theorem Hr:Enters Tryz.prog jV:=enters_of (f:=Tryz.f101) (by kernel_rfl) (by kernel_rfl) (by kernel_rfl)
theorem Hw:Enters Tryz.prog j6:=enters_of (f:=Tryz.f104) (by kernel_rfl) (by kernel_rfl) (by kernel_rfl)
theorem Ii:Enters Tryz.prog jX:=enters_of (f:=Tryz.f106) (by kernel_rfl) (by kernel_rfl) (by kernel_rfl)
theorem Ip:Enters Tryz.prog ko:=enters_of (f:=Tryz.f108) (by kernel_rfl) (by kernel_rfl) (by kernel_rfl)
theorem JA:Enters Tryz.prog sW:=enters_of (f:=Tryz.f109) (by kernel_rfl) (by kernel_rfl) (by kernel_rfl)
theorem CW:Enters Tryz.prog gL:=enters_of (f:=Tryz.f110) (by kernel_rfl) (by kernel_rfl) (by kernel_rfl)
theorem Cu:Enters Tryz.prog gN:=enters_of (f:=Tryz.f112) (by kernel_rfl) (by kernel_rfl) (by kernel_rfl)
theorem vw:Enters Tryz.prog jK:=enters_of (f:=Tryz.f113) (by kernel_rfl) (by kernel_rfl) (by kernel_rfl)
theorem ff:Enters Tryz.prog b9:=enters_of (f:=Tryz.f116) (by kernel_rfl) (by kernel_rfl) (by kernel_rfl)
theorem Cq:Enters Tryz.prog kE:=enters_of (f:=Tryz.f117) (by kernel_rfl) (by kernel_rfl) (by kernel_rfl)
theorem vg:Enters Tryz.prog iV:=enters_of (f:=Tryz.f118) (by kernel_rfl) (by kernel_rfl) (by kernel_rfl)
theorem oq:Enters Tryz.prog ik:=enters_of (f:=Tryz.f122) (by kernel_rfl) (by kernel_rfl) (by kernel_rfl)
theorem oL:Enters Tryz.prog en:=enters_of (f:=Tryz.f125) (by kernel_rfl) (by kernel_rfl) (by kernel_rfl)
theorem GS:Enters Tryz.prog nr:=enters_of (f:=Tryz.f126) (by kernel_rfl) (by kernel_rfl) (by kernel_rfl)
theorem oB:Enters Tryz.prog ee:=enters_of (f:=Tryz.f132) (by kernel_rfl) (by kernel_rfl) (by kernel_rfl)
theorem nI:Enters Tryz.prog fL:=enters_of (f:=Tryz.f133) (by kernel_rfl) (by kernel_rfl) (by kernel_rfl)
theorem xP:Enters Tryz.prog pZ:=enters_of (f:=Tryz.f138) (by kernel_rfl) (by kernel_rfl) (by kernel_rfl)
theorem xU:Enters Tryz.prog kR:=enters_of (f:=Tryz.f142) (by kernel_rfl) (by kernel_rfl) (by kernel_rfl)
theorem Kl:Enters Tryz.prog tl:=enters_of (f:=Tryz.f153) (by kernel_rfl) (by kernel_rfl) (by kernel_rfl)
theorem ln:Enters Tryz.prog dG:=enters_of (f:=Tryz.f155) (by kernel_rfl) (by kernel_rfl) (by kernel_rfl)
theorem I8:Enters Tryz.prog oY:=enters_of (f:=Tryz.f156) (by kernel_rfl) (by kernel_rfl) (by kernel_rfl)
theorem wo:Enters Tryz.prog jF:=enters_of (f:=Tryz.f157) (by kernel_rfl) (by kernel_rfl) (by kernel_rfl)
theorem wa:Enters Tryz.prog jT:=enters_of (f:=Tryz.f161) (by kernel_rfl) (by kernel_rfl) (by kernel_rfl)
theorem qF:Enters Tryz.prog jk:=enters_of (f:=Tryz.f162) (by kernel_rfl) (by kernel_rfl) (by kernel_rfl)
theorem oV:Enters Tryz.prog dZ:=enters_of (f:=Tryz.f174) (by kernel_rfl) (by kernel_rfl) (by kernel_rfl)
theorem CE:Enters Tryz.prog kD:=enters_of (f:=Tryz.f175) (by kernel_rfl) (by kernel_rfl) (by kernel_rfl)
theorem CT:Enters Tryz.prog kx:=enters_of (f:=Tryz.f178) (by kernel_rfl) (by kernel_rfl) (by kernel_rfl)
theorem vU:Enters Tryz.prog pa:=enters_of (f:=Tryz.f181) (by kernel_rfl) (by kernel_rfl) (by kernel_rfl)
theorem EP:Enters Tryz.prog qf:=enters_of (f:=Tryz.f185) (by kernel_rfl) (by kernel_rfl) (by kernel_rfl)
theorem vu:Enters Tryz.prog oy:=enters_of (f:=Tryz.f189) (by kernel_rfl) (by kernel_rfl) (by kernel_rfl)
theorem qX:Enters Tryz.prog fM:=enters_of (f:=Tryz.f191) (by kernel_rfl) (by kernel_rfl) (by kernel_rfl)
theorem mL:Enters Tryz.prog eX:=enters_of (f:=Tryz.f197) (by kernel_rfl) (by kernel_rfl) (by kernel_rfl)
theorem wc:Enters Tryz.prog jH:=enters_of (f:=Tryz.f200) (by kernel_rfl) (by kernel_rfl) (by kernel_rfl)
theorem Fc:Enters Tryz.prog mn:=enters_of (f:=Tryz.f208) (by kernel_rfl) (by kernel_rfl) (by kernel_rfl)
theorem MM:Enters Tryz.prog n_snap_open:=enters_of (f:=Tryz.f211) (by kernel_rfl) (by kernel_rfl) (by kernel_rfl)
theorem cJ:Enters Tryz.prog bU:=enters_of (f:=Tryz.f212) (by kernel_rfl) (by kernel_rfl) (by kernel_rfl)
theorem cK:Enters Tryz.prog bJ:=enters_of (f:=Tryz.f213) (by kernel_rfl) (by kernel_rfl) (by kernel_rfl)
theorem jD:Enters Tryz.prog dW:=enters_of (f:=Tryz.f214) (by kernel_rfl) (by kernel_rfl) (by kernel_rfl)
theorem gm:Enters Tryz.prog cZ:=enters_of (f:=Tryz.f215) (by kernel_rfl) (by kernel_rfl) (by kernel_rfl)
theorem vE:Enters Tryz.prog jz:=enters_of (f:=Tryz.f216) (by kernel_rfl) (by kernel_rfl) (by kernel_rfl)
theorem pS:Enters Tryz.prog ij:=enters_of (f:=Tryz.f217) (by kernel_rfl) (by kernel_rfl) (by kernel_rfl)
theorem jB:Enters Tryz.prog eb:=enters_of (f:=Tryz.f219) (by kernel_rfl) (by kernel_rfl) (by kernel_rfl)
theorem CX:Enters Tryz.prog om:=enters_of (f:=Tryz.f220) (by kernel_rfl) (by kernel_rfl) (by kernel_rfl)
theorem zo:Enters Tryz.prog qy:=enters_of (f:=Tryz.f223) (by kernel_rfl) (by kernel_rfl) (by kernel_rfl)
theorem nL:Enters Tryz.prog fJ:=enters_of (f:=Tryz.f228) (by kernel_rfl) (by kernel_rfl) (by kernel_rfl)
theorem O4:Enters Tryz.prog zX:=enters_of (f:=Tryz.f236) (by kernel_rfl) (by kernel_rfl) (by kernel_rfl)
theorem mz:Enters Tryz.prog fj:=enters_of (f:=Tryz.f250) (by kernel_rfl) (by kernel_rfl) (by kernel_rfl)
theorem B7:Enters Tryz.prog mX:=enters_of (f:=Tryz.f251) (by kernel_rfl) (by kernel_rfl) (by kernel_rfl)
theorem BG:Enters Tryz.prog nj:=enters_of (f:=Tryz.f256) (by kernel_rfl) (by kernel_rfl) (by kernel_rfl)
theorem lK:Enters Tryz.prog fq:=enters_of (f:=Tryz.f260) (by kernel_rfl) (by kernel_rfl) (by kernel_rfl)
theorem sf:Enters Tryz.prog dh:=enters_of (f:=Tryz.f262) (by kernel_rfl) (by kernel_rfl) (by kernel_rfl)
theorem sH:Enters Tryz.prog dm:=enters_of (f:=Tryz.f266) (by kernel_rfl) (by kernel_rfl) (by kernel_rfl)
theorem G1:ak Tryz.prog T1:= .ext xr uV G0
theorem G2:ak Tryz.prog T2:= .ext nc mF G1
theorem G3:ak Tryz.prog T3:= .ext ql pD G2
theorem G4:ak Tryz.prog T4:= .ext oz nT G3
theorem G5:ak Tryz.prog T5:= .ext vW vb G4
theorem G6:ak Tryz.prog T6:= .ext uW tW G5
theorem G7:ak Tryz.prog T7:= .ext vw vk G6
theorem G8:ak Tryz.prog T8:= .ext vg tx G7
theorem G9:ak Tryz.prog T9:= .ext oq nz G8
theorem He:ah Tryz.prog tl Cd:=
 M0 fun w A b off cap ps ss fs hA hlt hmax hwf hat x y hy=>callsIn_wide.1 (Xq 1 (Nat.le_refl _) w A b off cap ps ss fs hA hlt hmax hwf hat x y hy)
theorem G10:ak Tryz.prog T10:= .ext Kl He G9
theorem G11:ak Tryz.prog T11:= .ext wo vo G10
theorem G12:ak Tryz.prog T12:= .ext vu uX G11
theorem G13:ak Tryz.prog T13:= .ext wc uT G12
theorem G14:ak Tryz.prog T14:=ae (C:=C0) (A:=A1) G13 G13 cok_none mO (f:=Tryz.f124) (by kernel_rfl) fun bs r h=>by
  split at h
  ·exact (K5 ..).trans h
  ·cases h
theorem G15:ak Tryz.prog T15:=ae (C:=C0) (A:=Bj) G14 G14 cok_none mO (f:=Tryz.f57) (by kernel_rfl) fun bs r h=>by
  split at h
  ·exact (F1 ..).trans h
  ·cases h
theorem G16:ak Tryz.prog T16:=ae (C:=C0) (A:=A1) G15 G15 cok_none mO (f:=Tryz.f28) (by kernel_rfl) fun bs r h=>by
  split at h
  ·exact (Gx ..).trans h
  ·cases h
theorem G17:ak Tryz.prog T17:=ae (C:=C0) (A:=ID) G16 G16 cok_none mO (f:=Tryz.f70) (by kernel_rfl) fun bs r h=>by
  split at h
  ·exact (Mg ..).trans h
  ·cases h
theorem On:ah Tryz.prog GC FH:=ak.own G17
theorem Nu:ah Tryz.prog zD HD:=
 Ts (O:=(fun l=>match l with | [[x0,x1,x2,x3]]=>kG x0 x1 x2 x3 | _=>none)) On fun w A b off cap ps ss fs ob hA hlt hmax hwf hat hone=>callsIn_wide.1 (Zt 1 (Nat.le_refl _) w A b off cap ps ss fs ob hA hlt hmax hwf hat hone)
theorem G18:ak Tryz.prog T18:= .ext PW Nu G17
theorem G19:ak Tryz.prog T19:=ae (C:=C0) (A:=pT) G18 G18 cok_none mO (f:=Tryz.f203) (by kernel_rfl) fun bs r h=>by
  split at h
  ·exact (wH ..).trans h
  ·cases h
theorem G20:ak Tryz.prog T20:=ae (C:=C0) (A:=A1) G19 G19 cok_none mO (f:=Tryz.f148) (by kernel_rfl) fun bs r h=>by
  split at h
  ·exact (sy ..).trans h
  ·cases h
theorem sG:ah Tryz.prog mQ mP:=ak.own G20
theorem KF:ah Tryz.prog wq DF:=
 Rf fun w A b off cap ps ss fs hA hlt hmax hwf hat c hcw=>callsIn_wide.1 (UA 1 (Nat.le_refl _) w A b off cap ps ss fs hA hlt hmax hwf hat c hcw (Tb sG J8))
theorem G21:ak Tryz.prog T21:= .ext Mc KF G20
theorem G22:ak Tryz.prog T22:=ae (C:=C0) (A:=A1) G21 G21 cok_none mO (f:=Tryz.f236) (by kernel_rfl) fun bs r h=>by
  split at h
  ·exact (Mp ..).trans h
  ·cases h
theorem Nt:ah Tryz.prog zX Hi:=ak.own G22
theorem G23:ak Tryz.prog T23:=ae (C:=C0) (A:=FI) G22 G22 cok_none mO (f:=Tryz.f60) (by kernel_rfl) fun bs r h=>by
  split at h
  ·exact (MF ..).trans h
  ·cases h
theorem MU:ah Tryz.prog zG HI:=ak.own G23
theorem Cz:ah Tryz.prog qf xu:=
 yl (fun _=>rfl) (fun _=>rfl) Nt MU O4 PY
theorem G24:ak Tryz.prog T24:= .ext EP Cz G23
theorem j5 {C:IV->List Nat->List (List IV)->Option (List IV)} (hC:COK Tryz.prog C):ah Tryz.prog dG ⟨.pure,true,[1],0,fun l=>match l with | [[x0],[x1]]=>aY C x0 x1 | _=>none⟩:=
 iQ (C:=C) (A:=mj) G24 hC mO (f:=Tryz.f155) (by kernel_rfl) (by kernel_rfl) (by kernel_rfl) rfl fun bs r h=>by
  split at h
  ·exact (qZ C ..).trans h
  ·cases h
theorem G25:ak Tryz.prog T25:=ae (C:=C0) (A:=A1) G24 G24 cok_none mO (f:=Tryz.f208) (by kernel_rfl) fun bs r h=>by
  split at h
  ·exact (rK ..).trans h
  ·cases h
theorem A6:COK Tryz.prog (jW):=
 eM Fc (fun caps cv w ok hcap=>aw (C:=C0) (A:=A1) G24 cok_none mO (f:=Tryz.f208) (by kernel_rfl) (by kernel_rfl) hcap (by kernel_rfl) fun bs r h=>by
  split at h
  ·exact (rK ..).trans h
  ·cases h) <|
 cok_none
theorem Mm:ak Tryz.prog (y3):= .ext ln (j5 (A6)) <| G25
theorem G26:ak Tryz.prog T26:=ae (C:=(jW)) (A:=A1) G25 Mm (A6) mO (f:=Tryz.f154) (by kernel_rfl) fun bs r h=>by
  split at h
  ·exact (HB ..).trans h
  ·cases h
theorem G27:ak Tryz.prog T27:=ae (C:=C0) (A:=A1) G26 G26 cok_none mO (f:=Tryz.f156) (by kernel_rfl) fun bs r h=>by
  split at h
  ·exact (wO ..).trans h
  ·cases h
theorem Gg:COK Tryz.prog (nS):=
 eM I8 (fun caps cv w ok hcap=>aw (C:=C0) (A:=A1) G26 cok_none mO (f:=Tryz.f156) (by kernel_rfl) (by kernel_rfl) hcap (by kernel_rfl) fun bs r h=>by
  split at h
  ·exact (wO ..).trans h
  ·cases h) <|
 cok_none
theorem Sb:ak Tryz.prog (Ej):= .ext ln (j5 (Gg)) <| G27
theorem G28:ak Tryz.prog T28:=ae (C:=(nS)) (A:=A0) G27 Sb (Gg) mO (f:=Tryz.f89) (by kernel_rfl) fun bs r h=>by
  split at h
  ·exact (MJ ..).trans h
  ·cases h
theorem G29:ak Tryz.prog T29:=ae (C:=C0) (A:=A0) G28 G28 cok_none mO (f:=Tryz.f143) (by kernel_rfl) fun bs r h=>by
  split at h
  ·exact (JJ ..).trans h
  ·cases h
theorem G30:ak Tryz.prog T30:=ae (C:=C0) (A:=A0) G29 G29 cok_none mO (f:=Tryz.f72) (by kernel_rfl) fun bs r h=>by
  split at h
  ·exact (JK ..).trans h
  ·cases h
theorem Jb:ah Tryz.prog wQ DC:=ak.own G30
theorem KM:ah Tryz.prog vT DH:=
 RL (U:=(fun l=>match l with | [[x0],[x1,x2,x3,x4,x5,x6,x7,x8,x9,x10,x11,x12]]=>fY x0 x1 x2 x3 x4 x5 x6 x7 x8 x9 x10 x11 x12 | _=>none)) fun w ok hok A b off cap ss hA hmax hb hc f hf0 A2 n2 c2 hv hsl=>callsIn_wide.1 (Yg _ Jb.1 ND 1 (Nat.le_refl _) w ok hok A b off cap ss hA hmax hb hc f hf0 A2 n2 c2 hv hsl)
theorem G31:ak Tryz.prog T31:= .ext MB KM G30
theorem G32:ak Tryz.prog T32:= .ext uO (kB (C:=C0) (A:=eO) G31 cok_none mO (f:=Tryz.f20) (by kernel_rfl) (by kernel_rfl) (by kernel_rfl) (fun vs bs r hl h=>by
  split at h
  ·rename_i heq;cases heq;exact h
  ·rename_i heq;cases heq;simp at hl
  ·cases h) (fun bs r h=>by
  split at h
  ·rename_i heq;cases heq
  ·rename_i heq;cases heq;exact (py ..).trans (xq h)
  ·cases h)) G31
theorem GJ {C:IV->List Nat->List (List IV)->Option (List IV)} (hC:COK Tryz.prog C):ah Tryz.prog sW ⟨.pure,true,[1],0,fun l=>match l with | [[x0]]=>jl C x0 | _=>none⟩:=
 iQ (C:=C) (A:=Aq) G32 hC mO (f:=Tryz.f109) (by kernel_rfl) (by kernel_rfl) (by kernel_rfl) rfl fun bs r h=>by
  split at h
  ·exact (Ho C ..).trans h
  ·cases h
theorem G33:ak Tryz.prog T33:=ae (C:=C0) (A:=A1) G32 G32 cok_none mO (f:=Tryz.f177) (by kernel_rfl) fun bs r h=>by
  split at h
  ·exact (Bn ..).trans h
  ·cases h
theorem G34:ak Tryz.prog T34:=ae (C:=C0) (A:=A1) G33 G33 cok_none mO (f:=Tryz.f111) (by kernel_rfl) fun bs r h=>by
  split at h
  ·exact (xY ..).trans h
  ·cases h
theorem G35:ak Tryz.prog T35:=ae (C:=C0) (A:=A1) G34 G34 cok_none mO (f:=Tryz.f110) (by kernel_rfl) fun bs r h=>by
  split at h
  ·exact (qB ..).trans h
  ·cases h
theorem G36:ak Tryz.prog T36:=ae (C:=C0) (A:=A1) G35 G35 cok_none mO (f:=Tryz.f112) (by kernel_rfl) fun bs r h=>by
  split at h
  ·exact (qo ..).trans h
  ·cases h
theorem yt:COK Tryz.prog (fT):=
 eM CW (fun caps cv w ok hcap=>aw (C:=C0) (A:=A1) G34 cok_none mO (f:=Tryz.f110) (by kernel_rfl) (by kernel_rfl) hcap (by kernel_rfl) fun bs r h=>by
  split at h
  ·exact (qB ..).trans h
  ·cases h) <|
 eM Cu (fun caps cv w ok hcap=>aw (C:=C0) (A:=A1) G35 cok_none mO (f:=Tryz.f112) (by kernel_rfl) (by kernel_rfl) hcap (by kernel_rfl) fun bs r h=>by
  split at h
  ·exact (qo ..).trans h
  ·cases h) <|
 cok_none
theorem Jr:ak Tryz.prog (vY):= .ext JA (GJ (yt)) <| G36
theorem G37:ak Tryz.prog T37:=ae (C:=(fT)) (A:=A1) G36 Jr (yt) mO (f:=Tryz.f52) (by kernel_rfl) fun bs r h=>by
  split at h
  ·exact (EG ..).trans h
  ·cases h
theorem qm {C:IV->List Nat->List (List IV)->Option (List IV)} (hC:COK Tryz.prog C):ah Tryz.prog fM ⟨.pure,true,[1],0,fun l=>match l with | [[x0],[x1]]=>bu C x0 x1 | _=>none⟩:=
 iQ (C:=C) (A:=kS) G37 hC mO (f:=Tryz.f191) (by kernel_rfl) (by kernel_rfl) (by kernel_rfl) rfl fun bs r h=>by
  split at h
  ·exact (qg C ..).trans h
  ·cases h
theorem pJ {C:IV->List Nat->List (List IV)->Option (List IV)} (hC:COK Tryz.prog C):ak Tryz.prog (ir C):= .ext qX (qm hC) <| G37
theorem ot {C:IV->List Nat->List (List IV)->Option (List IV)} (hC:COK Tryz.prog C):ah Tryz.prog en ⟨.pure,true,[1],0,fun l=>match l with | [[x0],[x1]]=>bG C x0 x1 | _=>none⟩:=
 iQ (C:=C) (A:=A1) (pJ hC) hC mO (f:=Tryz.f125) (by kernel_rfl) (by kernel_rfl) (by kernel_rfl) rfl fun bs r h=>by
  split at h
  ·exact (ov C ..).trans h
  ·cases h
theorem G38:ak Tryz.prog T38:=ae (C:=C0) (A:=A1) G37 G37 cok_none mO (f:=Tryz.f71) (by kernel_rfl) fun bs r h=>by
  split at h
  ·exact (Kz ..).trans h
  ·cases h
theorem G39:ak Tryz.prog T39:=ae (C:=C0) (A:=Dr) G38 G38 cok_none mO (f:=Tryz.f32) (by kernel_rfl) fun bs r h=>by
  split at h
  ·exact (JH ..).trans h
  ·cases h
theorem G40:ak Tryz.prog T40:=ae (C:=C0) (A:=A1) G39 G39 cok_none mO (f:=Tryz.f126) (by kernel_rfl) fun bs r h=>by
  split at h
  ·exact (um ..).trans h
  ·cases h
theorem El:COK Tryz.prog (lP):=
 eM GS (fun caps cv w ok hcap=>aw (C:=C0) (A:=A1) G39 cok_none mO (f:=Tryz.f126) (by kernel_rfl) (by kernel_rfl) hcap (by kernel_rfl) fun bs r h=>by
  split at h
  ·exact (um ..).trans h
  ·cases h) <|
 cok_none
theorem Qn:ak Tryz.prog (BM):= .ext oL (ot (El)) <| G40
theorem G41:ak Tryz.prog T41:=ae (C:=(lP)) (A:=Dt) G40 Qn (El) mO (f:=Tryz.f58) (by kernel_rfl) fun bs r h=>by
  split at h
  ·exact (KS ..).trans h
  ·cases h
theorem G42:ak Tryz.prog T42:=ae (C:=C0) (A:=D1) G41 G41 cok_none mO (f:=Tryz.f100) (by kernel_rfl) fun bs r h=>by
  split at h
  ·exact (KY ..).trans h
  ·cases h
theorem G43:ak Tryz.prog T43:=ae (C:=C0) (A:=rH) G42 G42 cok_none mO (f:=Tryz.f98) (by kernel_rfl) fun bs r h=>by
  split at h
  ·exact (uA ..).trans h
  ·cases h
theorem eB {C:IV->List Nat->List (List IV)->Option (List IV)} (hC:COK Tryz.prog C):ah Tryz.prog b9 ⟨.pure,true,[1],0,fun l=>match l with | [[x0],[x1]]=>ay C x0 x1 | _=>none⟩:=
 iQ (C:=C) (A:=kX) G43 hC mO (f:=Tryz.f116) (by kernel_rfl) (by kernel_rfl) (by kernel_rfl) rfl fun bs r h=>by
  split at h
  ·exact (qj C ..).trans h
  ·cases h
theorem G44:ak Tryz.prog T44:=ae (C:=C0) (A:=A1) G43 G43 cok_none mO (f:=Tryz.f178) (by kernel_rfl) fun bs r h=>by
  split at h
  ·exact (qU ..).trans h
  ·cases h
theorem yI:COK Tryz.prog (iZ):=
 eM CT (fun caps cv w ok hcap=>aw (C:=C0) (A:=A1) G43 cok_none mO (f:=Tryz.f178) (by kernel_rfl) (by kernel_rfl) hcap (by kernel_rfl) fun bs r h=>by
  split at h
  ·exact (qU ..).trans h
  ·cases h) <|
 cok_none
theorem JP:ak Tryz.prog (vL):= .ext ff (eB (yI)) <| G44
theorem G45:ak Tryz.prog T45:=ae (C:=(iZ)) (A:=A1) G44 JP (yI) mO (f:=Tryz.f114) (by kernel_rfl) fun bs r h=>by
  split at h
  ·exact (Et ..).trans h
  ·cases h
theorem G46:ak Tryz.prog T46:=ae (C:=C0) (A:=sC) G45 G45 cok_none mO (f:=Tryz.f115) (by kernel_rfl) fun bs r h=>by
  split at h
  ·exact (Aa ..).trans h
  ·cases h
theorem G47:ak Tryz.prog T47:=ae (C:=C0) (A:=A1) G46 G46 cok_none mO (f:=Tryz.f117) (by kernel_rfl) fun bs r h=>by
  split at h
  ·exact (qP ..).trans h
  ·cases h
theorem yv:COK Tryz.prog (iJ):=
 eM Cq (fun caps cv w ok hcap=>aw (C:=C0) (A:=A1) G46 cok_none mO (f:=Tryz.f117) (by kernel_rfl) (by kernel_rfl) hcap (by kernel_rfl) fun bs r h=>by
  split at h
  ·exact (qP ..).trans h
  ·cases h) <|
 cok_none
theorem IM:ak Tryz.prog (wi):= .ext ff (eB (yv)) <| G47
theorem G48:ak Tryz.prog T48:=ae (C:=(iJ)) (A:=yM) G47 IM (yv) mO (f:=Tryz.f54) (by kernel_rfl) fun bs r h=>by
  split at h
  ·exact (EU ..).trans h
  ·cases h
theorem G49:ak Tryz.prog T49:=ae (C:=C0) (A:=GK) G48 G48 cok_none mO (f:=Tryz.f103) (by kernel_rfl) fun bs r h=>by
  split at h
  ·exact (NK ..).trans h
  ·cases h
theorem pb {C:IV->List Nat->List (List IV)->Option (List IV)} (hC:COK Tryz.prog C):ak Tryz.prog (im C):= .ext ff (eB hC) <| G49
theorem nY {C:IV->List Nat->List (List IV)->Option (List IV)} (hC:COK Tryz.prog C):ah Tryz.prog dZ ⟨.pure,true,[1],0,fun l=>match l with | [[x0],[x1]]=>bF C x0 x1 | _=>none⟩:=
 iQ (C:=C) (A:=A1) (pb hC) hC mO (f:=Tryz.f174) (by kernel_rfl) (by kernel_rfl) (by kernel_rfl) rfl fun bs r h=>by
  split at h
  ·exact (nZ C ..).trans h
  ·cases h
theorem G50:ak Tryz.prog T50:=ae (C:=C0) (A:=A1) G49 G49 cok_none mO (f:=Tryz.f176) (by kernel_rfl) fun bs r h=>by
  split at h
  ·exact (KE ..).trans h
  ·cases h
theorem G51:ak Tryz.prog T51:=ae (C:=C0) (A:=oe) G50 G50 cok_none mO (f:=Tryz.f175) (by kernel_rfl) fun bs r h=>by
  split at h
  ·exact (qC ..).trans h
  ·cases h
theorem yH:COK Tryz.prog (iL):=
 eM CE (fun caps cv w ok hcap=>aw (C:=C0) (A:=oe) G50 cok_none mO (f:=Tryz.f175) (by kernel_rfl) (by kernel_rfl) hcap (by kernel_rfl) fun bs r h=>by
  split at h
  ·exact (qC ..).trans h
  ·cases h) <|
 cok_none
theorem Kq:ak Tryz.prog (wj):= .ext oV (nY (yH)) <| G51
theorem G52:ak Tryz.prog T52:=ae (C:=(iL)) (A:=A1) G51 Kq (yH) mO (f:=Tryz.f102) (by kernel_rfl) fun bs r h=>by
  split at h
  ·exact (E3 ..).trans h
  ·cases h
theorem G53:ak Tryz.prog T53:=ae (C:=C0) (A:=qV) G52 G52 cok_none mO (f:=Tryz.f101) (by kernel_rfl) fun bs r h=>by
  split at h
  ·exact (uk ..).trans h
  ·cases h
theorem G54:ak Tryz.prog T54:=ae (C:=C0) (A:=yQ) G53 G53 cok_none mO (f:=Tryz.f105) (by kernel_rfl) fun bs r h=>by
  split at h
  ·exact (Fe ..).trans h
  ·cases h
theorem G55:ak Tryz.prog T55:=ae (C:=C0) (A:=qY) G54 G54 cok_none mO (f:=Tryz.f104) (by kernel_rfl) fun bs r h=>by
  split at h
  ·exact (uD ..).trans h
  ·cases h
theorem G56:ak Tryz.prog T56:=ae (C:=C0) (A:=A1) G55 G55 cok_none mO (f:=Tryz.f85) (by kernel_rfl) fun bs r h=>by
  split at h
  ·exact (mR ..).trans h
  ·cases h
theorem G57:ak Tryz.prog T57:=ae (C:=C0) (A:=yw) G56 G56 cok_none mO (f:=Tryz.f107) (by kernel_rfl) fun bs r h=>by
  split at h
  ·exact (EZ ..).trans h
  ·cases h
theorem G58:ak Tryz.prog T58:=ae (C:=C0) (A:=rG) G57 G57 cok_none mO (f:=Tryz.f106) (by kernel_rfl) fun bs r h=>by
  split at h
  ·exact (uG ..).trans h
  ·cases h
theorem G59:ak Tryz.prog T59:=ae (C:=C0) (A:=sL) G58 G58 cok_none mO (f:=Tryz.f53) (by kernel_rfl) fun bs r h=>by
  split at h
  ·exact (z6 ..).trans h
  ·cases h
theorem G60:ak Tryz.prog T60:=ae (C:=C0) (A:=A1) G59 G59 cok_none mO (f:=Tryz.f108) (by kernel_rfl) fun bs r h=>by
  split at h
  ·exact (uF ..).trans h
  ·cases h
theorem QL:COK Tryz.prog (cM):=
 eM FL (fun caps cv w ok hcap=>aw (C:=C0) (A:=rH) G42 cok_none mO (f:=Tryz.f98) (by kernel_rfl) (by kernel_rfl) hcap (by kernel_rfl) fun bs r h=>by
  split at h
  ·exact (uA ..).trans h
  ·cases h) <|
 eM Hr (fun caps cv w ok hcap=>aw (C:=C0) (A:=qV) G52 cok_none mO (f:=Tryz.f101) (by kernel_rfl) (by kernel_rfl) hcap (by kernel_rfl) fun bs r h=>by
  split at h
  ·exact (uk ..).trans h
  ·cases h) <|
 eM Hw (fun caps cv w ok hcap=>aw (C:=C0) (A:=qY) G54 cok_none mO (f:=Tryz.f104) (by kernel_rfl) (by kernel_rfl) hcap (by kernel_rfl) fun bs r h=>by
  split at h
  ·exact (uD ..).trans h
  ·cases h) <|
 eM Ii (fun caps cv w ok hcap=>aw (C:=C0) (A:=rG) G57 cok_none mO (f:=Tryz.f106) (by kernel_rfl) (by kernel_rfl) hcap (by kernel_rfl) fun bs r h=>by
  split at h
  ·exact (uG ..).trans h
  ·cases h) <|
 eM Ip (fun caps cv w ok hcap=>aw (C:=C0) (A:=A1) G59 cok_none mO (f:=Tryz.f108) (by kernel_rfl) (by kernel_rfl) hcap (by kernel_rfl) fun bs r h=>by
  split at h
  ·exact (uF ..).trans h
  ·cases h) <|
 cok_none
theorem G61:ak Tryz.prog T61:=ae (C:=(cM)) (A:=DR) G60 G60 (QL) mO (f:=Tryz.f51) (by kernel_rfl) fun bs r h=>by
  split at h
  ·exact (K9 ..).trans h
  ·cases h
theorem tm {C:IV->List Nat->List (List IV)->Option (List IV)} (hC:COK Tryz.prog C):ah Tryz.prog pa ⟨.pure,true,[1],0,fun l=>match l with | [[x0]]=>tF C x0 | _=>none⟩:=
 iQ (C:=C) (A:=Hp) G61 hC mO (f:=Tryz.f181) (by kernel_rfl) (by kernel_rfl) (by kernel_rfl) rfl fun bs r h=>by
  split at h
  ·exact h
  ·cases h
theorem G62:ak Tryz.prog T62:=ae (C:=C0) (A:=A1) G61 G61 cok_none mO (f:=Tryz.f284) (by kernel_rfl) fun bs r h=>by
  split at h
  ·exact h
  ·cases h
theorem G63:ak Tryz.prog T63:=ae (C:=C0) (A:=A1) G62 G62 cok_none mO (f:=Tryz.f285) (by kernel_rfl) fun bs r h=>by
  split at h
  ·exact h
  ·cases h
theorem G64:ak Tryz.prog T64:=ae (C:=C0) (A:=Bm) G63 G63 cok_none mO (f:=Tryz.f238) (by kernel_rfl) fun bs r h=>by
  split at h
  ·exact h
  ·cases h
theorem G65:ak Tryz.prog T65:=ae (C:=C0) (A:=A1) G64 G64 cok_none mO (f:=Tryz.f128) (by kernel_rfl) fun bs r h=>by
  split at h
  ·exact (Nb ..).trans h
  ·cases h
theorem G66:ak Tryz.prog T66:=ae (C:=C0) (A:=rJ) G65 G65 cok_none mO (f:=Tryz.f237) (by kernel_rfl) fun bs r h=>by
  split at h
  ·exact h
  ·cases h
theorem G67:ak Tryz.prog T67:=ae (C:=C0) (A:=yP) G66 G66 cok_none mO (f:=Tryz.f186) (by kernel_rfl) fun bs r h=>by
  split at h
  ·exact h
  ·cases h
theorem G68:ak Tryz.prog T68:=ae (C:=C0) (A:=yX) G67 G67 cok_none mO (f:=Tryz.f187) (by kernel_rfl) fun bs r h=>by
  split at h
  ·exact h
  ·cases h
theorem G69:ak Tryz.prog T69:=ae (C:=C0) (A:=A1) G68 G68 cok_none mO (f:=Tryz.f286) (by kernel_rfl) fun bs r h=>by
  split at h
  ·exact h
  ·cases h
theorem G70:ak Tryz.prog T70:=ae (C:=C0) (A:=B5) G69 G69 cok_none mO (f:=Tryz.f193) (by kernel_rfl) fun bs r h=>by
  split at h
  ·exact (Hk ..).trans h
  ·cases h
theorem G71:ak Tryz.prog T71:=ae (C:=C0) (A:=A1) G70 G70 cok_none mO (f:=Tryz.f242) (by kernel_rfl) fun bs r h=>by
  split at h
  ·exact (EA ..).trans h
  ·cases h
theorem G72:ak Tryz.prog T72:=ae (C:=C0) (A:=AA) G71 G71 cok_none mO (f:=Tryz.f194) (by kernel_rfl) fun bs r h=>by
  split at h
  ·exact (Ht ..).trans h
  ·cases h
theorem G73:ak Tryz.prog T73:=ae (C:=C0) (A:=A1) G72 G72 cok_none mO (f:=Tryz.f130) (by kernel_rfl) fun bs r h=>by
  split at h
  ·exact (Jt ..).trans h
  ·cases h
theorem G74:ak Tryz.prog T74:=ae (C:=C0) (A:=oG) G73 G73 cok_none mO (f:=Tryz.f263) (by kernel_rfl) fun bs r h=>by
  split at h
  ·exact (vf ..).trans h
  ·cases h
theorem e9:ah Tryz.prog fq ⟨.inl cT,false,[],0,fun _=>none⟩:=
 aE (C:=C0) (A:=A0) G74 cok_none mO (f:=Tryz.f260) (by kernel_rfl) (by kernel_rfl)
theorem mJ:ak Tryz.prog eH:= .ext lK e9 <| G74
theorem kJ:ah Tryz.prog dm ⟨.inl fD,false,[],0,fun _=>none⟩:=
 aE (C:=C0) (A:=A0) mJ cok_none mO (f:=Tryz.f266) (by kernel_rfl) (by kernel_rfl)
theorem Ep:ak Tryz.prog (rX):= .ext lK e9 <| .ext sH kJ <| G74
theorem G75:ak Tryz.prog T75:=ae (C:=C0) (A:=uI) G74 Ep cok_none mO (f:=Tryz.f255) (by kernel_rfl) fun bs r h=>by
  split at h
  ·exact (AJ ..).trans h
  ·cases h
theorem G76:ak Tryz.prog T76:=ae (C:=C0) (A:=wZ) G75 G75 cok_none mO (f:=Tryz.f239) (by kernel_rfl) fun bs r h=>by
  split at h
  ·exact (C1 ..).trans h
  ·cases h
theorem G77:ak Tryz.prog T77:=ae (C:=C0) (A:=A1) G76 G76 cok_none mO (f:=Tryz.f184) (by kernel_rfl) fun bs r h=>by
  split at h
  ·exact h
  ·cases h
theorem G78:ak Tryz.prog T78:=ae (C:=C0) (A:=A1) G77 G77 cok_none mO (f:=Tryz.f252) (by kernel_rfl) fun bs r h=>by
  split at h
  ·exact h
  ·cases h
theorem G79:ak Tryz.prog T79:=ae (C:=C0) (A:=A1) G78 G78 cok_none mO (f:=Tryz.f256) (by kernel_rfl) fun bs r h=>by
  split at h
  ·exact h
  ·cases h
theorem p5:COK Tryz.prog (dj):=
 eM BG (fun caps cv w ok hcap=>aw (C:=C0) (A:=A1) G78 cok_none mO (f:=Tryz.f256) (by kernel_rfl) (by kernel_rfl) hcap (by kernel_rfl) fun bs r h=>by
  split at h
  ·exact h
  ·cases h) <|
 cok_none
theorem fA:ah Tryz.prog fj ⟨.inl dr,false,[],0,fun _=>none⟩:=
 aE (C:=(dj)) (A:=A0) G79 (p5) mO (f:=Tryz.f250) (by kernel_rfl) (by kernel_rfl)
theorem nh:ak Tryz.prog fG:= .ext mz fA <| G79
theorem lA:ah Tryz.prog dh ⟨.inl fR,false,[],0,fun _=>none⟩:=
 aE (C:=(dj)) (A:=A0) nh (p5) mO (f:=Tryz.f262) (by kernel_rfl) (by kernel_rfl)
theorem Ha:ak Tryz.prog (uu):= .ext mz fA <| .ext sf lA <| G79
theorem G80:ak Tryz.prog T80:=ae (C:=(dj)) (A:=xa) G79 Ha (p5) mO (f:=Tryz.f240) (by kernel_rfl) fun bs r h=>by
  split at h
  ·exact h
  ·cases h
theorem G81:ak Tryz.prog T81:=ae (C:=C0) (A:=sO) G80 G80 cok_none mO (f:=Tryz.f188) (by kernel_rfl) fun bs r h=>by
  split at h
  ·exact h
  ·cases h
theorem G82:ak Tryz.prog T82:=ae (C:=C0) (A:=A1) G81 G81 cok_none mO (f:=Tryz.f287) (by kernel_rfl) fun bs r h=>by
  split at h
  ·exact h
  ·cases h
theorem YB:ak Tryz.prog T82:=G82
theorem uh:COK Tryz.prog kr:=
 lF (t:=266) (g:=284) (one:=false) (fun u w=>by kernel_rfl) (fun y u w ok hy=>aw (C:=C0) (A:=A1) G61 cok_none mO (f:=Tryz.f284) (by kernel_rfl) (by kernel_rfl) (qa hy) (by kernel_rfl) fun bs r h=>by
  split at h
  ·rename_i heq;cases heq;exact h
  ·cases h) <|
 lF (t:=322) (g:=285) (one:=false) (fun u w=>by kernel_rfl) (fun y u w ok hy=>aw (C:=C0) (A:=A1) G62 cok_none mO (f:=Tryz.f285) (by kernel_rfl) (by kernel_rfl) (qa hy) (by kernel_rfl) fun bs r h=>by
  split at h
  ·rename_i heq;cases heq;exact h
  ·cases h) <|
 lF (t:=323) (g:=286) (one:=false) (fun u w=>by kernel_rfl) (fun y u w ok hy=>aw (C:=C0) (A:=A1) G68 cok_none mO (f:=Tryz.f286) (by kernel_rfl) (by kernel_rfl) (qa hy) (by kernel_rfl) fun bs r h=>by
  split at h
  ·rename_i heq;cases heq;exact h
  ·cases h) <|
 lF (t:=324) (g:=287) (one:=false) (fun u w=>by kernel_rfl) (fun y u w ok hy=>aw (C:=C0) (A:=A1) G81 cok_none mO (f:=Tryz.f287) (by kernel_rfl) (by kernel_rfl) (qa hy) (by kernel_rfl) fun bs r h=>by
  split at h
  ·rename_i heq;cases heq;exact h
  ·cases h) <|
 cok_none
theorem wg:COK Tryz.prog kC:=
 lF (t:=326) (g:=288) (one:=true) (fun u w=>by kernel_rfl) (fun y u w ok hy=>by
  have h:=L5 (A:=A0) YB uh mO (g:=288) (f:=Tryz.f288) (by kernel_rfl) (by kernel_rfl) (PC kr) y u w ok hy
  refine fun w ok bs args r h1 h2 h3 h4=>h w ok bs args r h1 h2 h3 ?_
  revert h4;cases bs<;>exact fun h4=>h4) <|
 uh
theorem Gi:ak Tryz.prog (uM):= .ext vU (tm (wg)) <| G82
theorem G83:ak Tryz.prog T83:=ae (C:=(kC)) (A:=xm) G82 Gi (wg) mO (f:=Tryz.f182) (by kernel_rfl) fun bs r h=>by
  split at h
  ·exact h
  ·cases h
theorem sE:COK Tryz.prog je:=
 lF (t:=266) (g:=284) (one:=false) (fun u w=>by kernel_rfl) (fun y u w ok hy=>aw (C:=C0) (A:=A1) G61 cok_none mO (f:=Tryz.f284) (by kernel_rfl) (by kernel_rfl) (qa hy) (by kernel_rfl) fun bs r h=>by
  split at h
  ·rename_i heq;cases heq;exact h
  ·cases h) <|
 lF (t:=322) (g:=285) (one:=false) (fun u w=>by kernel_rfl) (fun y u w ok hy=>aw (C:=C0) (A:=A1) G62 cok_none mO (f:=Tryz.f285) (by kernel_rfl) (by kernel_rfl) (qa hy) (by kernel_rfl) fun bs r h=>by
  split at h
  ·rename_i heq;cases heq;exact h
  ·cases h) <|
 cok_none
theorem uK:COK Tryz.prog jt:=
 lF (t:=326) (g:=288) (one:=true) (fun u w=>by kernel_rfl) (fun y u w ok hy=>by
  have h:=L5 (A:=A0) YB sE mO (g:=288) (f:=Tryz.f288) (by kernel_rfl) (by kernel_rfl) (PC je) y u w ok hy
  refine fun w ok bs args r h1 h2 h3 h4=>h w ok bs args r h1 h2 h3 ?_
  revert h4;cases bs<;>exact fun h4=>h4) <|
 sE
theorem EB:ak Tryz.prog (rY):= .ext vU (tm (uK)) <| G83
theorem G84:ak Tryz.prog T84:=ae (C:=(jt)) (A:=uw) G83 EB (uK) mO (f:=Tryz.f183) (by kernel_rfl) fun bs r h=>by
  split at h
  ·exact h
  ·cases h
theorem Ib:COK Tryz.prog vz:=
 lF (t:=266) (g:=284) (one:=false) (fun u w=>by kernel_rfl) (fun y u w ok hy=>aw (C:=C0) (A:=A1) G61 cok_none mO (f:=Tryz.f284) (by kernel_rfl) (by kernel_rfl) (qa hy) (by kernel_rfl) fun bs r h=>by
  split at h
  ·rename_i heq;cases heq;exact h
  ·cases h) <|
 cok_none
theorem yY:COK Tryz.prog ml:=
 Ib
theorem Kk:ak Tryz.prog (vH):= .ext vU (tm (yY)) <| G84
theorem G85:ak Tryz.prog T85:=ae (C:=(ml)) (A:=yC) G84 Kk (yY) mO (f:=Tryz.f119) (by kernel_rfl) fun bs r h=>by
  split at h
  ·exact h
  ·cases h
theorem G86:ak Tryz.prog T86:=ae (C:=C0) (A:=xk) G85 G85 cok_none mO (f:=Tryz.f120) (by kernel_rfl) fun bs r h=>by
  split at h
  ·exact h
  ·cases h
theorem G87:ak Tryz.prog T87:=ae (C:=C0) (A:=mM) G86 G86 cok_none mO (f:=Tryz.f121) (by kernel_rfl) fun bs r h=>by
  split at h
  ·exact h
  ·cases h
theorem G88:ak Tryz.prog T88:=ae (C:=C0) (A:=A0) G87 G87 cok_none mO (f:=Tryz.f55) (by kernel_rfl) fun bs r h=>by
  split at h
  ·exact h
  ·cases h
theorem G89:ak Tryz.prog T89:=ae (C:=C0) (A:=Hg) G88 G88 cok_none mO (f:=Tryz.f257) (by kernel_rfl) fun bs r h=>by
  split at h
  ·exact (OP ..).trans h
  ·cases h
theorem G90:ak Tryz.prog T90:=ae (C:=C0) (A:=A1) G89 G89 cok_none mO (f:=Tryz.f241) (by kernel_rfl) fun bs r h=>by
  split at h
  ·exact (Pb ..).trans h
  ·cases h
theorem G91:ak Tryz.prog T91:=ae (C:=C0) (A:=BO) G90 G90 cok_none mO (f:=Tryz.f129) (by kernel_rfl) fun bs r h=>by
  split at h
  ·exact (FR ..).trans h
  ·cases h
theorem G92:ak Tryz.prog T92:=ae (C:=C0) (A:=A1) G91 G91 cok_none mO (f:=Tryz.f190) (by kernel_rfl) fun bs r h=>by
  split at h
  ·exact h
  ·cases h
theorem G93:ak Tryz.prog T93:=ae (C:=C0) (A:=Dk) G92 G92 cok_none mO (f:=Tryz.f123) (by kernel_rfl) fun bs r h=>by
  split at h
  ·exact h
  ·cases h
theorem G94:ak Tryz.prog T94:=ae (C:=C0) (A:=A8) G93 G93 cok_none mO (f:=Tryz.f56) (by kernel_rfl) fun bs r h=>by
  split at h
  ·exact h
  ·cases h
theorem G95:ak Tryz.prog T95:=ae (C:=C0) (A:=A1) G94 G94 cok_none mO (f:=Tryz.f26) (by kernel_rfl) fun bs r h=>by
  split at h
  ·exact h
  ·cases h
theorem G96:ak Tryz.prog T96:=ae (C:=C0) (A:=kT) G95 G95 cok_none mO (f:=Tryz.f243) (by kernel_rfl) fun bs r h=>by
  split at h
  ·exact h
  ·cases h
theorem G97:ak Tryz.prog T97:=ae (C:=C0) (A:=A1) G96 G96 cok_none mO (f:=Tryz.f195) (by kernel_rfl) fun bs r h=>by
  split at h
  ·exact h
  ·cases h
theorem G98:ak Tryz.prog T98:=ae (C:=C0) (A:=A1) G97 G97 cok_none mO (f:=Tryz.f131) (by kernel_rfl) fun bs r h=>by
  split at h
  ·exact h
  ·cases h
theorem G99:ak Tryz.prog T99:=ae (C:=C0) (A:=A1) G98 G98 cok_none mO (f:=Tryz.f63) (by kernel_rfl) fun bs r h=>by
  split at h
  ·exact h
  ·cases h
theorem abQ:ak Tryz.prog Z3:= .ext P1 (sig_mko (C:=C0) (A:=A0) G99 cok_none mO (f:=Tryz.f64) (by kernel_rfl) (by kernel_rfl) (fun bs r h=>by
  split at h
  ·exact (ME ..).trans h
  ·cases h)) G99
theorem Ya:ak Tryz.prog VO:=ae (C:=C0) (A:=A1) abQ abQ cok_none mO (f:=Tryz.f134) (by kernel_rfl) fun bs r h=>by
  split at h
  ·exact (J2 ..).trans h
  ·cases h
theorem cn:ah Tryz.prog eX ⟨.inl bt,false,[],0,fun _=>none⟩:=
 aE (C:=C0) (A:=cL) Ya cok_none mO (f:=Tryz.f197) (by kernel_rfl) (by kernel_rfl)
theorem jq:ak Tryz.prog cS:= .ext mL cn <| Ya
theorem hX:ah Tryz.prog ee ⟨.inl da,false,[],0,fun _=>none⟩:=
 tg (C:=C0) (A:=cY) jq cok_none mO lh (f:=Tryz.f132) (by kernel_rfl) (by kernel_rfl)
theorem zc:ak Tryz.prog (oH):= .ext mL cn <| .ext oB hX <| Ya
theorem Yr:ak Tryz.prog V9:= .ext xP (kB (C:=C0) (A:=A0) zc cok_none mO (f:=Tryz.f138) (by kernel_rfl) (by kernel_rfl) (by kernel_rfl) (fun vs bs r hl h=>by
  split at h
  ·rename_i heq;cases heq;exact (wN ..).trans h
  ·cases h) (fun bs r h=>by
  split at h
  ·rename_i heq;cases heq
  ·cases h)) Ya
theorem cF:ah Tryz.prog fL ⟨.inl bK,false,[],0,fun _=>none⟩:=
 aE (C:=C0) (A:=df) Yr cok_none mO (f:=Tryz.f133) (by kernel_rfl) (by kernel_rfl)
theorem jI:ak Tryz.prog db:= .ext nI cF <| Yr
theorem ix:ah Tryz.prog ee ⟨.inl dD,false,[],0,fun _=>none⟩:=
 tg (C:=C0) (A:=dE) jI cok_none mO lh (f:=Tryz.f132) (by kernel_rfl) (by kernel_rfl)
theorem Ak:ak Tryz.prog (pO):= .ext nI cF <| .ext oB ix <| Yr
theorem aaA:ak Tryz.prog Zg:= .ext zY (kB (C:=C0) (A:=A0) Ak cok_none mO (f:=Tryz.f65) (by kernel_rfl) (by kernel_rfl) (by kernel_rfl) (fun vs bs r hl h=>by
  split at h
  ·rename_i heq;cases heq;exact (yb ..).trans h
  ·cases h) (fun bs r h=>by
  split at h
  ·rename_i heq;cases heq
  ·cases h)) Yr
theorem wE:ah Tryz.prog mm ⟨.pure,true,[1],0,fun l=>match l with | [[x0]]=>mh x0 | _=>none⟩:=
 iQ (C:=C0) (A:=A1) aaA cok_none mO (f:=Tryz.f66) (by kernel_rfl) (by kernel_rfl) (by kernel_rfl) rfl fun bs r h=>by
  split at h
  ·exact h
  ·cases h
theorem aaP:ak Tryz.prog YL:= .ext zb (Al wE) aaA
theorem vj:ah Tryz.prog kR ⟨.pure,true,[1],0,fun l=>match l with | [[x0]]=>kN x0 | _=>none⟩:=
 iQ (C:=C0) (A:=A1) aaP cok_none mO (f:=Tryz.f142) (by kernel_rfl) (by kernel_rfl) (by kernel_rfl) rfl fun bs r h=>by
  split at h
  ·exact h
  ·cases h
theorem aaN:ak Tryz.prog YR:= .ext xU (Al vj) aaP
theorem abj:ak Tryz.prog ZY:=ae (C:=C0) (A:=yz) aaN aaN cok_none mO (f:=Tryz.f158) (by kernel_rfl) fun bs r h=>by
  split at h
  ·exact h
  ·cases h
theorem aaS:ak Tryz.prog YM:=ae (C:=C0) (A:=yW) abj abj cok_none mO (f:=Tryz.f92) (by kernel_rfl) fun bs r h=>by
  split at h
  ·exact h
  ·cases h
theorem G108:ak Tryz.prog T108:= .ext xX (kB (C:=C0) (A:=pR) aaS cok_none mO (f:=Tryz.f68) (by kernel_rfl) (by kernel_rfl) (by kernel_rfl) (fun vs bs r hl h=>by
  split at h
  ·rename_i heq;cases heq;exact (vG ..).trans h
  ·cases h) (fun bs r h=>by
  split at h
  ·rename_i heq;cases heq
  ·cases h)) aaS
theorem abZ:ak Tryz.prog Z1:= .ext MM (sig_mko (C:=C0) (A:=A0) G108 cok_none mO (f:=Tryz.f211) (by kernel_rfl) (by kernel_rfl) (fun bs r h=>by
  split at h
  ·exact h
  ·cases h)) G108
theorem abp:ak Tryz.prog YX:=ae (C:=C0) (A:=wM) abZ abZ cok_none mO (f:=Tryz.f218) (by kernel_rfl) fun bs r h=>by
  split at h
  ·exact (CZ ..).trans h
  ·cases h
theorem abd:ak Tryz.prog YN:=ae (C:=C0) (A:=Ei) abp abp cok_none mO (f:=Tryz.f222) (by kernel_rfl) fun bs r h=>by
  split at h
  ·exact h
  ·cases h
theorem aaH:ak Tryz.prog ZG:=ae (C:=C0) (A:=A1) abd abd cok_none mO (f:=Tryz.f173) (by kernel_rfl) fun bs r h=>by
  split at h
  ·exact h
  ·cases h
theorem aaC:ak Tryz.prog ZA:=ae (C:=C0) (A:=A1) aaH aaH cok_none mO (f:=Tryz.f164) (by kernel_rfl) fun bs r h=>by
  split at h
  ·exact h
  ·cases h
theorem abF:ak Tryz.prog aal:=ae (C:=C0) (A:=A1) aaC aaC cok_none mO (f:=Tryz.f265) (by kernel_rfl) fun bs r h=>by
  split at h
  ·exact (HC ..).trans h
  ·cases h
theorem aa3:ak Tryz.prog aak:=ae (C:=C0) (A:=A1) abF abF cok_none mO (f:=Tryz.f264) (by kernel_rfl) fun bs r h=>by
  split at h
  ·exact (Hq ..).trans h
  ·cases h
theorem aa9:ak Tryz.prog ZC:=ae (C:=C0) (A:=A1) aa3 aa3 cok_none mO (f:=Tryz.f259) (by kernel_rfl) fun bs r h=>by
  split at h
  ·exact (MA ..).trans h
  ·cases h
theorem Yu:ak Tryz.prog WC:=ae (C:=C0) (A:=ny) aa9 aa9 cok_none mO (f:=Tryz.f261) (by kernel_rfl) fun bs r h=>by
  split at h
  ·exact h
  ·cases h
theorem fy:ah Tryz.prog fq ⟨.inl du,false,[],0,fun _=>none⟩:=
 aE (C:=C0) (A:=A0) Yu cok_none mO (f:=Tryz.f260) (by kernel_rfl) (by kernel_rfl)
theorem mZ:ak Tryz.prog fw:= .ext lK fy <| Yu
theorem ly:ah Tryz.prog dm ⟨.inl fW,false,[],0,fun _=>none⟩:=
 aE (C:=C0) (A:=A0) mZ cok_none mO (f:=Tryz.f266) (by kernel_rfl) (by kernel_rfl)
theorem IA:ak Tryz.prog (uz):= .ext lK fy <| .ext sH ly <| Yu
theorem abT:ak Tryz.prog YT:=ae (C:=C0) (A:=xl) Yu IA cok_none mO (f:=Tryz.f249) (by kernel_rfl) fun bs r h=>by
  split at h
  ·exact (Cx ..).trans h
  ·cases h
theorem aaK:ak Tryz.prog ZP:=ae (C:=C0) (A:=vO) abT abT cok_none mO (f:=Tryz.f230) (by kernel_rfl) fun bs r h=>by
  split at h
  ·exact (Db ..).trans h
  ·cases h
theorem aa5:ak Tryz.prog Z2:=ae (C:=C0) (A:=A0) aaK aaK cok_none mO (f:=Tryz.f229) (by kernel_rfl) fun bs r h=>by
  split at h
  ·exact h
  ·cases h
theorem aaT:ak Tryz.prog aah:=ae (C:=C0) (A:=yr) aa5 aa5 cok_none mO (f:=Tryz.f232) (by kernel_rfl) fun bs r h=>by
  split at h
  ·exact (Fh ..).trans h
  ·cases h
theorem aby:ak Tryz.prog ZU:=ae (C:=C0) (A:=Az) aaT aaT cok_none mO (f:=Tryz.f141) (by kernel_rfl) fun bs r h=>by
  split at h
  ·exact (FJ ..).trans h
  ·cases h
theorem abA:ak Tryz.prog YK:=ae (C:=C0) (A:=Ch) aby aby cok_none mO (f:=Tryz.f199) (by kernel_rfl) fun bs r h=>by
  split at h
  ·exact (HS ..).trans h
  ·cases h
theorem Zu:ak Tryz.prog Y3:=ae (C:=C0) (A:=Br) abA abA cok_none mO (f:=Tryz.f140) (by kernel_rfl) fun bs r h=>by
  split at h
  ·exact (Gb ..).trans h
  ·cases h
theorem XI:ak Tryz.prog VD:=ae (C:=C0) (A:=A1) Zu Zu cok_none mO (f:=Tryz.f251) (by kernel_rfl) fun bs r h=>by
  split at h
  ·exact h
  ·cases h
theorem pQ:COK Tryz.prog (di):=
 eM B7 (fun caps cv w ok hcap=>aw (C:=C0) (A:=A1) Zu cok_none mO (f:=Tryz.f251) (by kernel_rfl) (by kernel_rfl) hcap (by kernel_rfl) fun bs r h=>by
  split at h
  ·exact h
  ·cases h) <|
 cok_none
theorem fC:ah Tryz.prog fj ⟨.inl dp,false,[],0,fun _=>none⟩:=
 aE (C:=(di)) (A:=A0) XI (pQ) mO (f:=Tryz.f250) (by kernel_rfl) (by kernel_rfl)
theorem mU:ak Tryz.prog ft:= .ext mz fC <| XI
theorem lz:ah Tryz.prog dh ⟨.inl fQ,false,[],0,fun _=>none⟩:=
 aE (C:=(di)) (A:=A0) mU (pQ) mO (f:=Tryz.f262) (by kernel_rfl) (by kernel_rfl)
theorem GF:ak Tryz.prog (uc):= .ext mz fC <| .ext sf lz <| XI
theorem ab0:ak Tryz.prog ZQ:=ae (C:=(di)) (A:=xb) XI GF (pQ) mO (f:=Tryz.f231) (by kernel_rfl) fun bs r h=>by
  split at h
  ·exact h
  ·cases h
theorem abu:ak Tryz.prog ZF:=ae (C:=C0) (A:=A0) ab0 ab0 cok_none mO (f:=Tryz.f171) (by kernel_rfl) fun bs r h=>by
  split at h
  ·exact h
  ·cases h
theorem Ym:ak Tryz.prog Xl:=ae (C:=C0) (A:=A1) abu abu cok_none mO (f:=Tryz.f233) (by kernel_rfl) fun bs r h=>by
  split at h
  ·exact (JZ ..).trans h
  ·cases h
theorem cH:ah Tryz.prog fJ ⟨.inl bP,false,[],0,fun _=>none⟩:=
 aE (C:=C0) (A:=dg) Ym cok_none mO (f:=Tryz.f228) (by kernel_rfl) (by kernel_rfl)
theorem mG:ak Tryz.prog e6:= .ext nL cH <| Ym
theorem kH:ah Tryz.prog jT ⟨.inl fE,false,[],0,fun _=>none⟩:=
 tg (C:=C0) (A:=A0) mG cok_none mO pg (f:=Tryz.f161) (by kernel_rfl) (by kernel_rfl)
theorem B8:ak Tryz.prog (o9):= .ext nL cH <| .ext wa kH <| Ym
theorem abe:ak Tryz.prog Zo:=ae (C:=C0) (A:=A0) Ym B8 cok_none mO (f:=Tryz.f172) (by kernel_rfl) fun bs r h=>by
  split at h
  ·exact h
  ·cases h
theorem acf:ak Tryz.prog ZI:=ae (C:=C0) (A:=Dj) abe abe cok_none mO (f:=Tryz.f137) (by kernel_rfl) fun bs r h=>by
  split at h
  ·exact (Kg ..).trans h
  ·cases h
theorem ab2:ak Tryz.prog aan:=ae (C:=C0) (A:=Ih) acf acf cok_none mO (f:=Tryz.f247) (by kernel_rfl) fun bs r h=>by
  split at h
  ·exact h
  ·cases h
theorem abx:ak Tryz.prog aac:=ae (C:=C0) (A:=lJ) ab2 ab2 cok_none mO (f:=Tryz.f248) (by kernel_rfl) fun bs r h=>by
  split at h
  ·exact h
  ·cases h
theorem aa8:ak Tryz.prog Y2:=ae (C:=C0) (A:=yD) abx abx cok_none mO (f:=Tryz.f225) (by kernel_rfl) fun bs r h=>by
  split at h
  ·exact h
  ·cases h
theorem abf:ak Tryz.prog ZM:=ae (C:=C0) (A:=yq) aa8 aa8 cok_none mO (f:=Tryz.f168) (by kernel_rfl) fun bs r h=>by
  split at h
  ·exact h
  ·cases h
theorem abW:ak Tryz.prog Zv:=ae (C:=C0) (A:=II) abf abf cok_none mO (f:=Tryz.f226) (by kernel_rfl) fun bs r h=>by
  split at h
  ·exact h
  ·cases h
theorem ab7:ak Tryz.prog Z8:=ae (C:=C0) (A:=DN) abW abW cok_none mO (f:=Tryz.f227) (by kernel_rfl) fun bs r h=>by
  split at h
  ·exact h
  ·cases h
theorem abX:ak Tryz.prog Y8:=ae (C:=C0) (A:=yR) ab7 ab7 cok_none mO (f:=Tryz.f170) (by kernel_rfl) fun bs r h=>by
  split at h
  ·exact h
  ·cases h
theorem aay:ak Tryz.prog X0:=ae (C:=C0) (A:=A1) abX abX cok_none mO (f:=Tryz.f246) (by kernel_rfl) fun bs r h=>by
  split at h
  ·exact (Oq ..).trans h
  ·cases h
theorem abR:ak Tryz.prog Z4:= .ext zo (kB (C:=C0) (A:=A0) aay cok_none mO (f:=Tryz.f223) (by kernel_rfl) (by kernel_rfl) (by kernel_rfl) (fun vs bs r hl h=>by
  split at h
  ·rename_i heq;cases heq;exact (xW ..).trans h
  ·rename_i heq;cases heq;simp at hl
  ·cases h) (fun bs r h=>by
  split at h
  ·rename_i heq;cases heq
  ·rename_i heq;cases heq;exact (sN ..).trans (xq h)
  ·cases h)) aay
theorem aaL:ak Tryz.prog Ze:=ae (C:=C0) (A:=AH) abR abR cok_none mO (f:=Tryz.f224) (by kernel_rfl) fun bs r h=>by
  split at h
  ·exact (FD ..).trans h
  ·cases h
theorem Rb:ak Tryz.prog Nr:=ae (C:=C0) (A:=vK) aaL aaL cok_none mO (f:=Tryz.f166) (by kernel_rfl) fun bs r h=>by
  split at h
  ·exact (CK ..).trans h
  ·cases h
theorem ax:ah Tryz.prog bU ⟨.inl av,false,[],0,fun _=>none⟩:=
 aE (C:=C0) (A:=A0) Rb cok_none mO (f:=Tryz.f212) (by kernel_rfl) (by kernel_rfl)
theorem mE:ak Tryz.prog eV:= .ext cJ ax <| Rb
theorem aN:ah Tryz.prog bJ ⟨.inl aI,false,[],0,fun _=>none⟩:=
 aE (C:=C0) (A:=A0) mE cok_none mO (f:=Tryz.f213) (by kernel_rfl) (by kernel_rfl)
theorem lC:ak Tryz.prog ej:= .ext cJ ax <| .ext cK aN <| Rb
theorem ba:ah Tryz.prog cZ ⟨.inl aV,false,[],0,fun _=>none⟩:=
 aE (C:=C0) (A:=A0) lC cok_none mO (f:=Tryz.f215) (by kernel_rfl) (by kernel_rfl)
theorem kL:ak Tryz.prog dJ:= .ext cJ ax <| .ext cK aN <| .ext gm ba <| Rb
theorem bL:ah Tryz.prog dW ⟨.inl bj,false,[],0,fun _=>none⟩:=
 aE (C:=C0) (A:=A0) kL cok_none mO (f:=Tryz.f214) (by kernel_rfl) (by kernel_rfl)
theorem lB:ak Tryz.prog dY:= .ext cJ ax <| .ext cK aN <| .ext gm ba <| .ext jD bL <| Rb
theorem dy:ah Tryz.prog ij ⟨.inl cj,false,[],0,fun _=>none⟩:=
 aE (C:=C0) (A:=A0) lB cok_none mO (f:=Tryz.f217) (by kernel_rfl) (by kernel_rfl)
theorem kf:ak Tryz.prog dB:= .ext cJ ax <| .ext cK aN <| .ext gm ba <| .ext jD bL <| .ext pS dy <| Rb
theorem iK:ah Tryz.prog jz ⟨.inl dN,false,[],0,fun _=>none⟩:=
 aE (C:=C0) (A:=A0) kf cok_none mO (f:=Tryz.f216) (by kernel_rfl) (by kernel_rfl)
theorem Fa:ak Tryz.prog (r8):= .ext cJ ax <| .ext cK aN <| .ext gm ba <| .ext jD bL <| .ext pS dy <| .ext vE iK <| Rb
theorem VL:ak Tryz.prog U6:=ae (C:=C0) (A:=ux) Rb Fa cok_none mO (f:=Tryz.f159) (by kernel_rfl) fun bs r h=>by
  split at h
  ·exact h
  ·cases h
theorem bD:ah Tryz.prog eb ⟨.inl bg,false,[],0,fun _=>none⟩:=
 aE (C:=C0) (A:=A0) VL cok_none mO (f:=Tryz.f219) (by kernel_rfl) (by kernel_rfl)
theorem lU:ak Tryz.prog ez:= .ext jB bD <| VL
theorem dK:ah Tryz.prog bJ ⟨.inl ct,false,[],0,fun _=>none⟩:=
 aE (C:=C0) (A:=A0) lU cok_none mO (f:=Tryz.f213) (by kernel_rfl) (by kernel_rfl)
theorem lZ:ak Tryz.prog ey:= .ext jB bD <| .ext cK dK <| VL
theorem jZ:ah Tryz.prog om ⟨.inl eT,false,[],0,fun _=>none⟩:=
 aE (C:=C0) (A:=A0) lZ cok_none mO (f:=Tryz.f220) (by kernel_rfl) (by kernel_rfl)
theorem CS:ak Tryz.prog (qS):= .ext jB bD <| .ext cK dK <| .ext CX jZ <| VL
theorem ace:ak Tryz.prog aaq:=ae (C:=C0) (A:=sR) VL CS cok_none mO (f:=Tryz.f160) (by kernel_rfl) fun bs r h=>by
  split at h
  ·exact h
  ·cases h
theorem abS:ak Tryz.prog Z7:=ae (C:=C0) (A:=y2) ace ace cok_none mO (f:=Tryz.f94) (by kernel_rfl) fun bs r h=>by
  split at h
  ·exact h
  ·cases h
theorem aaF:ak Tryz.prog Y6:=ae (C:=C0) (A:=A1) abS abS cok_none mO (f:=Tryz.f163) (by kernel_rfl) fun bs r h=>by
  split at h
  ·exact h
  ·cases h
theorem acg:ak Tryz.prog aar:=ae (C:=C0) (A:=A0) aaF aaF cok_none mO (f:=Tryz.f165) (by kernel_rfl) fun bs r h=>by
  split at h
  ·exact h
  ·cases h
theorem abJ:ak Tryz.prog YU:=ae (C:=C0) (A:=A0) acg acg cok_none mO (f:=Tryz.f167) (by kernel_rfl) fun bs r h=>by
  split at h
  ·exact h
  ·cases h
theorem XP:ak Tryz.prog VS:=ae (C:=C0) (A:=A0) abJ abJ cok_none mO (f:=Tryz.f169) (by kernel_rfl) fun bs r h=>by
  split at h
  ·exact h
  ·cases h
theorem eh:ah Tryz.prog jk ⟨.inl cB,false,[],0,fun _=>none⟩:=
 aE (C:=C0) (A:=fx) XP cok_none mO (f:=Tryz.f162) (by kernel_rfl) (by kernel_rfl)
theorem oc:ak Tryz.prog gj:= .ext qF eh <| XP
theorem mI:ah Tryz.prog jT ⟨.inl gK,false,[],0,fun _=>none⟩:=
 tg (C:=C0) (A:=A0) oc cok_none mO pg (f:=Tryz.f161) (by kernel_rfl) (by kernel_rfl)
theorem It:ak Tryz.prog (uj):= .ext qF eh <| .ext wa mI <| XP
theorem Qt:ak Tryz.prog N0:=ae (C:=C0) (A:=wz) XP It cok_none mO (f:=Tryz.f96) (by kernel_rfl) fun bs r h=>by
  split at h
  ·exact h
  ·cases h
theorem aH:ah Tryz.prog cz ⟨.inl aG,false,[],0,fun _=>none⟩:=
 aE (C:=C0) (A:=gO) Qt cok_none mO (f:=Tryz.f90) (by kernel_rfl) (by kernel_rfl)
theorem n4:ak Tryz.prog fZ:= .ext dU aH <| Qt
theorem aZ:ah Tryz.prog dt ⟨.inl aW,false,[],0,fun _=>none⟩:=
 aE (C:=C0) (A:=gD) n4 cok_none mO (f:=Tryz.f91) (by kernel_rfl) (by kernel_rfl)
theorem nX:ak Tryz.prog ga:= .ext dU aH <| .ext fN aZ <| Qt
theorem bz:ah Tryz.prog eE ⟨.inl bl,false,[],0,fun _=>none⟩:=
 aE (C:=C0) (A:=A0) nX cok_none mO (f:=Tryz.f93) (by kernel_rfl) (by kernel_rfl)
theorem oa:ak Tryz.prog gg:= .ext dU aH <| .ext fN aZ <| .ext jd bz <| Qt
theorem cD:ah Tryz.prog gQ ⟨.inl bZ,false,[],0,fun _=>none⟩:=
 aE (C:=C0) (A:=A0) oa cok_none mO (f:=Tryz.f95) (by kernel_rfl) (by kernel_rfl)
theorem oo:ak Tryz.prog gi:= .ext dU aH <| .ext fN aZ <| .ext jd bz <| .ext na cD <| Qt
theorem fB:ah Tryz.prog kA ⟨.inl dv,false,[],0,fun _=>none⟩:=
 aE (C:=C0) (A:=A0) oo cok_none mO (f:=Tryz.f97) (by kernel_rfl) (by kernel_rfl)
theorem qd:ak Tryz.prog iw:= .ext dU aH <| .ext fN aZ <| .ext jd bz <| .ext na cD <| .ext sJ fB <| Qt
theorem nH:ah Tryz.prog rA ⟨.inl iC,false,[],0,fun _=>none⟩:=
 aE (C:=C0) (A:=A0) qd cok_none mO (f:=Tryz.f49) (by kernel_rfl) (by kernel_rfl)
theorem Mr:ak Tryz.prog (yU):= .ext dU aH <| .ext fN aZ <| .ext jd bz <| .ext na cD <| .ext sJ fB <| .ext HF nH <| Qt
theorem aaQ:ak Tryz.prog Xo:=ae (C:=C0) (A:=Ce) Qt Mr cok_none mO (f:=Tryz.f22) (by kernel_rfl) fun bs r h=>by
  split at h
  ·exact h
  ·cases h
theorem abI:ak Tryz.prog aaf:= .ext xt (kB (C:=C0) (A:=A0) aaQ cok_none mO (f:=Tryz.f45) (by kernel_rfl) (by kernel_rfl) (by kernel_rfl) (fun vs bs r hl h=>by
  split at h
  ·rename_i heq;cases heq;exact h
  ·rename_i heq;cases heq;simp at hl
  ·cases h) (fun bs r h=>by
  split at h
  ·rename_i heq;cases heq
  ·rename_i heq;cases heq;exact (qk ..).trans (xq h)
  ·cases h)) aaQ
theorem abb:ak Tryz.prog ZK:=ae (C:=C0) (A:=yO) abI abI cok_none mO (f:=Tryz.f88) (by kernel_rfl) fun bs r h=>by
  split at h
  ·exact (Fl ..).trans h
  ·cases h
theorem aaG:ak Tryz.prog aae:=ae (C:=C0) (A:=A0) abb abb cok_none mO (f:=Tryz.f48) (by kernel_rfl) fun bs r h=>by
  split at h
  ·exact (QZ ..).trans h
  ·cases h
theorem aba:ak Tryz.prog Y0:=ae (C:=C0) (A:=Gk) aaG aaG cok_none mO (f:=Tryz.f16) (by kernel_rfl) fun bs r h=>by
  split at h
  ·exact (MR ..).trans h
  ·cases h
theorem ab4:ak Tryz.prog VW:=ae (C:=C0) (A:=y1) aba aba cok_none mO (f:=Tryz.f82) (by kernel_rfl) fun bs r h=>by
  split at h
  ·exact h
  ·cases h
theorem XX:ak Tryz.prog XQ:= .ext yo (kB (C:=C0) (A:=A0) ab4 cok_none mO (f:=Tryz.f44) (by kernel_rfl) (by kernel_rfl) (by kernel_rfl) (fun vs bs r hl h=>by
  split at h
  ·rename_i heq;cases heq;exact h
  ·rename_i heq;cases heq;simp at hl
  ·cases h) (fun bs r h=>by
  split at h
  ·rename_i heq;cases heq
  ·rename_i heq;cases heq;exact (rn ..).trans (xq h)
  ·cases h)) ab4
theorem FN {C:IV->List Nat->List (List IV)->Option (List IV)} (hC:COK Tryz.prog C):ah Tryz.prog tc ⟨.pure,true,[1],0,fun l=>match l with | [[x0],[x1,x2],[x3]]=>gn C x0 x1 x2 x3 | _=>none⟩:=
 iQ (C:=C) (A:=BH) XX hC mO (f:=Tryz.f83) (by kernel_rfl) (by kernel_rfl) (by kernel_rfl) rfl fun bs r h=>by
  split at h
  ·exact (F4 C ..).trans h
  ·cases h
theorem abC:ak Tryz.prog Z6:=ae (C:=C0) (A:=A1) XX XX cok_none mO (f:=Tryz.f84) (by kernel_rfl) fun bs r h=>by
  split at h
  ·exact (qv ..).trans h
  ·cases h
theorem xw:COK Tryz.prog (eD):=
 eM Ck (fun caps cv w ok hcap=>aw (C:=C0) (A:=A1) XX cok_none mO (f:=Tryz.f84) (by kernel_rfl) (by kernel_rfl) hcap (by kernel_rfl) fun bs r h=>by
  split at h
  ·exact (qv ..).trans h
  ·cases h) <|
 eM wk (fun caps cv w ok hcap=>aw (C:=C0) (A:=A1) G55 cok_none mO (f:=Tryz.f85) (by kernel_rfl) (by kernel_rfl) hcap (by kernel_rfl) fun bs r h=>by
  split at h
  ·exact (mR ..).trans h
  ·cases h) <|
 cok_none
theorem GX:ak Tryz.prog (uo):= .ext Ks (FN (xw)) <| abC
theorem abG:ak Tryz.prog ZV:=ae (C:=(eD)) (A:=wX) abC GX (xw) mO (f:=Tryz.f46) (by kernel_rfl) fun bs r h=>by
  split at h
  ·exact (CJ ..).trans h
  ·cases h
theorem abc:ak Tryz.prog XA:=ae (C:=C0) (A:=Dl) abG abG cok_none mO (f:=Tryz.f25) (by kernel_rfl) fun bs r h=>by
  split at h
  ·exact (Ka ..).trans h
  ·cases h
theorem aaJ:ak Tryz.prog Zp:= .ext vq (kB (C:=C0) (A:=eN) abc cok_none mO (f:=Tryz.f43) (by kernel_rfl) (by kernel_rfl) (by kernel_rfl) (fun vs bs r hl h=>by
  split at h
  ·rename_i heq;cases heq;exact h
  ·rename_i heq;cases heq;simp at hl
  ·cases h) (fun bs r h=>by
  split at h
  ·rename_i heq;cases heq
  ·rename_i heq;cases heq;exact (pG ..).trans (xq h)
  ·cases h)) abc
theorem aaX:ak Tryz.prog aam:=ae (C:=C0) (A:=Bd) aaJ aaJ cok_none mO (f:=Tryz.f81) (by kernel_rfl) fun bs r h=>by
  split at h
  ·exact h
  ·cases h
theorem aaY:ak Tryz.prog WZ:= .ext xL (kB (C:=C0) (A:=qb) aaX cok_none mO (f:=Tryz.f42) (by kernel_rfl) (by kernel_rfl) (by kernel_rfl) (fun vs bs r hl h=>by
  split at h
  ·rename_i heq;cases heq;exact h
  ·cases h) (fun bs r h=>by
  split at h
  ·rename_i heq;cases heq
  ·cases h)) aaX
theorem abl:ak Tryz.prog aag:= .ext zU (kB (C:=C0) (A:=iu) aaY cok_none mO (f:=Tryz.f12) (by kernel_rfl) (by kernel_rfl) (by kernel_rfl) (fun vs bs r hl h=>by
  split at h
  ·rename_i heq;cases heq;exact h
  ·rename_i heq;cases heq;simp at hl
  ·cases h) (fun bs r h=>by
  split at h
  ·rename_i heq;cases heq
  ·rename_i heq;cases heq;exact (rU ..).trans (xq h)
  ·cases h)) aaY
theorem ack:ak Tryz.prog Wx:=ae (C:=C0) (A:=A0) abl abl cok_none mO (f:=Tryz.f24) (by kernel_rfl) fun bs r h=>by
  split at h
  ·exact (HO ..).trans h
  ·cases h
theorem aca:ak Tryz.prog YV:= .ext zK (kB (C:=C0) (A:=A0) ack cok_none mO (f:=Tryz.f15) (by kernel_rfl) (by kernel_rfl) (by kernel_rfl) (fun vs bs r hl h=>by
  split at h
  ·rename_i heq;cases heq;exact h
  ·rename_i heq;cases heq;simp at hl
  ·cases h) (fun bs r h=>by
  split at h
  ·rename_i heq;cases heq
  ·rename_i heq;cases heq;exact (sg ..).trans (xq h)
  ·cases h)) ack
theorem XT:ak Tryz.prog WJ:=ae (C:=C0) (A:=Bi) aca aca cok_none mO (f:=Tryz.f40) (by kernel_rfl) fun bs r h=>by
  split at h
  ·exact h
  ·cases h
theorem jy:ah Tryz.prog tY ⟨.inl gq,false,[],0,fun _=>none⟩:=
 aE (C:=C0) (A:=lX) XT cok_none mO (f:=Tryz.f10) (by kernel_rfl) (by kernel_rfl)
theorem tN:ak Tryz.prog kZ:= .ext DB jy <| XT
theorem qi:ah Tryz.prog Ab ⟨.inl lL,false,[],0,fun _=>none⟩:=
 aE (C:=C0) (A:=mf) tN cok_none mO (f:=Tryz.f27) (by kernel_rfl) (by kernel_rfl)
theorem Pk:ak Tryz.prog (Am):= .ext DB jy <| .ext QC qi <| XT
theorem abv:ak Tryz.prog YW:=ae (C:=C0) (A:=Em) XT Pk cok_none mO (f:=Tryz.f9) (by kernel_rfl) fun bs r h=>by
  split at h
  ·exact h
  ·cases h
theorem abm:ak Tryz.prog YS:=ae (C:=C0) (A:=yV) abv abv cok_none mO (f:=Tryz.f13) (by kernel_rfl) fun bs r h=>by
  split at h
  ·exact (E4 ..).trans h
  ·cases h
theorem acm:ak Tryz.prog Zx:=ae (C:=C0) (A:=A1) abm abm cok_none mO (f:=Tryz.f205) (by kernel_rfl) fun bs r h=>by
  split at h
  ·exact (Iy ..).trans h
  ·cases h
theorem abo:ak Tryz.prog Zi:=ae (C:=C0) (A:=yS) acm acm cok_none mO (f:=Tryz.f206) (by kernel_rfl) fun bs r h=>by
  split at h
  ·exact (Fk ..).trans h
  ·cases h
theorem abi:ak Tryz.prog aao:=ae (C:=C0) (A:=A1) abo abo cok_none mO (f:=Tryz.f207) (by kernel_rfl) fun bs r h=>by
  split at h
  ·exact (I7 ..).trans h
  ·cases h
theorem aaB:ak Tryz.prog Y5:=ae (C:=C0) (A:=AZ) abi abi cok_none mO (f:=Tryz.f152) (by kernel_rfl) fun bs r h=>by
  split at h
  ·exact (HW ..).trans h
  ·cases h
theorem ab9:ak Tryz.prog ZB:=ae (C:=C0) (A:=A1) aaB aaB cok_none mO (f:=Tryz.f87) (by kernel_rfl) fun bs r h=>by
  split at h
  ·exact (FQ ..).trans h
  ·cases h
theorem abL:ak Tryz.prog Y9:=ae (C:=C0) (A:=yL) ab9 ab9 cok_none mO (f:=Tryz.f47) (by kernel_rfl) fun bs r h=>by
  split at h
  ·exact (E5 ..).trans h
  ·cases h
theorem ab5:ak Tryz.prog Zd:=ae (C:=C0) (A:=Ap) abL abL cok_none mO (f:=Tryz.f14) (by kernel_rfl) fun bs r h=>by
  split at h
  ·exact (HT ..).trans h
  ·cases h
theorem aa1:ak Tryz.prog Y1:=ae (C:=C0) (A:=Dn) ab5 ab5 cok_none mO (f:=Tryz.f17) (by kernel_rfl) fun bs r h=>by
  split at h
  ·exact (Jp ..).trans h
  ·cases h
theorem aax:ak Tryz.prog YP:=ae (C:=C0) (A:=A1) aa1 aa1 cok_none mO (f:=Tryz.f145) (by kernel_rfl) fun bs r h=>by
  split at h
  ·exact (IQ ..).trans h
  ·cases h
theorem aaz:ak Tryz.prog ZO:=ae (C:=C0) (A:=yu) aax aax cok_none mO (f:=Tryz.f75) (by kernel_rfl) fun bs r h=>by
  split at h
  ·exact (Fm ..).trans h
  ·cases h
theorem abM:ak Tryz.prog ZW:=ae (C:=C0) (A:=Ca) aaz aaz cok_none mO (f:=Tryz.f35) (by kernel_rfl) fun bs r h=>by
  split at h
  ·exact (Gf ..).trans h
  ·cases h
theorem Mi:ak Tryz.prog (y0):= .ext oz (Qr nT fun _ _ h=>h) <| abM
theorem ab3:ak Tryz.prog aab:= .ext I3 (sig_mko (C:=C0) (A:=A0) Mi cok_none mO (f:=Tryz.f31) (by kernel_rfl) (by kernel_rfl) (fun bs r h=>by
  split at h
  ·exact (GB ..).trans h
  ·cases h)) abM
theorem aaZ:ak Tryz.prog aai:= .ext J9 (xJ (C:=C0) (A:=AG) ab3 cok_none mO (f:=Tryz.f76) (by kernel_rfl) (by kernel_rfl) (fun bs r h=>by
  split at h
  ·exact (F8 ..).trans h
  ·cases h)) ab3
theorem aaI:ak Tryz.prog Zf:= .ext zB (xJ (C:=C0) (A:=A0) aaZ cok_none mO (f:=Tryz.f36) (by kernel_rfl) (by kernel_rfl) (fun bs r h=>by
  split at h
  ·exact (yn ..).trans h
  ·cases h)) aaZ
theorem aa7:ak Tryz.prog YY:= .ext tj (Wz (C:=C0) (A:=mN) aaI cok_none mO (f:=Tryz.f73) (by kernel_rfl) (by kernel_rfl) (fun x bs r h=>by
  split at h
  ·rename_i heq;cases heq;exact (r9 ..).trans h
  ·cases h)) aaI
theorem ab8:ak Tryz.prog Z9:=ae (C:=C0) (A:=A1) aa7 aa7 cok_none mO (f:=Tryz.f201) (by kernel_rfl) fun bs r h=>by
  split at h
  ·exact (K8 ..).trans h
  ·cases h
theorem abK:ak Tryz.prog Zk:=ae (C:=C0) (A:=LK) ab8 ab8 cok_none mO (f:=Tryz.f144) (by kernel_rfl) fun bs r h=>by
  split at h
  ·exact (Rz ..).trans h
  ·cases h
theorem abr:ak Tryz.prog X9:=ae (C:=C0) (A:=Gy) abK abK cok_none mO (f:=Tryz.f74) (by kernel_rfl) fun bs r h=>by
  split at h
  ·exact (Ml ..).trans h
  ·cases h
theorem aci:ak Tryz.prog Z0:= .ext zN (kB (C:=C0) (A:=lI) abr cok_none mO (f:=Tryz.f33) (by kernel_rfl) (by kernel_rfl) (by kernel_rfl) (fun vs bs r hl h=>by
  split at h
  ·rename_i heq;cases heq;exact (xM ..).trans h
  ·rename_i heq;cases heq;simp at hl
  ·cases h) (fun bs r h=>by
  split at h
  ·rename_i heq;cases heq
  ·rename_i heq;cases heq;exact (rM ..).trans (xq h)
  ·cases h)) abr
theorem aaR:ak Tryz.prog Zq:= .ext xO (xJ (C:=C0) (A:=A0) aci cok_none mO (f:=Tryz.f34) (by kernel_rfl) (by kernel_rfl) (fun bs r h=>by
  split at h
  ·exact (w9 ..).trans h
  ·cases h)) aci
theorem abN:ak Tryz.prog ZL:= .ext vQ (xJ (C:=C0) (A:=A0) aaR cok_none mO (f:=Tryz.f38) (by kernel_rfl) (by kernel_rfl) (fun bs r h=>by
  split at h
  ·exact (uU ..).trans h
  ·cases h)) aaR
theorem ada:ak Tryz.prog acD:=ae (C:=C0) (A:=ur) abN abN cok_none mO (f:=Tryz.f7) (by kernel_rfl) fun bs r h=>by
  split at h
  ·exact (AW ..).trans h
  ·cases h
theorem Au:ah Tryz.prog ue ug:=ak.own ada
end Go.AM

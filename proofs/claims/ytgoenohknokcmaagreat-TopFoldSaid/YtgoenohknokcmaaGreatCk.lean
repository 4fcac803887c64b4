/- Each function that is reached runs in the abstract machine as printed; the others are what it runs. -/
import Derived.Test.YtgoenohknokcmaaGreatSh
import Derived.Test.YtgoenohknokcmaaGreatProg
open Go.Proofs.Tryz renaming prog->ad
open Go renaming FuncId->a1
set_option linter.unusedVariables false
set_option maxRecDepth 100000
 noncomputable section
namespace Go.AM
open Go.Proofs
def gp:a1->Bool:= λg=>g==AF
def mA:a1->Bool:= λg=>g==Jb
abbrev BS:FSig:=⟨.fresh,false,[1],6,λl=>match l with | [[a]]=>dz a | _=>none⟩
def T1:a1->Option FSig:=aH mM BS T0
abbrev qI:FSig:=⟨.obj (uz 123 5),false,[1,1],0,r7⟩
def T2:a1->Option FSig:=aH jn qI T1
abbrev vM:FSig:=⟨.inl (strJ 123 5),false,[],0,λ_=>none⟩
def T3:a1->Option FSig:=aH nv vM T2
abbrev De:FSig:=⟨.fresh,false,[1],4,λl=>match l with | [[a]]=>gh a | _=>none⟩
def T4:a1->Option FSig:=aH nP De T3
abbrev zA:FSig:=⟨.cons,false,[1],6,λl=>match l with | [[a],[b],[c]]=>ee a b c | _=>none⟩
def T5:a1->Option FSig:=aH lB zA T4
abbrev B7:FSig:=⟨.fresh,false,[1],2,λl=>match l with | [[a]]=>e9 a | _=>none⟩
def T6:a1->Option FSig:=aH mH B7 T5
abbrev Bp:FSig:=⟨.cons,false,[1],2,λl=>match l with | [[a],[b],[c]]=>dh a b c | _=>none⟩
def T7:a1->Option FSig:=aH lO Bp T6
abbrev so:FSig:=⟨.obj (uz 123 5),false,[1],0,He⟩
def T8:a1->Option FSig:=aH kP so T7
abbrev Fe:FSig:=⟨.pure,true,[1],0,λl=>match l with | [[a],[b],[c]]=>sB a b c | _=>none⟩
def T9:a1->Option FSig:=aH ye Fe T8
abbrev Cm:FSig:=⟨.cons,false,[1],4,λl=>match l with | [[a],[b],[c]]=>dy a b c | _=>none⟩
def T10:a1->Option FSig:=aH mF Cm T9
abbrev BR:FSig:=⟨.inl (growJ 2 24),false,[],0,λ_=>none⟩
def T11:a1->Option FSig:=aH sd BR T10
theorem O6 (a:IV):run ad T11 C0 A1 Tryz.f124 [[a]]=qS a:=by kernel_rfl
abbrev TQ:FSig:=⟨.pure,true,[1,1,1,1],0,λl=>match l with | [[a]]=>qS a | _=>none⟩
def T12:a1->Option FSig:=aH U0 TQ T11
def E9:Ann:={ join:=(λr=>if r=4 then some [34] else if r=8 then some [56] else none),loop:=(λr=>if r=2 then ([(4,.I),(5,.I)],[[(4,.I),(5,.I)]]) else if r=6 then ([(7,.I),(8,.I),(45,.I)],[[],[]]) else ([],[])),scalar:=true }
theorem Lp (a:IV):run ad T12 C0 E9 Tryz.f57 [[a]]=sk a:=by kernel_rfl
abbrev SK:FSig:=⟨.pure,true,[1,1],0,λl=>match l with | [[a]]=>sk a | _=>none⟩
def T13:a1->Option FSig:=aH Re SK T12
theorem KS (a:IV):run ad T13 C0 A1 Tryz.f28 [[a]]=jJ a:=by kernel_rfl
abbrev SP:FSig:=⟨.pure,true,[1],0,λl=>match l with | [[a]]=>jJ a | _=>none⟩
def T14:a1->Option FSig:=aH Rk SP T13
def Lm:Ann:={ join:=(λr=>if r=1 then some [2] else none),scalar:=true }
theorem RI (a b c d:IV):run ad T14 C0 Lm Tryz.f70 [[a,b,c,d]]=lp a b c d:=by kernel_rfl
abbrev Kv:FSig:=⟨.pure,true,[1],0,λl=>match l with | [[a,b,c,d]]=>lp a b c d | _=>none⟩
def T15:a1->Option FSig:=aH M5 Kv T14
abbrev Mo:FSig:=⟨.pure,true,[1],0,λl=>match l with | [[a]]=>qo a | _=>none⟩
def T16:a1->Option FSig:=aH DI Mo T15
def sX:Ann:={ loop:=(λr=>if r=2 then ([(8,.I)],[[],[(4,.I)]]) else ([],[])),scalar:=true }
theorem zo (a b:IV):run ad T16 C0 sX Tryz.f203 [[a],[b]]=jH a b:=by kernel_rfl
abbrev D8:FSig:=⟨.pure,true,[1],0,λl=>match l with | [[a],[b]]=>jH a b | _=>none⟩
def T17:a1->Option FSig:=aH Dr D8 T16
theorem w9 (a b:IV):run ad T17 C0 A1 Tryz.f148 [[a],[b]]=dK a b:=by kernel_rfl
abbrev pO:FSig:=⟨.pure,true,[1],0,λl=>match l with | [[a],[b]]=>dK a b | _=>none⟩
def T18:a1->Option FSig:=aH pN pO T17
abbrev HX:FSig:=⟨.pure,false,[1,1],0,λl=>match l with | [[a],[b]]=>Az a b | _=>none⟩
def T19:a1->Option FSig:=aH zy HX T18
theorem Rr (a:IV):run ad T19 C0 A1 Tryz.f236 [[a]]=lL a:=by kernel_rfl
abbrev Kn:FSig:=⟨.pure,true,[1],0,λl=>match l with | [[a]]=>lL a | _=>none⟩
def T20:a1->Option FSig:=aH D7 Kn T19
def MC:Ann:={ loop:=(λr=>if r=2 then ([(0,.I),(3,(.B 1))],[[(0,.I),(3,(.B 1))]]) else ([],[])),scalar:=true }
theorem Rd (a:IV):run ad T20 C0 MC Tryz.f60 [[a]]=cG a:=by kernel_rfl
abbrev Mj:FSig:=⟨.pure,true,[1],0,λl=>match l with | [[a]]=>cG a | _=>none⟩
def T21:a1->Option FSig:=aH DA Mj T20
abbrev AE:FSig:=⟨.pure,true,[1],0,λl=>match l with | [[a]]=>gg a | _=>none⟩
def T22:a1->Option FSig:=aH tG AE T21
def pF:Ann:={ loop:=(λr=>if r=2 then ([(8,.I)],[[],[(4,.I)]]) else ([],[])),scalar:=true }
theorem vU (C:IV->List Nat->List (List IV)->Option (List IV)) (a b:IV):run ad T22 C pF Tryz.f155 [[a],[b]]=bJ C a b:=by kernel_rfl
theorem wu (a b c d e:IV):run ad T22 C0 A1 Tryz.f208 [[a,b,c,d],[e]]=lW a b c d e:=by kernel_rfl
abbrev L0:FSig:=⟨.pure,true,[1],0,λl=>match l with | [[a,b,c,d],[e]]=>lW a b c d e | _=>none⟩
def T23:a1->Option FSig:=aH pB L0 T22
def C6:a1->Option FSig:=aH fm ⟨.pure,true,[1],0,λl=>match l with | [[a],[b]]=>bJ (nr) a b | _=>none⟩ <| T23
theorem Nm (a b:IV):run ad C6 (nr) A1 Tryz.f154 [[a],[b]]=oQ a b:=by kernel_rfl
abbrev RA:FSig:=⟨.pure,true,[1,1],0,λl=>match l with | [[a],[b]]=>oQ a b | _=>none⟩
def T24:a1->Option FSig:=aH Rv RA T23
theorem AV (a b c d e:IV):run ad T24 C0 A1 Tryz.f156 [[a,b,c,d],[e]]=oV a b c d e:=by kernel_rfl
abbrev RE:FSig:=⟨.pure,true,[1],0,λl=>match l with | [[a,b,c,d],[e]]=>oV a b c d e | _=>none⟩
def T25:a1->Option FSig:=aH sE RE T24
def Ir:a1->Option FSig:=aH fm ⟨.pure,true,[1],0,λl=>match l with | [[a],[b]]=>bJ (qF) a b | _=>none⟩ <| T25
theorem SN (a b c d e:IV):run ad Ir (qF) A0 Tryz.f89 [[a],[b,c,d,e]]=s7 a b c d e:=by kernel_rfl
abbrev XF:FSig:=⟨.pure,false,[1],0,λl=>match l with | [[a],[b,c,d,e]]=>s7 a b c d e | _=>none⟩
def T26:a1->Option FSig:=aH XA XF T25
def Cu:Ann:={ loop:=(λr=>if r=4 then ([(5,.I)],[[],[(4,.I)]]) else ([],[])),scalar:=true }
theorem Jl (a b:IV):run ad T26 C0 Cu Tryz.f8 [[a],[b]]=ku a b:=by kernel_rfl
abbrev Oq:FSig:=⟨.pure,true,[1],0,λl=>match l with | [[a],[b]]=>ku a b | _=>none⟩
def T27:a1->Option FSig:=aH Pk Oq T26
def lF:Ann:={ join:=(λr=>if r=1 then some [20] else none) }
theorem yd (a b c:IV):runM ad T27 C0 lF [.buf 5,.buf 6] Tryz.f20 [a,b] [[c]]=bZ a b c:=by kernel_rfl
theorem uc (a:IV):run ad T27 C0 lF Tryz.f20 [[.nilp],[a]]=fo a:=by kernel_rfl
abbrev zn:FSig:=⟨.obj [.buf 5,.buf 6],false,[5,1],0,λl=>match l with | [[a,c],[b]]=>bZ a c b | [[a],[b]]=>FE a (fo b) | _=>none⟩
def T28:a1->Option FSig:=aH qQ zn T27
def Ep:Ann:={ loop:=(λr=>if r=2 then ([(8,.I)],[[],[(2,.I)]]) else ([],[])),scalar:=true }
theorem MD (C:IV->List Nat->List (List IV)->Option (List IV)) (a:IV):run ad T28 C Ep Tryz.f109 [[a]]=mn C a:=by kernel_rfl
theorem EB (a:IV):run ad T28 C0 A1 Tryz.f177 [[a]]=jY a:=by kernel_rfl
abbrev JR:FSig:=⟨.pure,true,[1],0,λl=>match l with | [[a]]=>jY a | _=>none⟩
def T29:a1->Option FSig:=aH JM JR T28
theorem Cl (a b:IV):run ad T29 C0 A1 Tryz.f111 [[a],[b]]=eu a b:=by kernel_rfl
abbrev Eo:FSig:=⟨.pure,true,[1],0,λl=>match l with | [[a],[b]]=>eu a b | _=>none⟩
def T30:a1->Option FSig:=aH FF Eo T29
theorem vn (a b:IV):run ad T30 C0 A1 Tryz.f110 [[a],[b]]=jW a b:=by kernel_rfl
abbrev Ju:FSig:=⟨.pure,true,[1],0,λl=>match l with | [[a],[b]]=>jW a b | _=>none⟩
def T31:a1->Option FSig:=aH jX Ju T30
theorem u7 (a b:IV):run ad T31 C0 A1 Tryz.f112 [[a],[b]]=jP a b:=by kernel_rfl
abbrev IY:FSig:=⟨.pure,true,[1],0,λl=>match l with | [[a],[b]]=>jP a b | _=>none⟩
def T32:a1->Option FSig:=aH j8 IY T31
def Au:a1->Option FSig:=aH xq ⟨.pure,true,[1],0,λl=>match l with | [[a]]=>mn (iW) a | _=>none⟩ <| T32
theorem JT (a b c d:IV):run ad Au (iW) A1 Tryz.f52 [[a,b],[c,d]]=ft a b c d:=by kernel_rfl
abbrev OG:FSig:=⟨.pure,true,[1],0,λl=>match l with | [[a,b],[c,d]]=>ft a b c d | _=>none⟩
def T33:a1->Option FSig:=aH NM OG T32
def nY:Ann:={ loop:=(λr=>if r=2 then ([(8,.I)],[[],[(4,.I)]]) else ([],[])),scalar:=true }
theorem uC (C:IV->List Nat->List (List IV)->Option (List IV)) (a b:IV):run ad T33 C nY Tryz.f191 [[a],[b]]=cy C a b:=by kernel_rfl
def kM (C:IV->List Nat->List (List IV)->Option (List IV)):a1->Option FSig:=aH jh ⟨.pure,true,[1],0,λl=>match l with | [[a],[b]]=>cy C a b | _=>none⟩ <| T33
theorem rz (C:IV->List Nat->List (List IV)->Option (List IV)) (a b:IV):run ad (kM C) C A1 Tryz.f125 [[a],[b]]=cD C a b:=by kernel_rfl
theorem OA (a b c d e f:IV):run ad T33 C0 A1 Tryz.f71 [[a,b,c,d,e,f]]=oo a b c d e f:=by kernel_rfl
abbrev Vz:FSig:=⟨.pure,true,[4],0,λl=>match l with | [[a,b,c,d,e,f]]=>oo a b c d e f | _=>none⟩
def T34:a1->Option FSig:=aH VR Vz T33
def HZ:Ann:={ join:=(λr=>if r=2 then some [2] else none),scalar:=true }
theorem OL (a b c d e f:IV):run ad T34 C0 HZ Tryz.f32 [[a,b,c,d,e,f]]=lj a b c d e f:=by kernel_rfl
abbrev V0:FSig:=⟨.pure,true,[1],0,λl=>match l with | [[a,b,c,d,e,f]]=>lj a b c d e f | _=>none⟩
def T35:a1->Option FSig:=aH Tx V0 T34
theorem yD (a b c d e f:IV):run ad T35 C0 A1 Tryz.f126 [[a,b,c,d,e,f]]=mW a b c d e f:=by kernel_rfl
abbrev NW:FSig:=⟨.pure,true,[1],0,λl=>match l with | [[a,b,c,d,e,f]]=>mW a b c d e f | _=>none⟩
def T36:a1->Option FSig:=aH qB NW T35
def FU:a1->Option FSig:=aH fO ⟨.pure,true,[1],0,λl=>match l with | [[a],[b]]=>cD (oO) a b | _=>none⟩ <| T36
def HJ:Ann:={ order:=(λr=>if r=4 then some ([],[0,1,2,3,4,5,6,7,8,9,10,11,12],[]) else none),join:=(λr=>if r=6 then some [2] else none),loop:=(λr=>if r=2 then ([(3,.I)],[[],[(2,.I)]]) else ([],[])),scalar:=true }
theorem N5 (a:IV):run ad FU (oO) HJ Tryz.f58 [[a]]=ll a:=by kernel_rfl
abbrev TB:FSig:=⟨.pure,true,[1],0,λl=>match l with | [[a]]=>ll a | _=>none⟩
def T37:a1->Option FSig:=aH Uy TB T36
def HW:Ann:={ order:=(λr=>if r=4 then some ([],[0,1,2,3,4,5,6,7,8,9,10,11,12,13,14,15,16,17,18,19,20,21,22,23,24,25,26,27,28,29,30,31,32],[]) else none),join:=(λr=>if r=4 then some [44] else none),loop:=(λr=>if r=2 then ([(7,.I)],[[],[(2,.I)]]) else ([],[])),scalar:=true }
theorem NV (a:IV):run ad T37 C0 HW Tryz.f100 [[a]]=dA a:=by kernel_rfl
abbrev VX:FSig:=⟨.pure,true,[1],0,λl=>match l with | [[a]]=>dA a | _=>none⟩
def T38:a1->Option FSig:=aH TH VX T37
def vE:Ann:={ join:=(λr=>if r=1 then some [1] else none),scalar:=true }
theorem yF (a:IV):run ad T38 C0 vE Tryz.f98 [[a]]=nf a:=by kernel_rfl
abbrev N0:FSig:=⟨.pure,true,[1],0,λl=>match l with | [[a]]=>nf a | _=>none⟩
def T39:a1->Option FSig:=aH ng N0 T38
def oe:Ann:={ loop:=(λr=>if r=2 then ([(8,.I)],[[],[(4,.I)]]) else ([],[])),scalar:=true }
theorem uA (C:IV->List Nat->List (List IV)->Option (List IV)) (a b:IV):run ad T39 C oe Tryz.f116 [[a],[b]]=aV C a b:=by kernel_rfl
theorem uF (a b c:IV):run ad T39 C0 A1 Tryz.f178 [[a,b],[c]]=jV a b c:=by kernel_rfl
abbrev I6:FSig:=⟨.pure,true,[1],0,λl=>match l with | [[a,b],[c]]=>jV a b c | _=>none⟩
def T40:a1->Option FSig:=aH nL I6 T39
def Bn:a1->Option FSig:=aH dg ⟨.pure,true,[1],0,λl=>match l with | [[a],[b]]=>aV (lX) a b | _=>none⟩ <| T40
theorem Je (a b:IV):run ad Bn (lX) A1 Tryz.f114 [[a],[b]]=ko a b:=by kernel_rfl
abbrev OB:FSig:=⟨.pure,true,[1,1],0,λl=>match l with | [[a],[b]]=>ko a b | _=>none⟩
def T41:a1->Option FSig:=aH NA OB T40
def wH:Ann:={ loop:=(λr=>if r=2 then ([(0,.I),(9,.I)],[[(0,.I)]]) else ([],[])),scalar:=true }
theorem Dy (a b:IV):run ad T41 C0 wH Tryz.f115 [[a],[b]]=fJ a b:=by kernel_rfl
abbrev Gj:FSig:=⟨.pure,true,[1],0,λl=>match l with | [[a],[b]]=>fJ a b | _=>none⟩
def T42:a1->Option FSig:=aH Gz Gj T41
theorem uQ (a b c:IV):run ad T42 C0 A1 Tryz.f117 [[a,b],[c]]=j7 a b c:=by kernel_rfl
abbrev JJ:FSig:=⟨.pure,true,[1],0,λl=>match l with | [[a,b],[c]]=>j7 a b c | _=>none⟩
def T43:a1->Option FSig:=aH nH JJ T42
def zi:a1->Option FSig:=aH dg ⟨.pure,true,[1],0,λl=>match l with | [[a],[b]]=>aV (lV) a b | _=>none⟩ <| T43
def CD:Ann:={ order:=(λr=>if r=4 then some ([],[0,1,2,3,4,5,6,7,8,9,10,11,12],[13]) else none) }
theorem I2 (a b c:IV):run ad zi (lV) CD Tryz.f54 [[a],[b,c]]=kz a b c:=by kernel_rfl
abbrev Oo:FSig:=⟨.pure,false,[1],0,λl=>match l with | [[a],[b,c]]=>kz a b c | _=>none⟩
def T44:a1->Option FSig:=aH Ot Oo T43
def LN:Ann:={ loop:=(λr=>if r=3 then ([(3,.I),(8,.I)],[[(3,.I)]]) else ([],[])) }
theorem RL (a:IV):run ad T44 C0 LN Tryz.f103 [[a]]=uf a:=by kernel_rfl
abbrev Xr:FSig:=⟨.pure,false,[1],0,λl=>match l with | [[a]]=>uf a | _=>none⟩
def T45:a1->Option FSig:=aH W8 Xr T44
def kJ (C:IV->List Nat->List (List IV)->Option (List IV)):a1->Option FSig:=aH dg ⟨.pure,true,[1],0,λl=>match l with | [[a],[b]]=>aV C a b | _=>none⟩ <| T45
theorem rE (C:IV->List Nat->List (List IV)->Option (List IV)) (a b:IV):run ad (kJ C) C A1 Tryz.f174 [[a],[b]]=cC C a b:=by kernel_rfl
theorem OO (a b:IV):run ad T45 C0 A1 Tryz.f176 [[a],[b]]=lY a b:=by kernel_rfl
abbrev Ub:FSig:=⟨.pure,true,[1],0,λl=>match l with | [[a],[b]]=>lY a b | _=>none⟩
def T46:a1->Option FSig:=aH VQ Ub T45
def rN:Ann:={ order:=(λr=>if r=1 then some ([],[0,1,2,3,4,5,6,7,8,9],[]) else none),scalar:=true }
theorem uK (a b c d:IV):run ad T46 C0 rN Tryz.f175 [[a,b],[c],[d]]=jZ a b c d:=by kernel_rfl
abbrev I0:FSig:=⟨.pure,true,[1],0,λl=>match l with | [[a,b],[c],[d]]=>jZ a b c d | _=>none⟩
def T47:a1->Option FSig:=aH nG I0 T46
def zM:a1->Option FSig:=aH gm ⟨.pure,true,[1],0,λl=>match l with | [[a],[b]]=>cC (lZ) a b | _=>none⟩ <| T47
theorem IJ (a b:IV):run ad zM (lZ) A1 Tryz.f102 [[a],[b]]=na a b:=by kernel_rfl
abbrev NR:FSig:=⟨.pure,true,[1],0,λl=>match l with | [[a],[b]]=>na a b | _=>none⟩
def T48:a1->Option FSig:=aH PE NR T47
def vH:Ann:={ order:=(λr=>if r=1 then some ([],[0,1,2,3,4,5,6],[]) else none),scalar:=true }
theorem yz (a:IV):run ad T48 C0 vH Tryz.f101 [[a]]=nj a:=by kernel_rfl
abbrev OE:FSig:=⟨.pure,true,[1],0,λl=>match l with | [[a]]=>nj a | _=>none⟩
def T49:a1->Option FSig:=aH nk OE T48
def Cp:Ann:={ order:=(λr=>if r=1 then some ([],[0,1,2,3,4,5,6,7,8,9,10,11,12,13,14,15,16,17,18,19,20,21,22,23,24,25,26,27],[]) else none),join:=(λr=>if r=1 then some [4] else none),scalar:=true }
theorem JN (a b c:IV):run ad T49 C0 Cp Tryz.f105 [[a],[b,c]]=kj a b c:=by kernel_rfl
abbrev O2:FSig:=⟨.pure,true,[1],0,λl=>match l with | [[a],[b,c]]=>kj a b c | _=>none⟩
def T50:a1->Option FSig:=aH Px O2 T49
def vR:Ann:={ join:=(λr=>if r=1 then some [1] else none),scalar:=true }
theorem yP (a:IV):run ad T50 C0 vR Tryz.f104 [[a]]=mS a:=by kernel_rfl
abbrev O9:FSig:=⟨.pure,true,[1],0,λl=>match l with | [[a]]=>mS a | _=>none⟩
def T51:a1->Option FSig:=aH m4 O9 T50
theorem pQ (a b c d e f g h:IV):run ad T51 C0 A1 Tryz.f85 [[a,b],[c,d,e,f,g,h]]=cS a b c d e f g h:=by kernel_rfl
abbrev Cj:FSig:=⟨.pure,true,[1],0,λl=>match l with | [[a,b],[c,d,e,f,g,h]]=>cS a b c d e f g h | _=>none⟩
def T52:a1->Option FSig:=aH iP Cj T51
def CJ:Ann:={ loop:=(λr=>if r=3 then ([(5,(.B 6)),(10,.I)],[[(5,(.B 6))]]) else ([],[])) }
theorem IW (a b c:IV):run ad T52 C0 CJ Tryz.f107 [[a],[b,c]]=ky a b c:=by kernel_rfl
abbrev OZ:FSig:=⟨.pure,false,[1],0,λl=>match l with | [[a],[b,c]]=>ky a b c | _=>none⟩
def T53:a1->Option FSig:=aH OU OZ T52
def vw:Ann:={ order:=(λr=>if r=1 then some ([],[0,1,2,3,4,5,6,7,8,9,10],[]) else none),scalar:=true }
theorem yK (a:IV):run ad T53 C0 vw Tryz.f106 [[a]]=nB a:=by kernel_rfl
abbrev Pr:FSig:=⟨.pure,true,[1],0,λl=>match l with | [[a]]=>nB a | _=>none⟩
def T54:a1->Option FSig:=aH nq Pr T53
def wX:Ann:={ loop:=(λr=>if r=3 then ([(3,.M),(12,.I)],[[(3,.M)]]) else if r=8 then ([(3,.M),(23,.I)],[[(3,.M)]]) else ([],[])) }
theorem DB (a b c d e:IV):run ad T54 C0 wX Tryz.f53 [[a,b,c,d,e]]=fI a b c d e:=by kernel_rfl
abbrev Ga:FSig:=⟨.pure,false,[1],0,λl=>match l with | [[a,b,c,d,e]]=>fI a b c d e | _=>none⟩
def T55:a1->Option FSig:=aH Hk Ga T54
theorem yu (a:IV):run ad T55 C0 A1 Tryz.f108 [[a]]=mU a:=by kernel_rfl
abbrev PB:FSig:=⟨.pure,true,[1],0,λl=>match l with | [[a]]=>mU a | _=>none⟩
def T56:a1->Option FSig:=aH mT PB T55
def It:Ann:={ loop:=(λr=>if r=2 then ([(12,.I)],[[],[(2,.I)]]) else ([],[])),scalar:=true }
theorem NU (a b c d e:IV):run ad T56 (dU) It Tryz.f51 [[a,b,c,d,e]]=jr a b c d e:=by kernel_rfl
abbrev VM:FSig:=⟨.pure,true,[1],0,λl=>match l with | [[a,b,c,d,e]]=>jr a b c d e | _=>none⟩
def T57:a1->Option FSig:=aH UF VM T56
def KT:Ann:={ loop:=(λr=>if r=3 then ([(3,(.O [.sn 123 2,.buf 1 (some 5)])),(8,.I)],[[(3,(.O [.sn 123 2,.buf 1 (some 5)]))]]) else ([],[])),scalar:=true }
theorem R5 (C:IV->List Nat->List (List IV)->Option (List IV)) (a:IV):run ad T57 C KT Tryz.f181 [[a]]=il C a:=by kernel_rfl
theorem gI (a:IV):run ad T57 C0 A1 Tryz.f284 [[a]]=db a:=by kernel_rfl
abbrev Di:FSig:=⟨.pure,true,[1],0,λl=>match l with | [[a]]=>db a | _=>none⟩
def T58:a1->Option FSig:=aH DS Di T57
theorem mN (a:IV):run ad T58 C0 A1 Tryz.f285 [[a]]=ey a:=by kernel_rfl
abbrev ER:FSig:=⟨.pure,true,[1],0,λl=>match l with | [[a]]=>ey a | _=>none⟩
def T59:a1->Option FSig:=aH Fw ER T58
def FW:Ann:={ loop:=(λr=>if r=5 then ([(4,.M),(5,(.B 1)),(6,(.B 1)),(17,.I)],[[(5,(.B 1)),(6,(.B 1))]]) else ([],[])) }
theorem Kh (a:IV):run ad T59 C0 FW Tryz.f238 [[a]]=oI a:=by kernel_rfl
abbrev SG:FSig:=⟨.pure,false,[1,1],0,λl=>match l with | [[a]]=>oI a | _=>none⟩
def T60:a1->Option FSig:=aH RT SG T59
theorem Q0 (a:IV):run ad T60 C0 A1 Tryz.f128 [[a]]=xf a:=by kernel_rfl
abbrev XN:FSig:=⟨.pure,true,[1],0,λl=>match l with | [[a]]=>xf a | _=>none⟩
def T61:a1->Option FSig:=aH W5 XN T60
def wj:Ann:={ join:=(λr=>if r=6 then some [26] else none),loop:=(λr=>if r=3 then ([(3,(.B 2)),(9,.I)],[[(3,(.B 2))]]) else ([],[])) }
theorem DU (a:IV):run ad T61 C0 wj Tryz.f237 [[a]]=iT a:=by kernel_rfl
abbrev Gl:FSig:=⟨.pure,false,[1],0,λl=>match l with | [[a]]=>iT a | _=>none⟩
def T62:a1->Option FSig:=aH Hr Gl T61
def CL:Ann:={ loop:=(λr=>if r=3 then ([(3,(.O [.sn 123 2,.buf 1 (some 5)])),(9,.I)],[[(3,(.O [.sn 123 2,.buf 1 (some 5)]))]]) else ([],[])),scalar:=true }
theorem I9 (a:IV):run ad T62 C0 CL Tryz.f186 [[a]]=kA a:=by kernel_rfl
abbrev NI:FSig:=⟨.pure,true,[1],0,λl=>match l with | [[a]]=>kA a | _=>none⟩
def T63:a1->Option FSig:=aH OH NI T62
def CU:Ann:={ loop:=(λr=>if r=5 then ([(5,(.O [.sn 123 2,.buf 1 (some 5)])),(20,.I)],[[(5,(.O [.sn 123 2,.buf 1 (some 5)]))]]) else ([],[])),scalar:=true }
theorem JV (a:IV):run ad T63 C0 CU Tryz.f187 [[a]]=kB a:=by kernel_rfl
abbrev NX:FSig:=⟨.pure,true,[1],0,λl=>match l with | [[a]]=>kB a | _=>none⟩
def T64:a1->Option FSig:=aH O4 NX T63
theorem qL (a:IV):run ad T64 C0 A1 Tryz.f286 [[a]]=fY a:=by kernel_rfl
abbrev DQ:FSig:=⟨.pure,true,[1],0,λl=>match l with | [[a]]=>fY a | _=>none⟩
def T65:a1->Option FSig:=aH DC DQ T64
def ED:Ann:={ join:=(λr=>if r=1 then some [2] else none),scalar:=true }
theorem Mk (a:IV):run ad T65 C0 ED Tryz.f193 [[a]]=fj a:=by kernel_rfl
abbrev RU:FSig:=⟨.pure,true,[1],0,λl=>match l with | [[a]]=>fj a | _=>none⟩
def T66:a1->Option FSig:=aH R6 RU T65
theorem I3:run ad T66 C0 A1 Tryz.f242 []=m0:=by kernel_rfl
abbrev Pp:FSig:=⟨.pure,true,[30],0,λl=>match l with | []=>m0 | _=>none⟩
def T67:a1->Option FSig:=aH Og Pp T66
def E8:Ann:={ loop:=(λr=>if r=3 then ([(0,.I),(4,.I),(8,.I)],[[(0,.I),(4,.I)]]) else if r=12 then ([(0,.I),(4,.I)],[[(0,.I),(4,.I)]]) else if r=15 then ([(0,.I),(4,.I)],[[(0,.I),(4,.I)]]) else ([],[])),scalar:=true }
theorem Mg (a:IV):run ad T67 C0 E8 Tryz.f194 [[a]]=jB a:=by kernel_rfl
abbrev SJ:FSig:=⟨.pure,true,[1,1],0,λl=>match l with | [[a]]=>jB a | _=>none⟩
def T68:a1->Option FSig:=aH SB SJ T67
theorem Oi (a:IV):run ad T68 C0 A1 Tryz.f130 [[a]]=fx a:=by kernel_rfl
abbrev U8:FSig:=⟨.pure,true,[1],0,λl=>match l with | [[a]]=>fx a | _=>none⟩
def T69:a1->Option FSig:=aH Ty U8 T68
def rX:Ann:={ loop:=(λr=>if r=2 then ([(8,.I)],[[],[(4,.I)]]) else ([],[])),scalar:=true }
theorem yX (a b:IV):run ad T69 C0 rX Tryz.f263 [[a],[b]]=fe a b:=by kernel_rfl
abbrev Ch:FSig:=⟨.pure,true,[1],0,λl=>match l with | [[a],[b]]=>fe a b | _=>none⟩
def T70:a1->Option FSig:=aH B9 Ch T69
def dW:Inl:=nz ad T70 C0 A0 Tryz.f260
def gK:a1->Option FSig:=aH ir ⟨.inl dW,false,[],0,λ_=>none⟩ <| T70
def iG:Inl:=nz ad gK C0 A0 Tryz.f266
def wy:a1->Option FSig:=aH ir ⟨.inl dW,false,[],0,λ_=>none⟩ <| aH eG ⟨.inl iG,false,[],0,λ_=>none⟩ <| T70
def yG:Ann:={ order:=(λr=>if r=8 then some ([4,5,6],[0,1,2],[3,7,8]) else none),loop:=(λr=>if r=3 then ([(0,.I),(3,(.B 1)),(4,(.C eG [some 1]))],[[(3,(.B 1))]]) else ([],[])) }
theorem FY (a:IV):run ad wy C0 yG Tryz.f255 [[a]]=kc a:=by kernel_rfl
abbrev II:FSig:=⟨.pure,false,[1],0,λl=>match l with | [[a]]=>kc a | _=>none⟩
def T71:a1->Option FSig:=aH Jg II T70
def Ak:Ann:={ loop:=(λr=>if r=3 then ([(3,(.O [.sn 123 2,.buf 1 (some 5)])),(9,.I)],[[(3,(.O [.sn 123 2,.buf 1 (some 5)]))]]) else ([],[])),scalar:=true }
theorem GU (a:IV):run ad T71 C0 Ak Tryz.f239 [[a]]=lA a:=by kernel_rfl
abbrev Nq:FSig:=⟨.pure,true,[1],0,λl=>match l with | [[a]]=>lA a | _=>none⟩
def T72:a1->Option FSig:=aH M6 Nq T71
theorem La (a:IV):run ad T72 C0 A1 Tryz.f184 [[a]]=bH a:=by kernel_rfl
abbrev QO:FSig:=⟨.pure,true,[1],0,λl=>match l with | [[a]]=>bH a | _=>none⟩
def T73:a1->Option FSig:=aH SS QO T72
theorem My (a:IV):run ad T73 C0 A1 Tryz.f252 [[a]]=mh a:=by kernel_rfl
abbrev RH:FSig:=⟨.pure,true,[1],0,λl=>match l with | [[a]]=>mh a | _=>none⟩
def T74:a1->Option FSig:=aH Sq RH T73
theorem tw (a b:IV):run ad T74 C0 A1 Tryz.f256 [[a],[b]]=p4 a b:=by kernel_rfl
abbrev Hb:FSig:=⟨.pure,true,[1],0,λl=>match l with | [[a],[b]]=>p4 a b | _=>none⟩
def T75:a1->Option FSig:=aH fM Hb T74
def eF:Inl:=nz ad T75 (cZ) A0 Tryz.f250
def iA:a1->Option FSig:=aH im ⟨.inl eF,false,[],0,λ_=>none⟩ <| T75
def iZ:Inl:=nz ad iA (cZ) A0 Tryz.f262
def yN:a1->Option FSig:=aH im ⟨.inl eF,false,[],0,λ_=>none⟩ <| aH eE ⟨.inl iZ,false,[],0,λ_=>none⟩ <| T75
def zL:Ann:={ loop:=(λr=>if r=4 then ([(3,(.C eE [some 1,some 1])),(4,(.O [.sn 123 2,.buf 1 (some 5)])),(10,.I)],[[(4,(.O [.sn 123 2,.buf 1 (some 5)]))]]) else ([],[])),scalar:=true }
theorem F9 (a:IV):run ad yN (cZ) zL Tryz.f240 [[a]]=ln a:=by kernel_rfl
abbrev KW:FSig:=⟨.pure,true,[1],0,λl=>match l with | [[a]]=>ln a | _=>none⟩
def T76:a1->Option FSig:=aH Nb KW T75
def wU:Ann:={ loop:=(λr=>if r=4 then ([(3,(.B 1)),(4,(.B 1)),(12,.I)],[[(3,(.B 1)),(4,(.B 1))]]) else ([],[])),scalar:=true }
theorem Dc (a:IV):run ad T76 C0 wU Tryz.f188 [[a]]=fE a:=by kernel_rfl
abbrev Hv:FSig:=⟨.pure,true,[1],0,λl=>match l with | [[a]]=>fE a | _=>none⟩
def T77:a1->Option FSig:=aH Gf Hv T76
theorem rb (a:IV):run ad T77 C0 A1 Tryz.f287 [[a]]=fX a:=by kernel_rfl
abbrev Dq:FSig:=⟨.pure,true,[1],0,λl=>match l with | [[a]]=>fX a | _=>none⟩
def T78:a1->Option FSig:=aH DL Dq T77
theorem Uv (C:IV->List Nat->List (List IV)->Option (List IV)) (y:IV):tZ ad T78 C A0 Tryz.f288 (PV×List Ob) [.agg [.imm y]] [] (λp h=>some (p,h))=(zt "bonsai/snap.bytes" bH C y).bind λr=>some (.imm (nth r 0),[.box .rw [.imm y]]):=
 Eq.trans (b:=(C (GO "bonsai/snap.bytes" y) [1] []).bind λr=>(bH (nth r 0)).bind λa=>some (.imm (nth a 0),[.box .rw [.imm y]])) (by kernel_rfl) (XW "bonsai/snap.bytes" bH C y (R:=PV×List Ob) λv=>some (PV.imm v,[Ob.box Md.rw [PV.imm y]]))
def yQ:a1->Option FSig:=aH tV ⟨.pure,true,[1],0,λl=>match l with | [[a]]=>il (gA) a | _=>none⟩ <| T78
def zj:Ann:={ order:=(λr=>if r=7 then some ([5,6,7,8],[0,1,2,3],[4,9,10,11]) else if r=8 then some ([5,6,7,8],[0,1,2,3],[4,9,10,11]) else none),loop:=(λr=>if r=5 then ([(3,(.B 1)),(4,(.B 1)),(5,(.B 1)),(6,(.B 1)),(11,.I)],[[(3,(.B 1)),(4,(.B 1)),(5,(.B 1)),(6,(.B 1))]]) else ([],[])),scalar:=true }
theorem Hj (a:IV):run ad yQ (gA) zj Tryz.f182 [[a]]=lQ a:=by kernel_rfl
abbrev K1:FSig:=⟨.pure,true,[1],0,λl=>match l with | [[a]]=>lQ a | _=>none⟩
def T79:a1->Option FSig:=aH Mf K1 T78
def wZ:a1->Option FSig:=aH tV ⟨.pure,true,[1],0,λl=>match l with | [[a]]=>il (fK) a | _=>none⟩ <| T79
def yq:Ann:={ order:=(λr=>if r=5 then some ([5,6,7,8],[0,1,2,3],[4,9,10,11]) else none),loop:=(λr=>if r=3 then ([(3,(.B 1)),(4,(.B 1)),(9,.I)],[[(3,(.B 1)),(4,(.B 1))]]) else ([],[])),scalar:=true }
theorem Et (a:IV):run ad wZ (fK) yq Tryz.f183 [[a]]=j5 a:=by kernel_rfl
abbrev Jz:FSig:=⟨.pure,true,[1],0,λl=>match l with | [[a]]=>j5 a | _=>none⟩
def T80:a1->Option FSig:=aH IP Jz T79
def zG:a1->Option FSig:=aH tV ⟨.pure,true,[1],0,λl=>match l with | [[a]]=>il (jf) a | _=>none⟩ <| T80
def C1:Ann:={ order:=(λr=>if r=3 then some ([],[0,1,2,3,4,5,6,7,8,9,10,11,12,13,14,15,16,17,18,19,20,21],[]) else none),join:=(λr=>if r=1 then some [25] else none) }
theorem Jt (a b c d e:IV):run ad zG (jf) C1 Tryz.f119 [[a,b,c,d,e]]=nh a b c d e:=by kernel_rfl
abbrev Oc:FSig:=⟨.pure,false,[1,1],0,λl=>match l with | [[a,b,c,d,e]]=>nh a b c d e | _=>none⟩
def T81:a1->Option FSig:=aH ND Oc T80
def zg:Ann:={ order:=(λr=>if r=10 then some ([6,7,8,9,10,11],[0,1,2,3,4],[5,12,13,14]) else if r=11 then some ([5,6,7,8],[0,1,2,3],[4,9,10,11]) else if r=12 then some ([5,6,7,8],[0,1,2,3],[4,9,10,11]) else none),loop:=(λr=>if r=8 then ([(4,(.B 1)),(5,(.B 1)),(6,(.B 1)),(7,(.B 1)),(8,(.B 1)),(9,(.B 1)),(17,.I)],[[(4,(.B 1)),(5,(.B 1)),(6,(.B 1)),(7,(.B 1)),(8,(.B 1)),(9,(.B 1))]]) else ([],[])) }
theorem F7 (a:IV):run ad T81 C0 zg Tryz.f120 [[a]]=ld a:=by kernel_rfl
abbrev Lo:FSig:=⟨.pure,false,[1,1],0,λl=>match l with | [[a]]=>ld a | _=>none⟩
def T82:a1->Option FSig:=aH Lq Lo T81
def pR:Ann:={ loop:=(λr=>if r=3 then ([(3,.I),(11,.I)],[[(3,.I)]]) else if r=11 then ([(6,(.B 2)),(27,.I)],[[(6,(.B 2))]]) else ([],[])) }
theorem wm (a:IV):run ad T82 C0 pR Tryz.f121 [[a]]=dM a:=by kernel_rfl
abbrev zf:FSig:=⟨.pure,false,[1],0,λl=>match l with | [[a]]=>dM a | _=>none⟩
def T83:a1->Option FSig:=aH yY zf T82
theorem Hs (a b c d e:IV):run ad T83 C0 A0 Tryz.f55 [[a,b,c,d,e]]=pa a b c d e:=by kernel_rfl
abbrev LG:FSig:=⟨.pure,false,[1,1],0,λl=>match l with | [[a,b,c,d,e]]=>pa a b c d e | _=>none⟩
def T84:a1->Option FSig:=aH KD LG T83
def M9:Ann:={ loop:=(λr=>if r=3 then ([(5,.I),(13,.I)],[[(5,.I)]]) else if r=7 then ([(5,.I),(21,.I)],[[(5,.I)]]) else ([],[])),scalar:=true }
theorem Tg (a b:IV):run ad T84 C0 M9 Tryz.f257 [[a],[b]]=xP a b:=by kernel_rfl
abbrev Xp:FSig:=⟨.pure,true,[1],0,λl=>match l with | [[a],[b]]=>xP a b | _=>none⟩
def T85:a1->Option FSig:=aH Wv Xp T84
theorem TI (a:IV):run ad T85 C0 A1 Tryz.f241 [[a]]=wx a:=by kernel_rfl
abbrev YR:FSig:=⟨.pure,true,[1],0,λl=>match l with | [[a]]=>wx a | _=>none⟩
def T86:a1->Option FSig:=aH Y0 YR T85
def Ek:Ann:={ loop:=(λr=>if r=3 then ([(3,(.B 1)),(8,.I)],[[(3,(.B 1))]]) else ([],[])),scalar:=true }
theorem Nk (a:IV):run ad T86 C0 Ek Tryz.f129 [[a]]=oW a:=by kernel_rfl
abbrev Q5:FSig:=⟨.pure,true,[1],0,λl=>match l with | [[a]]=>oW a | _=>none⟩
def T87:a1->Option FSig:=aH RG Q5 T86
theorem Gb (a:IV):run ad T87 C0 A1 Tryz.f190 [[a]]=fT a:=by kernel_rfl
abbrev MI:FSig:=⟨.pure,true,[1],0,λl=>match l with | [[a]]=>fT a | _=>none⟩
def T88:a1->Option FSig:=aH ME MI T87
def HI:Ann:={ order:=(λr=>if r=1 then some ([],[0,1,2,3,4,5,6,7,8,9,10,11,12,13,14,15],[]) else none),scalar:=true }
theorem Pv (a b:IV):run ad T88 C0 HI Tryz.f123 [[a,b]]=qT a b:=by kernel_rfl
abbrev Ux:FSig:=⟨.pure,true,[1],0,λl=>match l with | [[a,b]]=>qT a b | _=>none⟩
def T89:a1->Option FSig:=aH UT Ux T88
def FB:Ann:={ join:=(λr=>if r=1 then some [15] else if r=10 then some [26] else none),loop:=(λr=>if r=8 then ([(6,(.O [.sn 123 2,.buf 1 (some 5)])),(7,.I),(22,.I)],[[(6,(.O [.sn 123 2,.buf 1 (some 5)]))],[(4,.I),(5,.I)]]) else ([],[])),scalar:=true }
theorem Lw (a b:IV):run ad T89 C0 FB Tryz.f56 [[a],[b]]=oU a b:=by kernel_rfl
abbrev Rg:FSig:=⟨.pure,true,[1,1],0,λl=>match l with | [[a],[b]]=>oU a b | _=>none⟩
def T90:a1->Option FSig:=aH R1 Rg T89
theorem L5 (a b c d e:IV):run ad T90 C0 A1 Tryz.f26 [[a,b,c,d,e]]=mz a b c d e:=by kernel_rfl
abbrev RO:FSig:=⟨.pure,true,[1,1],0,λl=>match l with | [[a,b,c,d,e]]=>mz a b c d e | _=>none⟩
def T91:a1->Option FSig:=aH Rx RO T90
def om:Ann:={ join:=(λr=>if r=1 then some [4] else none),scalar:=true }
theorem uq (a b:IV):run ad T91 C0 om Tryz.f243 [[a],[b]]=eo a b:=by kernel_rfl
abbrev wv:FSig:=⟨.pure,true,[1],0,λl=>match l with | [[a],[b]]=>eo a b | _=>none⟩
def T92:a1->Option FSig:=aH vX wv T91
theorem ux (a b:IV):run ad T92 C0 A1 Tryz.f195 [[a],[b]]=ez a b:=by kernel_rfl
abbrev wg:FSig:=⟨.pure,true,[1,1],0,λl=>match l with | [[a],[b]]=>ez a b | _=>none⟩
def T93:a1->Option FSig:=aH vV wg T92
theorem y5 (a b:IV):run ad T93 C0 A1 Tryz.f131 [[a],[b]]=iO a b:=by kernel_rfl
abbrev B2:FSig:=⟨.pure,true,[1,1],0,λl=>match l with | [[a],[b]]=>iO a b | _=>none⟩
def T94:a1->Option FSig:=aH Cd B2 T93
theorem Fq (a:IV):run ad T94 C0 A1 Tryz.f63 [[a]]=dC a:=by kernel_rfl
abbrev Jw:FSig:=⟨.pure,true,[1,1],0,λl=>match l with | [[a]]=>dC a | _=>none⟩
def T95:a1->Option FSig:=aH IG Jw T94
theorem Rf (a:IV):runN ad T95 C0 A0 [.imm,.imm] Tryz.f64 [[a]]=cq a:=by kernel_rfl
abbrev Wu:FSig:=⟨.mko [.imm,.imm],false,[1],0,λl=>match l with | [[a]]=>cq a | _=>none⟩
def T96:a1->Option FSig:=aH L9 Wu T95
theorem O1 (a b:IV):run ad T96 C0 A1 Tryz.f134 [[a],[b]]=cn a b:=by kernel_rfl
abbrev Wg:FSig:=⟨.pure,true,[],0,λl=>match l with | [[a],[b]]=>cn a b | _=>none⟩
def T97:a1->Option FSig:=aH Wh Wg T96
def dS:Ann:={ join:=(λr=>if r=1 then some [] else none) }
def cx:Inl:=nz ad T97 C0 dS Tryz.f197
def ef:a1->Option FSig:=aH gR ⟨.inl cx,false,[],0,λ_=>none⟩ <| T97
def eC:Ann:={ order:=(λr=>if r=3 then some ([0],[1,2,3,4,5],[6,7,8,9]) else none),join:=(λr=>if r=1 then some [12] else none) }
def ej:Inl:=Us ad ef C0 eC gp Tryz.f132
def r9:a1->Option FSig:=aH gR ⟨.inl cx,false,[],0,λ_=>none⟩ <| aH gk ⟨.inl ej,false,[],0,λ_=>none⟩ <| T97
theorem zT (a b c:IV):runM ad r9 C0 A0 [.imm,.imm] Tryz.f138 [a,b] [[c]]=cg a b c:=by kernel_rfl
abbrev Dn:FSig:=⟨.obj [.imm,.imm],false,[1],0,λl=>match l with | [[a,b],[c]]=>cg a b c | _=>none⟩
def T98:a1->Option FSig:=aH sR Dn T97
def en:Ann:={ join:=(λr=>if r=6 then some [] else none),loop:=(λr=>if r=4 then ([(1,(.K 3 [.imm])),(4,.I),(5,.I)],[[(1,(.K 3 [.imm])),(3,.I)]]) else ([],[])) }
def cN:Inl:=nz ad T98 C0 en Tryz.f133
def eA:a1->Option FSig:=aH iK ⟨.inl cN,false,[],0,λ_=>none⟩ <| T98
def eY:Ann:={ order:=(λr=>if r=3 then some ([0],[1,2,3,4,5],[6,7,8,9]) else none),join:=(λr=>if r=1 then some [12] else none) }
def ff:Inl:=Us ad eA C0 eY gp Tryz.f132
def tc:a1->Option FSig:=aH iK ⟨.inl cN,false,[],0,λ_=>none⟩ <| aH gk ⟨.inl ff,false,[],0,λ_=>none⟩ <| T98
theorem Cf (a b:IV):runM ad tc C0 A0 [.imm,.imm] Tryz.f65 [a,b] []=aC a b:=by kernel_rfl
abbrev FM:FSig:=⟨.obj [.imm,.imm],false,[1],0,λl=>match l with | [[a,b]]=>aC a b | _=>none⟩
def T99:a1->Option FSig:=aH uG FM T98
theorem Ce (a:IV):run ad T99 C0 A1 Tryz.f66 [[a]]=kK a:=by kernel_rfl
abbrev ES:FSig:=⟨.look 2,false,[1],0,λl=>match l with | vs::ws=>(λl=>match l with | [[a]]=>kK a | _=>none) ([.ptr vs 0]::ws) | []=>none⟩
def aen:a1->Option FSig:=aH oH ES T99
theorem zV (a:IV):run ad aen C0 A1 Tryz.f142 [[a]]=jz a:=by kernel_rfl
abbrev DP:FSig:=⟨.look 2,false,[1],0,λl=>match l with | vs::ws=>(λl=>match l with | [[a]]=>jz a | _=>none) ([.ptr vs 0]::ws) | []=>none⟩
def ad9:a1->Option FSig:=aH nV DP aen
def CR:Ann:={ order:=(λr=>if r=15 then some ([],[0,1,2,3,4,5,6,7,8],[]) else none),scalar:=true }
theorem Jh (a:IV):run ad ad9 C0 CR Tryz.f158 [[a]]=m9 a:=by kernel_rfl
abbrev PF:FSig:=⟨.pure,true,[2,1,1],0,λl=>match l with | [[a]]=>m9 a | _=>none⟩
def aeH:a1->Option FSig:=aH NH PF ad9
def Cz:Ann:={ order:=(λr=>if r=12 then some ([4,5,6,7,8],[0,1,2],[3,9,10,11]) else none),loop:=(λr=>if r=7 then ([(0,.I),(7,(.B 2)),(8,.I)],[[(7,(.B 2))],[(2,.I),(3,.I),(4,.I)]]) else ([],[])) }
theorem Jr (a:IV):run ad aeH C0 Cz Tryz.f92 [[a]]=kx a:=by kernel_rfl
abbrev OS:FSig:=⟨.pure,false,[1,1,1],0,λl=>match l with | [[a]]=>kx a | _=>none⟩
def aes:a1->Option FSig:=aH NP OS aeH
def sS:Ann:={ join:=(λr=>if r=2 then some [12] else none) }
theorem AP (a b:IV):runM ad aes C0 sS [.imm,.imm] Tryz.f68 [a,b] []=b9 a b:=by kernel_rfl
abbrev Dp:FSig:=⟨.obj [.imm,.imm],false,[1],0,λl=>match l with | [[a,b]]=>b9 a b | _=>none⟩
def T104:a1->Option FSig:=aH tI Dp aes
theorem OW (a b:IV):runN ad T104 C0 A0 [.imm,.imm,.imm] Tryz.f211 [[a],[b]]=snap_open_s a b:=by kernel_rfl
abbrev S_snap_open:FSig:=⟨.mko [.imm,.imm,.imm],false,[1],0,λl=>match l with | [[a],[b]]=>snap_open_s a b | _=>none⟩
def aff:a1->Option FSig:=aH n_snap_open S_snap_open T104
def z8:Ann:={ order:=(λr=>if r=4 then some ([],[0,1,2,3,4,5,6,7,8,9],[]) else none),loop:=(λr=>if r=2 then ([(3,.I)],[[],[(2,.I)]]) else ([],[])),scalar:=true }
theorem GY (a:IV):run ad aff C0 z8 Tryz.f218 [[a]]=k8 a:=by kernel_rfl
abbrev KR:FSig:=⟨.pure,true,[1],0,λl=>match l with | [[a]]=>k8 a | _=>none⟩
def aeG:a1->Option FSig:=aH Nj KR aff
def H9:Ann:={ order:=(λr=>if r=8 then some ([],[0,1,2,3,4,5,6,7,8,9,10],[]) else none),scalar:=true }
theorem NF (a:IV):run ad aeG C0 H9 Tryz.f222 [[a]]=bI a:=by kernel_rfl
abbrev VF:FSig:=⟨.pure,true,[1,1,1],0,λl=>match l with | [[a]]=>bI a | _=>none⟩
def aeZ:a1->Option FSig:=aH UY VF aeG
theorem Ln (a:IV):run ad aeZ C0 A1 Tryz.f173 [[a]]=cu a:=by kernel_rfl
abbrev Si:FSig:=⟨.pure,true,[],0,λl=>match l with | [[a]]=>cu a | _=>none⟩
def afi:a1->Option FSig:=aH SD Si aeZ
theorem N8 (a:IV):run ad afi C0 A1 Tryz.f164 [[a]]=lq a:=by kernel_rfl
abbrev Uk:FSig:=⟨.pure,true,[1,1],0,λl=>match l with | [[a]]=>lq a | _=>none⟩
def ae1:a1->Option FSig:=aH TF Uk afi
theorem Lu (a b:IV):run ad ae1 C0 A1 Tryz.f265 [[a],[b]]=sw a b:=by kernel_rfl
abbrev RJ:FSig:=⟨.pure,true,[1,1],0,λl=>match l with | [[a],[b]]=>sw a b | _=>none⟩
def aeR:a1->Option FSig:=aH Rm RJ ae1
theorem Nn (a b:IV):run ad aeR C0 A1 Tryz.f264 [[a],[b]]=EW a b:=by kernel_rfl
abbrev Ry:FSig:=⟨.pure,true,[1,1],0,λl=>match l with | [[a],[b]]=>EW a b | _=>none⟩
def adS:a1->Option FSig:=aH SA Ry aeR
theorem R7 (a b:IV):run ad adS C0 A1 Tryz.f259 [[a],[b]]=qb a b:=by kernel_rfl
abbrev Wo:FSig:=⟨.pure,true,[1,1],0,λl=>match l with | [[a],[b]]=>qb a b | _=>none⟩
def aei:a1->Option FSig:=aH WE Wo adS
def qX:Ann:={ order:=(λr=>if r=9 then some ([0],[1,2,3,4,5,6],[7,8,9]) else none),join:=(λr=>if r=4 then some [26] else none),loop:=(λr=>if r=8 then ([(7,(.B 1)),(8,.I)],[[(7,(.B 1))]]) else ([],[])) }
theorem xa (a b:IV):run ad aei C0 qX Tryz.f261 [[a],[b]]=dZ a b:=by kernel_rfl
abbrev AU:FSig:=⟨.pure,false,[1],0,λl=>match l with | [[a],[b]]=>dZ a b | _=>none⟩
def abR:a1->Option FSig:=aH zq AU aei
def eL:Inl:=nz ad abR C0 A0 Tryz.f260
def ix:a1->Option FSig:=aH ir ⟨.inl eL,false,[],0,λ_=>none⟩ <| abR
def jc:Inl:=nz ad ix C0 A0 Tryz.f266
def yt:a1->Option FSig:=aH ir ⟨.inl eL,false,[],0,λ_=>none⟩ <| aH eG ⟨.inl jc,false,[],0,λ_=>none⟩ <| abR
def AA:Ann:={ join:=(λr=>if r=1 then some [22] else if r=8 then some [42] else none),loop:=(λr=>if r=6 then ([(6,(.B 1)),(7,(.C eG [some 1])),(26,.I)],[[(6,(.B 1))],[(4,.I),(5,.I)]]) else ([],[])) }
theorem GW (a b:IV):run ad yt C0 AA Tryz.f249 [[a],[b]]=lN a b:=by kernel_rfl
abbrev Lh:FSig:=⟨.pure,false,[1,1],0,λl=>match l with | [[a],[b]]=>lN a b | _=>none⟩
def aer:a1->Option FSig:=aH Me Lh abR
def zB:Ann:={ join:=(λr=>if r=13 then some [44] else if r=18 then some [65] else none),loop:=(λr=>if r=8 then ([(6,(.O [.imm,.imm])),(7,(.B 1)),(8,.I)],[[(7,(.B 1)),(8,.I)],[(4,.I),(5,.I)]]) else ([],[])) }
theorem GI (a b:IV):run ad aer C0 zB Tryz.f230 [[a],[b]]=lC a b:=by kernel_rfl
abbrev Kr:FSig:=⟨.pure,false,[1,1],0,λl=>match l with | [[a],[b]]=>lC a b | _=>none⟩
def adZ:a1->Option FSig:=aH KX Kr aer
theorem Jq (a b:IV):run ad adZ C0 A0 Tryz.f229 [[a],[b]]=qq a b:=by kernel_rfl
abbrev O7:FSig:=⟨.pure,false,[1],0,λl=>match l with | [[a],[b]]=>qq a b | _=>none⟩
def aek:a1->Option FSig:=aH O5 O7 adZ
def CW:Ann:={ loop:=(λr=>if r=3 then ([(3,.I),(8,.I)],[[(3,.I)]]) else ([],[])),scalar:=true }
theorem IT (a:IV):run ad aek C0 CW Tryz.f232 [[a]]=mZ a:=by kernel_rfl
abbrev NZ:FSig:=⟨.pure,true,[1],0,λl=>match l with | [[a]]=>mZ a | _=>none⟩
def aeP:a1->Option FSig:=aH PH NZ aek
def En:Ann:={ join:=(λr=>if r=1 then some [2] else none),scalar:=true }
theorem Km (a:IV):run ad aeP C0 En Tryz.f141 [[a]]=oJ a:=by kernel_rfl
abbrev Tc:FSig:=⟨.pure,true,[1],0,λl=>match l with | [[a]]=>oJ a | _=>none⟩
def afe:a1->Option FSig:=aH SX Tc aeP
def EP:Ann:={ loop:=(λr=>if r=2 then ([(0,.I),(1,.I),(8,.I)],[[(0,.I)]]) else if r=4 then ([(0,.I),(1,.I)],[[(0,.I),(1,.I)]]) else if r=7 then ([(0,.I),(1,.I)],[[(0,.I),(1,.I)]]) else ([],[])),scalar:=true }
theorem LI (a b:IV):run ad afe C0 EP Tryz.f199 [[a],[b]]=jC a b:=by kernel_rfl
abbrev Sj:FSig:=⟨.pure,true,[1],0,λl=>match l with | [[a],[b]]=>jC a b | _=>none⟩
def aeu:a1->Option FSig:=aH SM Sj afe
def Fi:Ann:={ join:=(λr=>if r=4 then some [19] else none),scalar:=true }
theorem M7 (a:IV):run ad aeu C0 Fi Tryz.f140 [[a]]=l8 a:=by kernel_rfl
abbrev QS:FSig:=⟨.pure,true,[1],0,λl=>match l with | [[a]]=>l8 a | _=>none⟩
def aeJ:a1->Option FSig:=aH Sk QS aeu
theorem tx (a b:IV):run ad aeJ C0 A1 Tryz.f251 [[a],[b]]=qh a b:=by kernel_rfl
abbrev GX:FSig:=⟨.pure,true,[1],0,λl=>match l with | [[a],[b]]=>qh a b | _=>none⟩
def aaA:a1->Option FSig:=aH fL GX aeJ
def eO:Inl:=nz ad aaA (cY) A0 Tryz.f250
def iD:a1->Option FSig:=aH im ⟨.inl eO,false,[],0,λ_=>none⟩ <| aaA
def iY:Inl:=nz ad iD (cY) A0 Tryz.f262
def yp:a1->Option FSig:=aH im ⟨.inl eO,false,[],0,λ_=>none⟩ <| aH eE ⟨.inl iY,false,[],0,λ_=>none⟩ <| aaA
def zw:Ann:={ loop:=(λr=>if r=9 then ([(6,(.C eE [some 1,some 1])),(7,(.O [.imm,.imm])),(8,(.B 1)),(24,.I)],[[(7,(.O [.imm,.imm])),(8,(.B 1))],[(4,.I),(5,.I)]]) else ([],[])) }
theorem Gg (a b:IV):run ad yp (cY) zw Tryz.f231 [[a],[b]]=k7 a b:=by kernel_rfl
abbrev Lj:FSig:=⟨.pure,false,[1,1],0,λl=>match l with | [[a],[b]]=>k7 a b | _=>none⟩
def aew:a1->Option FSig:=aH MY Lj aaA
theorem Jo (a b:IV):run ad aew C0 A0 Tryz.f171 [[a],[b]]=kg a b:=by kernel_rfl
abbrev Oa:FSig:=⟨.pure,false,[1],0,λl=>match l with | [[a],[b]]=>kg a b | _=>none⟩
def aef:a1->Option FSig:=aH Ou Oa aew
theorem Pc (a b:IV):run ad aef C0 A1 Tryz.f233 [[a],[b]]=qO a b:=by kernel_rfl
abbrev Vu:FSig:=⟨.pure,true,[1],0,λl=>match l with | [[a],[b]]=>qO a b | _=>none⟩
def aaW:a1->Option FSig:=aH V2 Vu aef
def er:Ann:={ order:=(λr=>if r=8 then some ([],[0,1,2,3,4,5,6],[]) else none),loop:=(λr=>if r=4 then ([(2,(.K 2 [.buf 1])),(6,.I),(30,.I)],[[(2,(.K 2 [.buf 1]))]]) else ([],[])) }
def cM:Inl:=nz ad aaW C0 er Tryz.f228
def gQ:a1->Option FSig:=aH iQ ⟨.inl cM,false,[],0,λ_=>none⟩ <| aaW
def iv:Inl:=Us ad gQ C0 A0 mA Tryz.f161
def tM:a1->Option FSig:=aH iQ ⟨.inl cM,false,[],0,λ_=>none⟩ <| aH nx ⟨.inl iv,false,[],0,λ_=>none⟩ <| aaW
theorem BQ (a b:IV):run ad tM C0 A0 Tryz.f172 [[a],[b]]=ar a b:=by kernel_rfl
abbrev E6:FSig:=⟨.pure,false,[1,1],0,λl=>match l with | [[a],[b]]=>ar a b | _=>none⟩
def afb:a1->Option FSig:=aH EU E6 aaW
def HU:Ann:={ join:=(λr=>if r=1 then some [19] else if r=7 then some [32] else none),scalar:=true }
theorem NG (a b c:IV):run ad afb C0 HU Tryz.f137 [[a],[b],[c]]=qP a b c:=by kernel_rfl
abbrev TU:FSig:=⟨.pure,true,[1,1,1],0,λl=>match l with | [[a],[b],[c]]=>qP a b c | _=>none⟩
def aeB:a1->Option FSig:=aH Vp TU afb
def MP:Ann:={ order:=(λr=>if r=4 then some ([],[0,1,2,3,4,5,6,7,8,9,10,11,12,13,14,15,16,17],[]) else none),join:=(λr=>if r=4 then some [29] else none),loop:=(λr=>if r=2 then ([(7,.I)],[[],[(2,.I)]]) else ([],[])),scalar:=true }
theorem RZ (a:IV):run ad aeB C0 MP Tryz.f247 [[a]]=sP a:=by kernel_rfl
abbrev XB:FSig:=⟨.pure,true,[1],0,λl=>match l with | [[a]]=>sP a | _=>none⟩
def aeV:a1->Option FSig:=aH Wt XB aeB
def oM:Ann:={ order:=(λr=>if r=9 then some ([0],[1,2,3,4,5,6],[7,8,9]) else none),join:=(λr=>if r=4 then some [26] else none),loop:=(λr=>if r=8 then ([(7,(.B 1)),(8,.I)],[[(7,(.B 1))]]) else ([],[])) }
theorem vA (a b:IV):run ad aeV C0 oM Tryz.f248 [[a],[b]]=dk a b:=by kernel_rfl
abbrev xp:FSig:=⟨.pure,false,[1],0,λl=>match l with | [[a],[b]]=>dk a b | _=>none⟩
def aea:a1->Option FSig:=aH xL xp aeV
def CP:Ann:={ join:=(λr=>if r=1 then some [15] else none),loop:=(λr=>if r=5 then ([(6,(.B 1)),(18,.I)],[[(6,(.B 1))],[(4,.I),(5,.I)]]) else ([],[])) }
theorem JI (a b:IV):run ad aea C0 CP Tryz.f225 [[a],[b]]=nc a b:=by kernel_rfl
abbrev NK:FSig:=⟨.pure,false,[1,1],0,λl=>match l with | [[a],[b]]=>nc a b | _=>none⟩
def ae3:a1->Option FSig:=aH Nw NK aea
def Cq:Ann:={ join:=(λr=>if r=14 then some [59] else none),loop:=(λr=>if r=8 then ([(6,(.O [.imm,.imm])),(7,(.B 2)),(8,.I)],[[(7,(.B 2)),(8,.I)],[(4,.I),(5,.I)]]) else ([],[])) }
theorem Jj (a b:IV):run ad ae3 C0 Cq Tryz.f168 [[a],[b]]=kp a b:=by kernel_rfl
abbrev Py:FSig:=⟨.pure,false,[1,1],0,λl=>match l with | [[a],[b]]=>kp a b | _=>none⟩
def adV:a1->Option FSig:=aH OP Py ae3
def Mw:Ann:={ join:=(λr=>if r=5 then some [26] else if r=15 then some [4] else none),loop:=(λr=>if r=3 then ([(5,.I),(13,.I)],[[(5,.I)],[(4,.I)]]) else if r=11 then ([(8,.M),(35,.I)],[[(8,.M)]]) else ([],[])),scalar:=true }
theorem SQ (a b:IV):run ad adV C0 Mw Tryz.f226 [[a],[b]]=tp a b:=by kernel_rfl
abbrev W4:FSig:=⟨.pure,true,[1],0,λl=>match l with | [[a],[b]]=>tp a b | _=>none⟩
def ad8:a1->Option FSig:=aH Wy W4 adV
def HA:Ann:={ order:=(λr=>if r=5 then some ([],[0,1,2,3,4,5,6,7,8,9,10,11,12,13],[14,15,16]) else none),loop:=(λr=>if r=3 then ([(6,(.B 1)),(14,.I)],[[(6,(.B 1))],[(4,.I),(5,.I)]]) else ([],[])) }
theorem OQ (a b:IV):run ad ad8 C0 HA Tryz.f227 [[a],[b]]=qJ a b:=by kernel_rfl
abbrev Ul:FSig:=⟨.pure,false,[1,1],0,λl=>match l with | [[a],[b]]=>qJ a b | _=>none⟩
def aeO:a1->Option FSig:=aH UK Ul ad8
def CC:Ann:={ loop:=(λr=>if r=15 then ([(11,(.B 1)),(12,.I),(47,.I)],[[(11,(.B 1)),(12,.I)],[(6,.I),(7,.I)]]) else ([],[])) }
theorem Jk (a b c:IV):run ad aeO C0 CC Tryz.f170 [[a],[b],[c]]=bV a b c:=by kernel_rfl
abbrev Pf:FSig:=⟨.pure,false,[1,1],0,λl=>match l with | [[a],[b],[c]]=>bV a b c | _=>none⟩
def aee:a1->Option FSig:=aH O3 Pf aeO
theorem SO (a:IV):run ad aee C0 A1 Tryz.f246 [[a]]=qi a:=by kernel_rfl
abbrev XC:FSig:=⟨.pure,true,[1],0,λl=>match l with | [[a]]=>qi a | _=>none⟩
def adg:a1->Option FSig:=aH Xn XC aee
theorem BU (a b:IV):runM ad adg C0 A0 [.imm,.imm] Tryz.f223 [a,b] []=gU a b:=by kernel_rfl
theorem wC:run ad adg C0 A0 Tryz.f223 [[.nilp]]=rV:=by kernel_rfl
abbrev Ev:FSig:=⟨.obj [.imm,.imm],false,[1],0,λl=>match l with | [[a,b]]=>gU a b | [[a]]=>FE a (rV) | _=>none⟩
def aeD:a1->Option FSig:=aH uV Ev adg
def EH:Ann:={ loop:=(λr=>if r=4 then ([(3,(.B 1)),(4,.I),(9,.I)],[[(3,(.B 1))]]) else ([],[])) }
theorem Kl (a:IV):run ad aeD C0 EH Tryz.f224 [[a]]=pE a:=by kernel_rfl
abbrev Sn:FSig:=⟨.pure,false,[1],0,λl=>match l with | [[a]]=>pE a | _=>none⟩
def afd:a1->Option FSig:=aH QW Sn aeD
def Bl:Ann:={ loop:=(λr=>if r=8 then ([(6,(.O [.imm,.imm])),(7,(.B 1)),(20,.I)],[[(6,(.O [.imm,.imm])),(7,(.B 1))]]) else ([],[])) }
theorem Gk (a b:IV):run ad afd C0 Bl Tryz.f166 [[a],[b]]=bn a b:=by kernel_rfl
abbrev MA:FSig:=⟨.pure,false,[1,1],0,λl=>match l with | [[a],[b]]=>bn a b | _=>none⟩
def SH:a1->Option FSig:=aH KH MA afd
def aM:Inl:=nz ad SH C0 A0 Tryz.f212
def gG:a1->Option FSig:=aH cU ⟨.inl aM,false,[],0,λ_=>none⟩ <| SH
def bg:Inl:=nz ad gG C0 A0 Tryz.f213
def gj:a1->Option FSig:=aH cU ⟨.inl aM,false,[],0,λ_=>none⟩ <| aH cH ⟨.inl bg,false,[],0,λ_=>none⟩ <| SH
def bz:Inl:=nz ad gj C0 A0 Tryz.f215
def fp:a1->Option FSig:=aH cU ⟨.inl aM,false,[],0,λ_=>none⟩ <| aH cH ⟨.inl bg,false,[],0,λ_=>none⟩ <| aH ei ⟨.inl bz,false,[],0,λ_=>none⟩ <| SH
def cf:Inl:=nz ad fp C0 A0 Tryz.f214
def fU:a1->Option FSig:=aH cU ⟨.inl aM,false,[],0,λ_=>none⟩ <| aH cH ⟨.inl bg,false,[],0,λ_=>none⟩ <| aH ei ⟨.inl bz,false,[],0,λ_=>none⟩ <| aH fS ⟨.inl cf,false,[],0,λ_=>none⟩ <| SH
def di:Inl:=nz ad fU C0 A0 Tryz.f217
def fg:a1->Option FSig:=aH cU ⟨.inl aM,false,[],0,λ_=>none⟩ <| aH cH ⟨.inl bg,false,[],0,λ_=>none⟩ <| aH ei ⟨.inl bz,false,[],0,λ_=>none⟩ <| aH fS ⟨.inl cf,false,[],0,λ_=>none⟩ <| aH kL ⟨.inl di,false,[],0,λ_=>none⟩ <| SH
def fA:Inl:=nz ad fg C0 A0 Tryz.f216
def wP:a1->Option FSig:=aH cU ⟨.inl aM,false,[],0,λ_=>none⟩ <| aH cH ⟨.inl bg,false,[],0,λ_=>none⟩ <| aH ei ⟨.inl bz,false,[],0,λ_=>none⟩ <| aH fS ⟨.inl cf,false,[],0,λ_=>none⟩ <| aH kL ⟨.inl di,false,[],0,λ_=>none⟩ <| aH mQ ⟨.inl fA,false,[],0,λ_=>none⟩ <| SH
def yL:Ann:={ order:=(λr=>if r=3 then some ([3,4],[0,1],[2,5,6,7]) else if r=7 then some ([],[0,1,2,3,4,5],[]) else if r=12 then some ([],[0,1,2,3,4,5,6,7,8,9,10,11,12,13,14,15,16,17],[18]) else none),loop:=(λr=>if r=10 then ([(10,(.B 4)),(41,.I)],[[(10,.I)],[(2,.I),(3,.I)]]) else ([],[])) }
theorem Fb (a:IV):run ad wP C0 yL Tryz.f159 [[a]]=jR a:=by kernel_rfl
abbrev Js:FSig:=⟨.pure,false,[1,1],0,λl=>match l with | [[a]]=>jR a | _=>none⟩
def Zc:a1->Option FSig:=aH JL Js SH
def bW:Inl:=nz ad Zc C0 A0 Tryz.f219
def gu:a1->Option FSig:=aH gi ⟨.inl bW,false,[],0,λ_=>none⟩ <| Zc
def dp:Inl:=nz ad gu C0 A0 Tryz.f213
def gv:a1->Option FSig:=aH gi ⟨.inl bW,false,[],0,λ_=>none⟩ <| aH cH ⟨.inl dp,false,[],0,λ_=>none⟩ <| Zc
def gJ:Inl:=nz ad gv C0 A0 Tryz.f220
def vh:a1->Option FSig:=aH gi ⟨.inl bW,false,[],0,λ_=>none⟩ <| aH cH ⟨.inl dp,false,[],0,λ_=>none⟩ <| aH rS ⟨.inl gJ,false,[],0,λ_=>none⟩ <| Zc
def wc:Ann:={ order:=(λr=>if r=3 then some ([3,4],[0,1],[2,5,6,7]) else if r=5 then some ([],[0,1,2,3,4,5],[]) else if r=10 then some ([],[0,1,2,3,4,5,6,7,8,9,10],[11,12]) else none),loop:=(λr=>if r=8 then ([(8,(.B 2)),(32,.I)],[[(8,.I)]]) else ([],[])) }
theorem DD (a:IV):run ad vh C0 wc Tryz.f160 [[a]]=iV a:=by kernel_rfl
abbrev GF:FSig:=⟨.pure,false,[1,1],0,λl=>match l with | [[a]]=>iV a | _=>none⟩
def adX:a1->Option FSig:=aH Hp GF Zc
def CM:Ann:={ join:=(λr=>if r=1 then some [33] else if r=7 then some [51] else none) }
theorem IH (a:IV):run ad adX C0 CM Tryz.f94 [[a]]=nu a:=by kernel_rfl
abbrev OY:FSig:=⟨.pure,false,[5,1],0,λl=>match l with | [[a]]=>nu a | _=>none⟩
def aeX:a1->Option FSig:=aH Oz OY adX
theorem I7 (a:IV):run ad aeX C0 A1 Tryz.f163 [[a]]=ny a:=by kernel_rfl
abbrev Pe:FSig:=⟨.pure,true,[1],0,λl=>match l with | [[a]]=>ny a | _=>none⟩
def ad7:a1->Option FSig:=aH Ox Pe aeX
theorem Jp (a b:IV):run ad ad7 C0 A0 Tryz.f165 [[a],[b]]=kD a b:=by kernel_rfl
abbrev NO:FSig:=⟨.pure,false,[1],0,λl=>match l with | [[a],[b]]=>kD a b | _=>none⟩
def adR:a1->Option FSig:=aH Pj NO ad7
theorem JF (a b:IV):run ad adR C0 A0 Tryz.f167 [[a],[b]]=qy a b:=by kernel_rfl
abbrev ON:FSig:=⟨.pure,false,[1],0,λl=>match l with | [[a],[b]]=>qy a b | _=>none⟩
def aeL:a1->Option FSig:=aH Pt ON adR
theorem JE (a b:IV):run ad aeL C0 A0 Tryz.f169 [[a],[b]]=qt a b:=by kernel_rfl
abbrev N6:FSig:=⟨.pure,false,[1],0,λl=>match l with | [[a],[b]]=>qt a b | _=>none⟩
def abk:a1->Option FSig:=aH Ol N6 aeL
def iy:Ann:={ order:=(λr=>if r=10 then some ([],[0,1,2,3,4,5,6,7,8,9,10,11,12,13,14,15,16,17,18,19,20,21,22,23,24,25,26,27],[28]) else none),loop:=(λr=>if r=8 then ([(1,(.K 1 [.buf 6])),(77,.I)],[[(1,(.K 1 [.buf 6]))]]) else ([],[])) }
def dG:Inl:=nz ad abk C0 iy Tryz.f162
def jv:a1->Option FSig:=aH mm ⟨.inl dG,false,[],0,λ_=>none⟩ <| abk
def kb:Inl:=Us ad jv C0 A0 mA Tryz.f161
def yr:a1->Option FSig:=aH mm ⟨.inl dG,false,[],0,λ_=>none⟩ <| aH nx ⟨.inl kb,false,[],0,λ_=>none⟩ <| abk
def Ap:Ann:={ loop:=(λr=>if r=4 then ([(13,.I)],[[],[(2,.I),(3,.I)]]) else ([],[])) }
theorem F8 (a:IV):run ad yr C0 Ap Tryz.f96 [[a]]=lG a:=by kernel_rfl
abbrev LX:FSig:=⟨.pure,false,[1,1],0,λl=>match l with | [[a]]=>lG a | _=>none⟩
def SI:a1->Option FSig:=aH M1 LX abk
def jQ:Ann:={ join:=(λr=>if r=2 then some [19] else none) }
def ba:Inl:=nz ad SI C0 jQ Tryz.f90
def js:a1->Option FSig:=aH dB ⟨.inl ba,false,[],0,λ_=>none⟩ <| SI
def j6:Ann:={ join:=(λr=>if r=2 then some [23] else none) }
def bD:Inl:=nz ad js C0 j6 Tryz.f91
def ju:a1->Option FSig:=aH dB ⟨.inl ba,false,[],0,λ_=>none⟩ <| aH eN ⟨.inl bD,false,[],0,λ_=>none⟩ <| SI
def cj:Inl:=nz ad ju C0 A0 Tryz.f93
def jq:a1->Option FSig:=aH dB ⟨.inl ba,false,[],0,λ_=>none⟩ <| aH eN ⟨.inl bD,false,[],0,λ_=>none⟩ <| aH gz ⟨.inl cj,false,[],0,λ_=>none⟩ <| SI
def da:Inl:=nz ad jq C0 A0 Tryz.f95
def jo:a1->Option FSig:=aH dB ⟨.inl ba,false,[],0,λ_=>none⟩ <| aH eN ⟨.inl bD,false,[],0,λ_=>none⟩ <| aH gz ⟨.inl cj,false,[],0,λ_=>none⟩ <| aH jS ⟨.inl da,false,[],0,λ_=>none⟩ <| SI
def eD:Inl:=nz ad jo C0 A0 Tryz.f97
def kN:a1->Option FSig:=aH dB ⟨.inl ba,false,[],0,λ_=>none⟩ <| aH eN ⟨.inl bD,false,[],0,λ_=>none⟩ <| aH gz ⟨.inl cj,false,[],0,λ_=>none⟩ <| aH jS ⟨.inl da,false,[],0,λ_=>none⟩ <| aH nN ⟨.inl eD,false,[],0,λ_=>none⟩ <| SI
def lM:Inl:=nz ad kN C0 A0 Tryz.f49
def CK:a1->Option FSig:=aH dB ⟨.inl ba,false,[],0,λ_=>none⟩ <| aH eN ⟨.inl bD,false,[],0,λ_=>none⟩ <| aH gz ⟨.inl cj,false,[],0,λ_=>none⟩ <| aH jS ⟨.inl da,false,[],0,λ_=>none⟩ <| aH nN ⟨.inl eD,false,[],0,λ_=>none⟩ <| aH vK ⟨.inl lM,false,[],0,λ_=>none⟩ <| SI
def ET:Ann:={ unroll:=(λr=>if r=4 then 6 else 0) }
theorem No (a:IV):run ad CK C0 ET Tryz.f22 [[a]]=mB a:=by kernel_rfl
abbrev Q2:FSig:=⟨.pure,false,[5,1],0,λl=>match l with | [[a]]=>mB a | _=>none⟩
def acw:a1->Option FSig:=aH Q3 Q2 SI
theorem y4 (f g h i j k l m n o a b c d e:IV):runM ad acw C0 A0 [.buf 5,.buf 6] Tryz.f45 [f,g] [[h,i,j,k,l],[m,n,o,a,b,c,d,e]]=iJ f g h i j k l m n o a b c d e:=by kernel_rfl
theorem uw (d e f g h i j k l m a b c:IV):run ad acw C0 A0 Tryz.f45 [[.nilp],[d,e,f,g,h],[i,j,k,l,m,a,b,c]]=kF d e f g h i j k l m a b c:=by kernel_rfl
abbrev BT:FSig:=⟨.obj [.buf 5,.buf 6],false,[5,1],0,λl=>match l with | [[f,p],[g,h,i,j,k],[m,n,o,a,b,c,d,e]]=>iJ f p g h i j k m n o a b c d e | [[f],[g,h,i,j,k],[m,n,o,a,b,c,d,e]]=>FE f (kF g h i j k m n o a b c d e) | _=>none⟩
def aez:a1->Option FSig:=aH se BT acw
def C4:Ann:={ join:=(λr=>if r=1 then some [4] else none),scalar:=true }
theorem JC (a b c d e f g:IV):run ad aez C0 C4 Tryz.f88 [[a],[b,c,d,e,f,g]]=m5 a b c d e f g:=by kernel_rfl
abbrev Nx:FSig:=⟨.pure,true,[1],0,λl=>match l with | [[a],[b,c,d,e,f,g]]=>m5 a b c d e f g | _=>none⟩
def aeo:a1->Option FSig:=aH OI Nx aez
theorem V1 (a b c d e f g:IV):run ad aeo C0 A0 Tryz.f48 [[a],[b,c,d,e,f,g]]=wW a b c d e f g:=by kernel_rfl
abbrev YT:FSig:=⟨.pure,false,[1,1],0,λl=>match l with | [[a],[b,c,d,e,f,g]]=>wW a b c d e f g | _=>none⟩
def afc:a1->Option FSig:=aH Zo YT aeo
def MR:Ann:={ loop:=(λr=>if r=2 then ([(0,.I),(9,.I)],[[(0,.I)]]) else ([],[])) }
theorem R2 (a b:IV):run ad afc C0 MR Tryz.f16 [[a],[b]]=fZ a b:=by kernel_rfl
abbrev Ww:FSig:=⟨.pure,false,[1],0,λl=>match l with | [[a],[b]]=>fZ a b | _=>none⟩
def ae7:a1->Option FSig:=aH WU Ww afc
def CS:Ann:={ order:=(λr=>if r=6 then some ([],[0,1,2,3,4,5,6,7,8,9,10,11,12],[13]) else if r=7 then some ([1],[0,2],[3,4,5]) else none),join:=(λr=>if r=1 then some [7] else none) }
theorem Jd (a b c d e f g:IV):run ad ae7 C0 CS Tryz.f82 [[a,b,c,d,e],[f,g]]=kr a b c d e f g:=by kernel_rfl
abbrev PD:FSig:=⟨.pure,false,[5,1],0,λl=>match l with | [[a,b,c,d,e],[f,g]]=>kr a b c d e f g | _=>none⟩
def acW:a1->Option FSig:=aH N4 PD ae7
theorem Bi (f g h i j k l m n o a b c d e:IV):runM ad acW C0 A0 [.buf 5,.buf 6] Tryz.f44 [f,g] [[h,i,j,k,l],[m,n,o,a,b,c,d,e]]=gl f g h i j k l m n o a b c d e:=by kernel_rfl
theorem vP (d e f g h i j k l m a b c:IV):run ad acW C0 A0 Tryz.f44 [[.nilp],[d,e,f,g,h],[i,j,k,l,m,a,b,c]]=lz d e f g h i j k l m a b c:=by kernel_rfl
abbrev DZ:FSig:=⟨.obj [.buf 5,.buf 6],false,[5,1],0,λl=>match l with | [[f,p],[g,h,i,j,k],[m,n,o,a,b,c,d,e]]=>gl f p g h i j k m n o a b c d e | [[f],[g,h,i,j,k],[m,n,o,a,b,c,d,e]]=>FE f (lz g h i j k m n o a b c d e) | _=>none⟩
def ab7:a1->Option FSig:=aH sQ DZ acW
def EG:Ann:={ loop:=(λr=>if r=2 then ([(11,.I)],[[],[(6,.I)]]) else ([],[])),scalar:=true }
theorem MH (C:IV->List Nat->List (List IV)->Option (List IV)) (a b c d:IV):run ad ab7 C EG Tryz.f83 [[a],[b,c],[d]]=jI C a b c d:=by kernel_rfl
theorem uU (a b c d e f g h:IV):run ad ab7 C0 A1 Tryz.f84 [[a,b],[c,d,e,f,g,h]]=jT a b c d e f g h:=by kernel_rfl
abbrev IK:FSig:=⟨.pure,true,[1],0,λl=>match l with | [[a,b],[c,d,e,f,g,h]]=>jT a b c d e f g h | _=>none⟩
def aeh:a1->Option FSig:=aH nC IK ab7
def yv:a1->Option FSig:=aH yg ⟨.pure,true,[1],0,λl=>match l with | [[a],[b,c],[d]]=>jI (gy) a b c d | _=>none⟩ <| aeh
def Bb:Ann:={ order:=(λr=>if r=6 then some ([6],[0,1,2,3,4],[5,7,8,9]) else none) }
theorem Hw (a b c d e f g:IV):run ad yv (gy) Bb Tryz.f46 [[a],[b,c,d,e,f,g]]=iX a b c d e f g:=by kernel_rfl
abbrev Ki:FSig:=⟨.pure,false,[1,1,1],0,λl=>match l with | [[a],[b,c,d,e,f,g]]=>iX a b c d e f g | _=>none⟩
def ae0:a1->Option FSig:=aH MF Ki aeh
def HN:Ann:={ join:=(λr=>if r=1 then some [11] else if r=9 then some [57] else none) }
theorem Od (b c d e f g h i j k a:IV):run ad ae0 C0 HN Tryz.f25 [[b,c,d,e,f],[g,h,i,j,k,a]]=lH b c d e f g h i j k a:=by kernel_rfl
abbrev U3:FSig:=⟨.pure,false,[5,1,1],0,λl=>match l with | [[b,c,d,e,f],[g,h,i,j,k,a]]=>lH b c d e f g h i j k a | _=>none⟩
def acK:a1->Option FSig:=aH Vl U3 ae0
def lP:Ann:={ order:=(λr=>if r=1 then some ([],[0,1,2,3,4,5,6,7,8,9,10,11,12],[]) else if r=3 then some ([12,13],[0,1,2,3,4,5,6,7,8,9,10,11],[14,15,16]) else none),join:=(λr=>if r=1 then some [22] else none) }
theorem xx (f g h i j k l m n o a b c d e:IV):runM ad acK C0 lP [.buf 5,.buf 6] Tryz.f43 [f,g] [[h,i,j,k,l],[m,n,o,a,b,c,d,e]]=df f g h i j k l m n o a b c d e:=by kernel_rfl
theorem ta (d e f g h i j k l m a b c:IV):run ad acK C0 lP Tryz.f43 [[.nilp],[d,e,f,g,h],[i,j,k,l,m,a,b,c]]=jM d e f g h i j k l m a b c:=by kernel_rfl
abbrev Bg:FSig:=⟨.obj [.buf 5,.buf 6],false,[5,1],0,λl=>match l with | [[f,p],[g,h,i,j,k],[m,n,o,a,b,c,d,e]]=>df f p g h i j k m n o a b c d e | [[f],[g,h,i,j,k],[m,n,o,a,b,c,d,e]]=>FE f (jM g h i j k m n o a b c d e) | _=>none⟩
def aeC:a1->Option FSig:=aH qU Bg acK
def FJ:Ann:={ join:=(λr=>if r=8 then some [38] else none),loop:=(λr=>if r=3 then ([(8,(.B 1)),(17,.I)],[[(8,(.B 1))]]) else ([],[])),scalar:=true }
theorem L6 (a b c d:IV):run ad aeC C0 FJ Tryz.f81 [[a],[b,c],[d]]=pt a b c d:=by kernel_rfl
abbrev Sy:FSig:=⟨.pure,true,[2,1],0,λl=>match l with | [[a],[b,c],[d]]=>pt a b c d | _=>none⟩
def aev:a1->Option FSig:=aH QM Sy aeC
def tY:Ann:={ order:=(λr=>if r=7 then some ([0],[1,2,3,4,5,6],[7,8,9,10]) else none) }
theorem zK (f g h i j k l m n o a b c d e:IV):runM ad aev C0 tY [.buf 5,.buf 6] Tryz.f42 [f,g] [[h,i,j,k,l],[m,n,o,a,b,c,d,e]]=dP f g h i j k l m n o a b c d e:=by kernel_rfl
abbrev DV:FSig:=⟨.obj [.buf 5,.buf 6],false,[5,1],0,λl=>match l with | [[f,g],[h,i,j,k,m],[n,o,p,a,b,c,d,e]]=>dP f g h i j k m n o p a b c d e | _=>none⟩
def acB:a1->Option FSig:=aH tC DV aev
def o8:Ann:={ order:=(λr=>if r=10 then some ([],[0,1,2,3,4,5,6,7,8],[9]) else none),unroll:=(λr=>if r=5 then 5 else 0) }
theorem BW (a b c d e f g h i j:IV):runM ad acB C0 o8 [.buf 5,.buf 6] Tryz.f12 [a,b] [[c,d,e,f,g,h,i,j]]=aI a b c d e f g h i j:=by kernel_rfl
theorem vW (a b c d e f g h:IV):run ad acB C0 o8 Tryz.f12 [[.nilp],[a,b,c,d,e,f,g,h]]=mK a b c d e f g h:=by kernel_rfl
abbrev Ee:FSig:=⟨.obj [.buf 5,.buf 6],false,[1],0,λl=>match l with | [[a,j],[b,c,d,e,f,g,h,i]]=>aI a j b c d e f g h i | [[a],[b,c,d,e,f,g,h,i]]=>FE a (mK b c d e f g h i) | _=>none⟩
def ae6:a1->Option FSig:=aH vo Ee acB
theorem Ms (a b c d e:IV):run ad ae6 C0 A0 Tryz.f24 [[a,b,c,d,e]]=mg a b c d e:=by kernel_rfl
abbrev QV:FSig:=⟨.pure,false,[1],0,λl=>match l with | [[a,b,c,d,e]]=>mg a b c d e | _=>none⟩
def acn:a1->Option FSig:=aH Rp QV ae6
theorem B3 (a b c:IV):runM ad acn C0 A0 [.buf 5,.buf 6] Tryz.f15 [a,b] [[c]]=cw a b c:=by kernel_rfl
theorem we (a:IV):run ad acn C0 A0 Tryz.f15 [[.nilp],[a]]=mJ a:=by kernel_rfl
abbrev FG:FSig:=⟨.obj [.buf 5,.buf 6],false,[1],0,λl=>match l with | [[a,c],[b]]=>cw a c b | [[a],[b]]=>FE a (mJ b) | _=>none⟩
def afg:a1->Option FSig:=aH uJ FG acn
def EO:Ann:={ order:=(λr=>if r=6 then some ([],[0,1,2,3,4,5,6,7,8],[]) else none),loop:=(λr=>if r=4 then ([(5,.I)],[[],[(4,.I)]]) else ([],[])),scalar:=true }
def yl (a b:IV):Option (List IV):=run ad afg C0 EO Tryz.f40 [[a],[b]]
abbrev Rz:FSig:=⟨.pure,true,[1],0,λl=>match l with | [[a],[b]]=>yl a b | _=>none⟩
def aat:a1->Option FSig:=aH RX Rz afg
def qW (b:List IV):Option SR:=
 (aa .lss (nth b 1) (.int .i64 (4:Nat))).bind λd=>
 ae d (λ_=>
 (bP 4 (nth b 1)).bind λe=>
 (eV (.lst [[.int .i64 1,.int .i64 1,.int .i64 0,.int .i64 0,.int .i64 0,.int .i64 1,(.str ⟨#[97]⟩),.flt .f64 0],[.int .i64 2,.int .i64 2,.int .i64 0,.int .i64 0,.int .i64 0,.int .i64 0,(.str ⟨#[]⟩),.flt .f64 0],[.int .i64 4,.int .i64 2,.int .i64 0,.int .i64 0,.int .i64 0,.int .i64 0,(.str ⟨#[]⟩),.flt .f64 0],[.int .i64 1,.int .i64 2,.int .i64 0,.int .i64 0,.int .i64 1,.int .i64 2,(.str ⟨#[]⟩),.flt .f64 0]]) e 0 8).bind λa=>
 (mK (nth a 0) (nth a 1) (nth a 2) (nth a 3) (nth a 4) (nth a 5) (nth a 6) (nth a 7)).bind λf=>
 (b8 1 8 (nth b 0) (.lst [[nth f 0]])).bind λg=>
 (aa .add (nth b 1) (.int .i64 1)).bind λc=>
 some (.next [g,c])) (λ_=>
 some (.done 0 [nth b 0]))
def wz (a:List IV):Option SR:=
 (aa .lss (nth a 3) (.int .i64 (4:Nat))).bind λd=>
 ae d (λ_=>
 (bP 4 (nth a 3)).bind λe=>
 (eV (.lst [[.int .i64 1,.int .i64 1,.int .i64 0,.int .i64 0,.int .i64 0,.int .i64 1,(.str ⟨#[97]⟩),.flt .f64 0],[.int .i64 2,.int .i64 2,.int .i64 0,.int .i64 0,.int .i64 0,.int .i64 0,(.str ⟨#[]⟩),.flt .f64 0],[.int .i64 4,.int .i64 2,.int .i64 0,.int .i64 0,.int .i64 0,.int .i64 0,(.str ⟨#[]⟩),.flt .f64 0],[.int .i64 1,.int .i64 2,.int .i64 0,.int .i64 0,.int .i64 1,.int .i64 2,(.str ⟨#[]⟩),.flt .f64 0]]) e 0 8).bind λb=>
 (aI (nth a 0) (nth a 1) (nth b 0) (nth b 1) (nth b 2) (nth b 3) (nth b 4) (nth b 5) (nth b 6) (nth b 7)).bind λc=>
 (b8 1 8 (nth a 2) (.lst [[(nth (c.drop 2) 0)]])).bind λf=>
 (aa .add (nth a 3) (.int .i64 1)).bind λg=>
 some (.next [nth c 0,nth c 1,f,g])) (λ_=>
 some (.done 0 [nth a 0,nth a 1,nth a 2]))
def qY:Option (List IV):=
 ((aa .lss (.int .i64 2) (.int .i64 1)).bind λu=>
 ae u (λ_=>
 some [.bool true]) (λ_=>
 (aa .gtr (.int .i64 2) (.int .i64 8)).bind λv=>
 some [v])).bind λw=>
 ae (nth w 0) (λ_=>
 (iter rounds (qW) [.lst [],.int .i64 0]).bind λb=>
 eM b.1 [(some [.bool true]).bind λe=>
 ae (nth e 0) (λ_=>
 av [.bool false]) (λ_=>
 (mJ (.int .i64 2)).bind λf=>
 (Az (nth f 0) (.int .i64 2)).bind λc=>
 ((bP (bU (nth b.2 0)) (.int .i64 3)).bind λg=>
 (cV (nth b.2 0) g 0).bind λh=>
 (aa .eql h (.int .i64 0)).bind λi=>
 ae i (λ_=>
 ae (nth c 1) (λ_=>
 (yl (nth c 0) (.lst [[.int .i64 2],[.int .i64 1],[.int .i64 0]])).bind λj=>
 some [nth j 0]) (λ_=>
 some [.bool false])) (λ_=>
 some [.bool false])).bind λk=>
 av [nth k 0])]) (λ_=>
 (jd 88 [.lst [],.int .i64 0,.int .i64 0,.lst [],.lst []] (.int .i64 2) (.int .i64 2)).bind λl=>
 (iter rounds (wz) [l,.lst [],.lst [],.int .i64 0]).bind λa=>
 eM a.1 [((aa .neq (.int .i64 ((bU (nth a.2 2)):Nat)) (.int .i64 4)).bind λm=>
 some [m]).bind λn=>
 ae (nth n 0) (λ_=>
 av [.bool false]) (λ_=>
 (cw (nth a.2 0) (nth a.2 1) (.int .i64 2)).bind λo=>
 (Az (nth (o.drop 2) 0) (.int .i64 2)).bind λd=>
 ((bP (bU (nth a.2 2)) (.int .i64 3)).bind λp=>
 (cV (nth a.2 2) p 0).bind λq=>
 (aa .eql q (.int .i64 0)).bind λr=>
 ae r (λ_=>
 ae (nth d 1) (λ_=>
 (yl (nth d 0) (.lst [[.int .i64 2],[.int .i64 1],[.int .i64 0]])).bind λs=>
 some [nth s 0]) (λ_=>
 some [.bool false])) (λ_=>
 some [.bool false])).bind λt=>
 av [nth t 0])])
def oY:Ann:={ join:=(λr=>if r=1 then some [8] else none) }
def jG:Inl:=nz ad aat C0 oY Tryz.f10
def ou:a1->Option FSig:=aH p6 ⟨.inl jG,false,[],0,λ_=>none⟩ <| aat
def pc:Ann:={ loop:=(λr=>if r=4 then ([(6,(.O [.buf 5,.buf 6])),(7,(.B 1)),(14,.I)],[[(6,(.O [.buf 5,.buf 6])),(7,(.B 1))]]) else ([],[])),alt:=(λr=>if r=4 then some (6,[(7,(.B 1)),(14,.I)],[[(7,(.B 1))]]) else none) }
def oK:Inl:=nz ad ou C0 pc Tryz.f27
def EV:a1->Option FSig:=aH p6 ⟨.inl jG,false,[],0,λ_=>none⟩ <| aH D4 ⟨.inl oK,false,[],0,λ_=>none⟩ <| aat
def H0:Ann:={ join:=(λr=>if r=2 then some [20] else if r=5 then some [0] else none),scalar:=true }
theorem Pu:run ad EV C0 H0 Tryz.f9 []=qY:=by kernel_rfl
abbrev U4:FSig:=⟨.pure,true,[1],0,λl=>match l with | []=>qY | _=>none⟩
def acZ:a1->Option FSig:=aH TA U4 aat
theorem Ca (a b:IV):runM ad acZ C0 A0 [.buf 5,.buf 6] Tryz.f11 [a,b] []=ep a b:=by kernel_rfl
theorem wG:run ad acZ C0 A0 Tryz.f11 [[.nilp]]=rU:=by kernel_rfl
abbrev Eg:FSig:=⟨.obj [.buf 5,.buf 6],false,[1],0,λl=>match l with | [[a,b]]=>ep a b | [[a]]=>FE a (rU) | _=>none⟩
def aeA:a1->Option FSig:=aH vg Eg acZ
def C5:Ann:={ loop:=(λr=>if r=2 then ([(0,.I),(9,.I)],[[(0,.I)]]) else ([],[])) }
theorem IX (a b:IV):run ad aeA C0 C5 Tryz.f13 [[a],[b]]=fC a b:=by kernel_rfl
abbrev PG:FSig:=⟨.pure,false,[1],0,λl=>match l with | [[a],[b]]=>fC a b | _=>none⟩
def aeW:a1->Option FSig:=aH N9 PG aeA
theorem Li:run ad aeW C0 A1 Tryz.f205 []=xU:=by kernel_rfl
abbrev Sz:FSig:=⟨.pure,true,[1],0,λl=>match l with | []=>xU | _=>none⟩
def adN:a1->Option FSig:=aH So Sz aeW
def CE:Ann:={ join:=(λr=>if r=1 then some [2] else none),scalar:=true }
theorem IZ (a:IV):run ad adN C0 CE Tryz.f206 [[a]]=g9 a:=by kernel_rfl
abbrev Oy:FSig:=⟨.pure,true,[1],0,λl=>match l with | [[a]]=>g9 a | _=>none⟩
def afa:a1->Option FSig:=aH N7 Oy adN
theorem O8:run ad afa C0 A1 Tryz.f207 []=u5:=by kernel_rfl
abbrev VJ:FSig:=⟨.pure,true,[1],0,λl=>match l with | []=>u5 | _=>none⟩
def aet:a1->Option FSig:=aH Va VJ afa
def Fs:Ann:={ join:=(λr=>if r=15 then some [35] else none),loop:=(λr=>if r=12 then ([(0,.I),(4,.I)],[[(0,.I),(4,.I)]]) else if r=15 then ([(0,.I),(4,.I)],[[(0,.I),(4,.I)]]) else if r=22 then ([(0,.I),(5,.I)],[[(0,.I)]]) else ([],[])),scalar:=true }
theorem Mz (a:IV):run ad aet C0 Fs Tryz.f152 [[a]]=gL a:=by kernel_rfl
abbrev QT:FSig:=⟨.pure,true,[1],0,λl=>match l with | [[a]]=>gL a | _=>none⟩
def aeN:a1->Option FSig:=aH Q9 QT aet
theorem Lx (a b:IV):run ad aeN C0 A1 Tryz.f87 [[a],[b]]=o9 a b:=by kernel_rfl
abbrev QL:FSig:=⟨.pure,true,[1],0,λl=>match l with | [[a],[b]]=>o9 a b | _=>none⟩
def ae4:a1->Option FSig:=aH Ra QL aeN
def CV:Ann:={ join:=(λr=>if r=1 then some [4] else none),scalar:=true }
theorem IL (a b c d e f g h:IV):run ad ae4 C0 CV Tryz.f47 [[a,b,c,d],[e,f,g,h]]=kn a b c d e f g h:=by kernel_rfl
abbrev Pq:FSig:=⟨.pure,true,[1],0,λl=>match l with | [[a,b,c,d],[e,f,g,h]]=>kn a b c d e f g h | _=>none⟩
def ad3:a1->Option FSig:=aH NQ Pq ae4
def FZ:Ann:={ order:=(λr=>if r=6 then some ([],[0,1,2,3,4,5,6,7,8,9],[]) else none),loop:=(λr=>if r=4 then ([(5,.I)],[[],[(4,.I)]]) else ([],[])),scalar:=true }
theorem KI (a b:IV):run ad ad3 C0 FZ Tryz.f14 [[a],[b]]=gN a b:=by kernel_rfl
abbrev SC:FSig:=⟨.pure,true,[1],0,λl=>match l with | [[a],[b]]=>gN a b | _=>none⟩
def ab9:a1->Option FSig:=aH Td SC ad3
def cX (b:IV) (a0:IV) (a:List IV):Option SR:=
 (aD b).bind λr=>
 (aa .lss (nth a 3) r).bind λs=>
 ae s (λ_=>
 (ep (nth a 0) (nth a 1)).bind λf=>
 (aD (nth (f.drop 2) 0)).bind λn=>
 (aE b (nth a 3) 8).bind λt=>
 (eV b t 0 8).bind λd=>
 (aI (nth f 0) (nth f 1) (nth d 0) (nth d 1) (nth d 2) (nth d 3) (nth d 4) (nth d 5) (nth d 6) (nth d 7)).bind λe=>
 (aa .neq (nth (e.drop 2) 0) (.int .i64 0)).bind λu=>
 ae u (λ_=>
 (aa .add (nth a 3) (.int .i64 1)).bind λv=>
 some (.next [nth e 0,nth e 1,nth a 2,v])) (λ_=>
 ((aE b (nth a 3) 8).bind λw=>
 (cV b w 1).bind λx=>
 (aa .lss x (.int .i64 1)).bind λy=>
 ae y (λ_=>
 some [.bool true]) (λ_=>
 (aE b (nth a 3) 8).bind λz=>
 (cV b z 1).bind λA=>
 (aa .gtr A a0).bind λC=>
 some [C])).bind λD=>
 ae (nth D 0) (λ_=>
 some (.done 1 [.bool false])) (λ_=>
 (ep (nth e 0) (nth e 1)).bind λc=>
 (aE b (nth a 3) 8).bind λE=>
 (cV b E 0).bind λo=>
 (aa .eql o (.int .i64 1)).bind λF=>
 ae F (λ_=>
 (aD (nth (c.drop 2) 0)).bind λG=>
 (aa .add n (.int .i64 1)).bind λH=>
 (aa .neq G H).bind λI=>
 ae I (λ_=>
 some (.done 1 [.bool false])) (λ_=>
 (aE b (nth a 3) 8).bind λJ=>
 (cV b J 1).bind λK=>
 (aE b (nth a 3) 8).bind λL=>
 (cV b L 1).bind λM=>
 (bP (bU (nth a 2)) M).bind λN=>
 (cV (nth a 2) N 0).bind λO=>
 (fQ 6 (nth (c.drop 2) 0) (some n) none).bind λP=>
 (fC O P).bind λQ=>
 (bP (bU (nth a 2)) K).bind λR=>
 (pK (nth a 2) R 0 [nth Q 0]).bind λp=>
 (aE b (nth a 3) 8).bind λS=>
 (cV b S 1).bind λT=>
 (aE b (nth a 3) 8).bind λU=>
 (cV b U 1).bind λV=>
 (bP (bU (nth a 2)) V).bind λW=>
 (cV p W 0).bind λX=>
 (cw (nth c 0) (nth c 1) T).bind λg=>
 (fZ (.lst []) X).bind λY=>
 (gN (nth (g.drop 2) 0) (nth Y 0)).bind λZ=>
 (lK .not (nth Z 0)).bind λab=>
 ae ab (λ_=>
 some (.done 1 [.bool false])) (λ_=>
 (aa .add (nth a 3) (.int .i64 1)).bind λac=>
 some (.next [nth g 0,nth g 1,p,ac])))) (λ_=>
 (aa .eql o (.int .i64 2)).bind λam=>
 ae am (λ_=>
 ((aE b (nth a 3) 8).bind λao=>
 (cV b ao 3).bind λap=>
 (aa .lss ap (.int .i64 0)).bind λaB=>
 ae aB (λ_=>
 some [.bool true]) (λ_=>
 (aE b (nth a 3) 8).bind λaT=>
 (cV b aT 3).bind λa2=>
 (aD (nth (c.drop 2) 0)).bind λa3=>
 (aa .geq a2 a3).bind λa4=>
 some [a4])).bind λa5=>
 ae (nth a5 0) (λ_=>
 some (.done 1 [.bool false])) (λ_=>
 (aE b (nth a 3) 8).bind λa6=>
 (cV b a6 1).bind λa7=>
 (aE b (nth a 3) 8).bind λa8=>
 (cV b a8 1).bind λa9=>
 (bP (bU (nth a 2)) a9).bind λbb=>
 (cV (nth a 2) bb 0).bind λbe=>
 (aE b (nth a 3) 8).bind λbf=>
 (cV b bf 3).bind λbi=>
 (aE b (nth a 3) 8).bind λbm=>
 (cV b bm 3).bind λbr=>
 (aa .add br (.int .i64 1)).bind λbv=>
 (fQ 6 (nth (c.drop 2) 0) (some bi) (some bv)).bind λbx=>
 (fC be bx).bind λbA=>
 (bP (bU (nth a 2)) a7).bind λbB=>
 (pK (nth a 2) bB 0 [nth bA 0]).bind λq=>
 (aE b (nth a 3) 8).bind λbC=>
 (cV b bC 1).bind λbM=>
 (aE b (nth a 3) 8).bind λbO=>
 (cV b bO 1).bind λbR=>
 (bP (bU (nth a 2)) bR).bind λbY=>
 (cV q bY 0).bind λb1=>
 (cw (nth c 0) (nth c 1) bM).bind λh=>
 (fZ (.lst []) b1).bind λb3=>
 (gN (nth (h.drop 2) 0) (nth b3 0)).bind λb4=>
 (lK .not (nth b4 0)).bind λb5=>
 ae b5 (λ_=>
 some (.done 1 [.bool false])) (λ_=>
 (aa .add (nth a 3) (.int .i64 1)).bind λca=>
 some (.next [nth h 0,nth h 1,q,ca])))) (λ_=>
 (aE b (nth a 3) 8).bind λcc=>
 (cV b cc 1).bind λcd=>
 (aE b (nth a 3) 8).bind λce=>
 (cV b ce 1).bind λci=>
 (bP (bU (nth a 2)) ci).bind λck=>
 (cV (nth a 2) ck 0).bind λcl=>
 (cw (nth c 0) (nth c 1) cd).bind λi=>
 (fZ (.lst []) cl).bind λj=>
 (gN (nth (i.drop 2) 0) (nth j 0)).bind λk=>
 (lK .not (nth k 0)).bind λl=>
 ae l (λ_=>
 some (.done 1 [.bool false])) (λ_=>
 (aa .add (nth a 3) (.int .i64 1)).bind λm=>
 some (.next [nth i 0,nth i 1,nth a 2,m]))))))) (λ_=>
 some (.done 0 []))
def qx (a g:IV):Option (List IV):=
 ((ku g (.int .i64 35)).bind λh=>
 (lK .not (nth h 0)).bind λi=>
 ae i (λ_=>
 some [.bool true]) (λ_=>
 (aa .lss a (.int .i64 1)).bind λj=>
 ae j (λ_=>
 some [.bool true]) (λ_=>
 (aa .gtr a (.int .i64 8)).bind λk=>
 some [k]))).bind λl=>
 ae (nth l 0) (λ_=>
 (qY).bind λm=>
 av [nth m 0]) (λ_=>
 ((aa .lss a (.int .i64 1)).bind λn=>
 ae n (λ_=>
 some [.bool true]) (λ_=>
 (aa .gtr a (.int .i64 8)).bind λo=>
 some [o])).bind λp=>
 ae (nth p 0) (λ_=>
 av [.bool false]) (λ_=>
 (jd 88 [.lst [],.int .i64 0,.int .i64 0,.lst [],.lst []] a a).bind λe=>
 (aa .add a (.int .i64 1)).bind λd=>
 (jd 24 [.lst []] d d).bind λf=>
 (iter rounds (cX g a) [e,.lst [],f,.int .i64 0]).bind λb=>
 eM b.1 [(qY).bind λc=>
 av [nth c 0],
 av [nth b.2 0]]))
def mX:Ann:={ join:=(λr=>if r=1 then some [8] else none) }
def nb:Inl:=nz ad ab9 C0 mX Tryz.f10
def Ae:a1->Option FSig:=aH p6 ⟨.inl nb,false,[],0,λ_=>none⟩ <| ab9
def Co:Ann:={ order:=(λr=>if r=19 then some ([],[0,1,2,3,4,5,6,7,8,9,10,11,12,13,14,15,16,17,18],[19]) else if r=23 then some ([],[0,1,2,3,4,5,6,7,8,9,10,11,12,13,14,15,16,17,18,19,20,21,22,23,24,25,26,27,28],[29]) else if r=24 then some ([7,8,9,10,11,12,13,14],[0,1,2,3,4,5],[6,15,16,17]) else none),join:=(λr=>if r=1 then some [20] else if r=12 then some [59] else if r=21 then some [110] else none),loop:=(λr=>if r=8 then ([(5,(.O [.buf 5,.buf 6])),(6,(.B 1)),(7,.I)],[[],[(4,.I)]]) else ([],[])),scalar:=true }
theorem JX (a b:IV):run ad Ae C0 Co Tryz.f3 [[a],[b]]=qx a b:=by kernel_rfl
abbrev CF:FSig:=⟨.pure,true,[1],0,λl=>match l with | [[a],[b]]=>qx a b | _=>none⟩
def aiD:a1->Option FSig:=aH C7 CF ab9
end Go.AM
end

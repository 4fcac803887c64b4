/- Each function that is reached runs in the abstract machine as printed; the others are what it runs. -/
import Derived.Test.YtgoenohknokcmaaGreatAd
import Derived.Test.YtgoenohknokcmaaGreatSh
import Derived.Test.YtgoenohknokcmaaGreatProg
set_option linter.unusedVariables false
set_option maxRecDepth 100000
 noncomputable section
namespace Go.AM
open Go.Proofs
def ep:FuncId->Bool:=fun g=>g==wT
def jf:FuncId->Bool:=fun g=>g==EY
abbrev yg:FSig:=⟨.own,false,[1],6,fun l=>match l with | [[x0]]=>dz x0 | _=>none⟩
def T1:FuncId->Option FSig:=al jJ yg T0
abbrev nB:FSig:=⟨.obj (qh 123 5),false,[1,1],0,QS⟩
def T2:FuncId->Option FSig:=al gb nB T1
abbrev rj:FSig:=⟨.inl (strJ 123 5),false,[],0,fun _=>none⟩
def T3:FuncId->Option FSig:=al jN rj T2
abbrev zt:FSig:=⟨.own,false,[1],4,fun l=>match l with | [[x0]]=>aO x0 | _=>none⟩
def T4:FuncId->Option FSig:=al gx zt T3
abbrev ym:FSig:=⟨.own,false,[1],12,fun l=>match l with | [[x0]]=>cu x0 | _=>none⟩
def T5:FuncId->Option FSig:=al jC ym T4
abbrev wh:FSig:=⟨.cons,false,[1],6,fun l=>match l with | [[x0],[x1],[x2]]=>cQ x0 x1 x2 | _=>none⟩
def T6:FuncId->Option FSig:=al iY wh T5
abbrev xN:FSig:=⟨.own,false,[1],2,fun l=>match l with | [[x0]]=>dA x0 | _=>none⟩
def T7:FuncId->Option FSig:=al jK xN T6
abbrev vA:FSig:=⟨.cons,false,[1],2,fun l=>match l with | [[x0],[x1],[x2]]=>cf x0 x1 x2 | _=>none⟩
def T8:FuncId->Option FSig:=al iV vA T7
abbrev oO:FSig:=⟨.obj (qh 123 5),false,[1],0,NF⟩
def T9:FuncId->Option FSig:=al ik oO T8
abbrev Cd:FSig:=⟨.pure,true,[1],0,fun l=>match l with | [[x0],[x1],[x2]]=>oT x0 x1 x2 | _=>none⟩
def T10:FuncId->Option FSig:=al tl Cd T9
abbrev yk:FSig:=⟨.cons,false,[1],4,fun l=>match l with | [[x0],[x1],[x2]]=>cw x0 x1 x2 | _=>none⟩
def T11:FuncId->Option FSig:=al jF yk T10
abbrev ya:FSig:=⟨.inl (growJ 2 24),false,[],0,fun _=>none⟩
def T12:FuncId->Option FSig:=al oy ya T11
abbrev yf:FSig:=⟨.cons,false,[1],4,fun l=>match l with | [[x0],[x1],[x2]]=>dw x0 x1 x2 | _=>none⟩
def T13:FuncId->Option FSig:=al jH yf T12
theorem K5 (a0:IV):run Tryz.prog T13 C0 A1 Tryz.f124 [[a0]]=nM a0:=by kernel_rfl
abbrev RJ:FSig:=⟨.pure,true,[1,1,1,1],0,fun l=>match l with | [[x0]]=>nM x0 | _=>none⟩
def T14:FuncId->Option FSig:=al Pv RJ T13
def Bj:Ann:={ join:=(fun r=>if r=4 then some [34] else if r=8 then some [56] else none),loop:=(fun r=>if r=2 then ([(4,.I),(5,.I)],[[(4,.I),(5,.I)]]) else if r=6 then ([(7,.I),(8,.I),(45,.I)],[[],[]]) else ([],[])),scalar:=true }
theorem F1 (a0:IV):run Tryz.prog T14 C0 Bj Tryz.f57 [[a0]]=oU a0:=by kernel_rfl
abbrev OE:FSig:=⟨.pure,true,[1,1],0,fun l=>match l with | [[x0]]=>oU x0 | _=>none⟩
def T15:FuncId->Option FSig:=al NZ OE T14
theorem Gx (a0:IV):run Tryz.prog T15 C0 A1 Tryz.f28 [[a0]]=jo a0:=by kernel_rfl
abbrev Mo:FSig:=⟨.pure,true,[1],0,fun l=>match l with | [[x0]]=>jo x0 | _=>none⟩
def T16:FuncId->Option FSig:=al NU Mo T15
def ID:Ann:={ join:=(fun r=>if r=1 then some [2] else none),scalar:=true }
theorem Mg (a0 a1 a2 a3:IV):run Tryz.prog T16 C0 ID Tryz.f70 [[a0,a1,a2,a3]]=kG a0 a1 a2 a3:=by kernel_rfl
abbrev FH:FSig:=⟨.pure,true,[1],0,fun l=>match l with | [[x0,x1,x2,x3]]=>kG x0 x1 x2 x3 | _=>none⟩
def T17:FuncId->Option FSig:=al GC FH T16
abbrev HD:FSig:=⟨.pure,true,[1],0,fun l=>match l with | [[x0]]=>zO x0 | _=>none⟩
def T18:FuncId->Option FSig:=al zD HD T17
def pT:Ann:={ loop:=(fun r=>if r=2 then ([(8,.I)],[[],[(4,.I)]]) else ([],[])),scalar:=true }
theorem wH (a0 a1:IV):run Tryz.prog T18 C0 pT Tryz.f203 [[a0],[a1]]=gr a0 a1:=by kernel_rfl
abbrev zS:FSig:=⟨.pure,true,[1],0,fun l=>match l with | [[x0],[x1]]=>gr x0 x1 | _=>none⟩
def T19:FuncId->Option FSig:=al zZ zS T18
theorem sy (a0 a1:IV):run Tryz.prog T19 C0 A1 Tryz.f148 [[a0],[a1]]=cG a0 a1:=by kernel_rfl
abbrev mP:FSig:=⟨.pure,true,[1],0,fun l=>match l with | [[x0],[x1]]=>cG x0 x1 | _=>none⟩
def T20:FuncId->Option FSig:=al mQ mP T19
abbrev DF:FSig:=⟨.pure,false,[1,1],0,fun l=>match l with | [[x0],[x1]]=>Q7 x0 x1 | _=>none⟩
def T21:FuncId->Option FSig:=al wq DF T20
theorem Mp (a0:IV):run Tryz.prog T21 C0 A1 Tryz.f236 [[a0]]=Ah a0:=by kernel_rfl
abbrev Hi:FSig:=⟨.pure,true,[1],0,fun l=>match l with | [[x0]]=>Ah x0 | _=>none⟩
def T22:FuncId->Option FSig:=al zX Hi T21
def FI:Ann:={ loop:=(fun r=>if r=2 then ([(0,.I),(3,(.B 1))],[[(0,.I),(3,(.B 1))]]) else ([],[])),scalar:=true }
theorem MF (a0:IV):run Tryz.prog T22 C0 FI Tryz.f60 [[a0]]=pM a0:=by kernel_rfl
abbrev HI:FSig:=⟨.pure,true,[1],0,fun l=>match l with | [[x0]]=>pM x0 | _=>none⟩
def T23:FuncId->Option FSig:=al zG HI T22
abbrev xu:FSig:=⟨.pure,true,[1],0,fun l=>match l with | [[x0]]=>FV x0 | _=>none⟩
def T24:FuncId->Option FSig:=al qf xu T23
def mj:Ann:={ loop:=(fun r=>if r=2 then ([(8,.I)],[[],[(4,.I)]]) else ([],[])),scalar:=true }
theorem qZ (C:IV->List Nat->List (List IV)->Option (List IV)) (a0 a1:IV):run Tryz.prog T24 C mj Tryz.f155 [[a0],[a1]]=aY C a0 a1:=by kernel_rfl
theorem rK (a0 a1 a2 a3 a4:IV):run Tryz.prog T24 C0 A1 Tryz.f208 [[a0,a1,a2,a3],[a4]]=iX a0 a1 a2 a3 a4:=by kernel_rfl
abbrev Iv:FSig:=⟨.pure,true,[1],0,fun l=>match l with | [[x0,x1,x2,x3],[x4]]=>iX x0 x1 x2 x3 x4 | _=>none⟩
def T25:FuncId->Option FSig:=al mn Iv T24
def y3:FuncId->Option FSig:=al dG ⟨.pure,true,[1],0,fun l=>match l with | [[x0],[x1]]=>aY (jW) x0 x1 | _=>none⟩ <| T25
theorem HB (a0 a1:IV):run Tryz.prog y3 (jW) A1 Tryz.f154 [[a0],[a1]]=gv a0 a1:=by kernel_rfl
abbrev NX:FSig:=⟨.pure,true,[1,1],0,fun l=>match l with | [[x0],[x1]]=>gv x0 x1 | _=>none⟩
def T26:FuncId->Option FSig:=al Mq NX T25
theorem wO (a0 a1 a2 a3 a4:IV):run Tryz.prog T26 C0 A1 Tryz.f156 [[a0,a1,a2,a3],[a4]]=mB a0 a1 a2 a3 a4:=by kernel_rfl
abbrev MS:FSig:=⟨.pure,true,[1],0,fun l=>match l with | [[x0,x1,x2,x3],[x4]]=>mB x0 x1 x2 x3 x4 | _=>none⟩
def T27:FuncId->Option FSig:=al oY MS T26
def Ej:FuncId->Option FSig:=al dG ⟨.pure,true,[1],0,fun l=>match l with | [[x0],[x1]]=>aY (nS) x0 x1 | _=>none⟩ <| T27
theorem MJ (a0 a1 a2 a3 a4:IV):run Tryz.prog Ej (nS) A0 Tryz.f89 [[a0],[a1,a2,a3,a4]]=mV a0 a1 a2 a3 a4:=by kernel_rfl
abbrev Tw:FSig:=⟨.pure,false,[1],0,fun l=>match l with | [[x0],[x1,x2,x3,x4]]=>mV x0 x1 x2 x3 x4 | _=>none⟩
def T28:FuncId->Option FSig:=al Sr Tw T27
theorem JJ (a0 a1:IV):run Tryz.prog T28 C0 A0 Tryz.f143 [[a0],[a1]]=nD a0 a1:=by kernel_rfl
abbrev Q6:FSig:=⟨.pure,false,[1],0,fun l=>match l with | [[x0],[x1]]=>nD x0 x1 | _=>none⟩
def T29:FuncId->Option FSig:=al Py Q6 T28
theorem JK (a0 a1 a2 a3 a4 a5 a6 a7 a8 a9 a10 a11 a12:IV):run Tryz.prog T29 C0 A0 Tryz.f72 [[a0],[a1,a2,a3,a4,a5,a6,a7,a8,a9,a10,a11,a12]]=fY a0 a1 a2 a3 a4 a5 a6 a7 a8 a9 a10 a11 a12:=by kernel_rfl
abbrev DC:FSig:=⟨.pure,false,[1],0,fun l=>match l with | [[x0],[x1,x2,x3,x4,x5,x6,x7,x8,x9,x10,x11,x12]]=>fY x0 x1 x2 x3 x4 x5 x6 x7 x8 x9 x10 x11 x12 | _=>none⟩
def T30:FuncId->Option FSig:=al wQ DC T29
abbrev DH:FSig:=⟨.pure,false,[1],0,fun l=>match l with | [[x0],[x1]]=>qu x0 x1 | _=>none⟩
def T31:FuncId->Option FSig:=al vT DH T30
def eO:Ann:={ join:=(fun r=>if r=1 then some [20] else none) }
def wL (a0 a1 a2:IV):Option (List IV):=runM Tryz.prog T31 C0 eO [.buf 5,.buf 6] Tryz.f20 [a0,a1] [[a2]]
def mr (a0:IV):Option (List IV):=run Tryz.prog T31 C0 eO Tryz.f20 [[.nilp],[a0]]
theorem py (a0:IV):run Tryz.prog T31 C0 eO Tryz.f20 [[.nilp],[a0]]=mr a0:=rfl
abbrev wK:FSig:=⟨.obj [.buf 5,.buf 6],false,[5,1],0,fun l=>match l with | [[x0,x1],[x2]]=>wL x0 x1 x2 | [[x0],[x2]]=>Be x0 (mr x2) | _=>none⟩
def T32:FuncId->Option FSig:=al nR wK T31
def Aq:Ann:={ loop:=(fun r=>if r=2 then ([(8,.I)],[[],[(2,.I)]]) else ([],[])),scalar:=true }
theorem Ho (C:IV->List Nat->List (List IV)->Option (List IV)) (a0:IV):run Tryz.prog T32 C Aq Tryz.f109 [[a0]]=jl C a0:=by kernel_rfl
theorem Bn (a0:IV):run Tryz.prog T32 C0 A1 Tryz.f177 [[a0]]=gH a0:=by kernel_rfl
abbrev E7:FSig:=⟨.pure,true,[1],0,fun l=>match l with | [[x0]]=>gH x0 | _=>none⟩
def T33:FuncId->Option FSig:=al Ew E7 T32
theorem xY (a0 a1:IV):run Tryz.prog T33 C0 A1 Tryz.f111 [[a0],[a1]]=dc a0 a1:=by kernel_rfl
abbrev BK:FSig:=⟨.pure,true,[1],0,fun l=>match l with | [[x0],[x1]]=>dc x0 x1 | _=>none⟩
def T34:FuncId->Option FSig:=al Ar BK T33
theorem qB (a0 a1:IV):run Tryz.prog T34 C0 A1 Tryz.f110 [[a0],[a1]]=gM a0 a1:=by kernel_rfl
abbrev EJ:FSig:=⟨.pure,true,[1],0,fun l=>match l with | [[x0],[x1]]=>gM x0 x1 | _=>none⟩
def T35:FuncId->Option FSig:=al gL EJ T34
theorem qo (a0 a1:IV):run Tryz.prog T35 C0 A1 Tryz.f112 [[a0],[a1]]=gI a0 a1:=by kernel_rfl
abbrev Eu:FSig:=⟨.pure,true,[1],0,fun l=>match l with | [[x0],[x1]]=>gI x0 x1 | _=>none⟩
def T36:FuncId->Option FSig:=al gN Eu T35
def vY:FuncId->Option FSig:=al sW ⟨.pure,true,[1],0,fun l=>match l with | [[x0]]=>jl (fT) x0 | _=>none⟩ <| T36
theorem EG (a0 a1 a2 a3:IV):run Tryz.prog vY (fT) A1 Tryz.f52 [[a0,a1],[a2,a3]]=fi a0 a1 a2 a3:=by kernel_rfl
abbrev Kb:FSig:=⟨.pure,true,[1],0,fun l=>match l with | [[x0,x1],[x2,x3]]=>fi x0 x1 x2 x3 | _=>none⟩
def T37:FuncId->Option FSig:=al KG Kb T36
def kS:Ann:={ loop:=(fun r=>if r=2 then ([(8,.I)],[[],[(4,.I)]]) else ([],[])),scalar:=true }
theorem qg (C:IV->List Nat->List (List IV)->Option (List IV)) (a0 a1:IV):run Tryz.prog T37 C kS Tryz.f191 [[a0],[a1]]=bu C a0 a1:=by kernel_rfl
def ir (C:IV->List Nat->List (List IV)->Option (List IV)):FuncId->Option FSig:=al fM ⟨.pure,true,[1],0,fun l=>match l with | [[x0],[x1]]=>bu C x0 x1 | _=>none⟩ <| T37
theorem ov (C:IV->List Nat->List (List IV)->Option (List IV)) (a0 a1:IV):run Tryz.prog (ir C) C A1 Tryz.f125 [[a0],[a1]]=bG C a0 a1:=by kernel_rfl
theorem Kz (a0 a1 a2 a3 a4 a5:IV):run Tryz.prog T37 C0 A1 Tryz.f71 [[a0,a1,a2,a3,a4,a5]]=ll a0 a1 a2 a3 a4 a5:=by kernel_rfl
abbrev RH:FSig:=⟨.pure,true,[4],0,fun l=>match l with | [[x0,x1,x2,x3,x4,x5]]=>ll x0 x1 x2 x3 x4 x5 | _=>none⟩
def T38:FuncId->Option FSig:=al Px RH T37
def Dr:Ann:={ join:=(fun r=>if r=2 then some [2] else none),scalar:=true }
theorem JH (a0 a1 a2 a3 a4 a5:IV):run Tryz.prog T38 C0 Dr Tryz.f32 [[a0,a1,a2,a3,a4,a5]]=iR a0 a1 a2 a3 a4 a5:=by kernel_rfl
abbrev Pn:FSig:=⟨.pure,true,[1],0,fun l=>match l with | [[x0,x1,x2,x3,x4,x5]]=>iR x0 x1 x2 x3 x4 x5 | _=>none⟩
def T39:FuncId->Option FSig:=al PF Pn T38
theorem um (a0 a1 a2 a3 a4 a5:IV):run Tryz.prog T39 C0 A1 Tryz.f126 [[a0,a1,a2,a3,a4,a5]]=j4 a0 a1 a2 a3 a4 a5:=by kernel_rfl
abbrev JL:FSig:=⟨.pure,true,[1],0,fun l=>match l with | [[x0,x1,x2,x3,x4,x5]]=>j4 x0 x1 x2 x3 x4 x5 | _=>none⟩
def T40:FuncId->Option FSig:=al nr JL T39
def BM:FuncId->Option FSig:=al en ⟨.pure,true,[1],0,fun l=>match l with | [[x0],[x1]]=>bG (lP) x0 x1 | _=>none⟩ <| T40
def Dt:Ann:={ order:=(fun r=>if r=4 then some ([],[0,1,2,3,4,5,6,7,8,9,10,11,12],[]) else none),join:=(fun r=>if r=6 then some [2] else none),loop:=(fun r=>if r=2 then ([(3,.I)],[[],[(2,.I)]]) else ([],[])),scalar:=true }
theorem KS (a0:IV):run Tryz.prog BM (lP) Dt Tryz.f58 [[a0]]=nV a0:=by kernel_rfl
abbrev O5:FSig:=⟨.pure,true,[1],0,fun l=>match l with | [[x0]]=>nV x0 | _=>none⟩
def T41:FuncId->Option FSig:=al Qq O5 T40
def D1:Ann:={ order:=(fun r=>if r=4 then some ([],[0,1,2,3,4,5,6,7,8,9,10,11,12,13,14,15,16,17,18,19,20,21,22,23,24,25,26,27,28,29,30,31,32],[]) else none),join:=(fun r=>if r=4 then some [44] else none),loop:=(fun r=>if r=2 then ([(7,.I)],[[],[(2,.I)]]) else ([],[])),scalar:=true }
theorem KY (a0:IV):run Tryz.prog T41 C0 D1 Tryz.f100 [[a0]]=nQ a0:=by kernel_rfl
abbrev Ra:FSig:=⟨.pure,true,[1],0,fun l=>match l with | [[x0]]=>nQ x0 | _=>none⟩
def T42:FuncId->Option FSig:=al R0 Ra T41
def rH:Ann:={ join:=(fun r=>if r=1 then some [1] else none),scalar:=true }
theorem uA (a0:IV):run Tryz.prog T42 C0 rH Tryz.f98 [[a0]]=jQ a0:=by kernel_rfl
abbrev KB:FSig:=⟨.pure,true,[1],0,fun l=>match l with | [[x0]]=>jQ x0 | _=>none⟩
def T43:FuncId->Option FSig:=al kn KB T42
def kX:Ann:={ loop:=(fun r=>if r=2 then ([(8,.I)],[[],[(4,.I)]]) else ([],[])),scalar:=true }
theorem qj (C:IV->List Nat->List (List IV)->Option (List IV)) (a0 a1:IV):run Tryz.prog T43 C kX Tryz.f116 [[a0],[a1]]=ay C a0 a1:=by kernel_rfl
theorem qU (a0 a1 a2:IV):run Tryz.prog T43 C0 A1 Tryz.f178 [[a0,a1],[a2]]=gF a0 a1 a2:=by kernel_rfl
abbrev EX:FSig:=⟨.pure,true,[1],0,fun l=>match l with | [[x0,x1],[x2]]=>gF x0 x1 x2 | _=>none⟩
def T44:FuncId->Option FSig:=al kx EX T43
def vL:FuncId->Option FSig:=al b9 ⟨.pure,true,[1],0,fun l=>match l with | [[x0],[x1]]=>ay (iZ) x0 x1 | _=>none⟩ <| T44
theorem Et (a0 a1:IV):run Tryz.prog vL (iZ) A1 Tryz.f114 [[a0],[a1]]=gW a0 a1:=by kernel_rfl
abbrev IU:FSig:=⟨.pure,true,[1,1],0,fun l=>match l with | [[x0],[x1]]=>gW x0 x1 | _=>none⟩
def T45:FuncId->Option FSig:=al Ju IU T44
def sC:Ann:={ loop:=(fun r=>if r=2 then ([(0,.I),(9,.I)],[[(0,.I)]]) else ([],[])),scalar:=true }
theorem Aa (a0 a1:IV):run Tryz.prog T45 C0 sC Tryz.f115 [[a0],[a1]]=fP a0 a1:=by kernel_rfl
abbrev C7:FSig:=⟨.pure,true,[1],0,fun l=>match l with | [[x0],[x1]]=>fP x0 x1 | _=>none⟩
def T46:FuncId->Option FSig:=al Cp C7 T45
theorem qP (a0 a1 a2:IV):run Tryz.prog T46 C0 A1 Tryz.f117 [[a0,a1],[a2]]=gB a0 a1 a2:=by kernel_rfl
abbrev EC:FSig:=⟨.pure,true,[1],0,fun l=>match l with | [[x0,x1],[x2]]=>gB x0 x1 x2 | _=>none⟩
def T47:FuncId->Option FSig:=al kE EC T46
def wi:FuncId->Option FSig:=al b9 ⟨.pure,true,[1],0,fun l=>match l with | [[x0],[x1]]=>ay (iJ) x0 x1 | _=>none⟩ <| T47
def yM:Ann:={ order:=(fun r=>if r=4 then some ([],[0,1,2,3,4,5,6,7,8,9,10,11,12],[13]) else none) }
theorem EU (a0 a1 a2:IV):run Tryz.prog wi (iJ) yM Tryz.f54 [[a0],[a1,a2]]=gU a0 a1 a2:=by kernel_rfl
abbrev KH:FSig:=⟨.pure,false,[1],0,fun l=>match l with | [[x0],[x1,x2]]=>gU x0 x1 x2 | _=>none⟩
def T48:FuncId->Option FSig:=al KP KH T47
def GK:Ann:={ loop:=(fun r=>if r=3 then ([(3,.I),(8,.I)],[[(3,.I)]]) else ([],[])) }
theorem NK (a0:IV):run Tryz.prog T48 C0 GK Tryz.f103 [[a0]]=pC a0:=by kernel_rfl
abbrev Tu:FSig:=⟨.pure,false,[1],0,fun l=>match l with | [[x0]]=>pC x0 | _=>none⟩
def T49:FuncId->Option FSig:=al SP Tu T48
def im (C:IV->List Nat->List (List IV)->Option (List IV)):FuncId->Option FSig:=al b9 ⟨.pure,true,[1],0,fun l=>match l with | [[x0],[x1]]=>ay C x0 x1 | _=>none⟩ <| T49
theorem nZ (C:IV->List Nat->List (List IV)->Option (List IV)) (a0 a1:IV):run Tryz.prog (im C) C A1 Tryz.f174 [[a0],[a1]]=bF C a0 a1:=by kernel_rfl
theorem KE (a0 a1:IV):run Tryz.prog T49 C0 A1 Tryz.f176 [[a0],[a1]]=iO a0 a1:=by kernel_rfl
abbrev P0:FSig:=⟨.pure,true,[1],0,fun l=>match l with | [[x0],[x1]]=>iO x0 x1 | _=>none⟩
def T50:FuncId->Option FSig:=al O1 P0 T49
def oe:Ann:={ order:=(fun r=>if r=1 then some ([],[0,1,2,3,4,5,6,7,8,9],[]) else none),scalar:=true }
theorem qC (a0 a1 a2 a3:IV):run Tryz.prog T50 C0 oe Tryz.f175 [[a0,a1],[a2],[a3]]=gC a0 a1 a2 a3:=by kernel_rfl
abbrev EF:FSig:=⟨.pure,true,[1],0,fun l=>match l with | [[x0,x1],[x2],[x3]]=>gC x0 x1 x2 x3 | _=>none⟩
def T51:FuncId->Option FSig:=al kD EF T50
def wj:FuncId->Option FSig:=al dZ ⟨.pure,true,[1],0,fun l=>match l with | [[x0],[x1]]=>bF (iL) x0 x1 | _=>none⟩ <| T51
theorem E3 (a0 a1:IV):run Tryz.prog wj (iL) A1 Tryz.f102 [[a0],[a1]]=jY a0 a1:=by kernel_rfl
abbrev JU:FSig:=⟨.pure,true,[1],0,fun l=>match l with | [[x0],[x1]]=>jY x0 x1 | _=>none⟩
def T52:FuncId->Option FSig:=al Ku JU T51
def qV:Ann:={ order:=(fun r=>if r=1 then some ([],[0,1,2,3,4,5,6],[]) else none),scalar:=true }
theorem uk (a0:IV):run Tryz.prog T52 C0 qV Tryz.f101 [[a0]]=jU a0:=by kernel_rfl
abbrev Jf:FSig:=⟨.pure,true,[1],0,fun l=>match l with | [[x0]]=>jU x0 | _=>none⟩
def T53:FuncId->Option FSig:=al jV Jf T52
def yQ:Ann:={ order:=(fun r=>if r=1 then some ([],[0,1,2,3,4,5,6,7,8,9,10,11,12,13,14,15,16,17,18,19,20,21,22,23,24,25,26,27],[]) else none),join:=(fun r=>if r=1 then some [4] else none),scalar:=true }
theorem Fe (a0 a1 a2:IV):run Tryz.prog T53 C0 yQ Tryz.f105 [[a0],[a1,a2]]=ka a0 a1 a2:=by kernel_rfl
abbrev Jy:FSig:=⟨.pure,true,[1],0,fun l=>match l with | [[x0],[x1,x2]]=>ka x0 x1 x2 | _=>none⟩
def T54:FuncId->Option FSig:=al Jw Jy T53
def qY:Ann:={ join:=(fun r=>if r=1 then some [1] else none),scalar:=true }
theorem uD (a0:IV):run Tryz.prog T54 C0 qY Tryz.f104 [[a0]]=jS a0:=by kernel_rfl
abbrev IY:FSig:=⟨.pure,true,[1],0,fun l=>match l with | [[x0]]=>jS x0 | _=>none⟩
def T55:FuncId->Option FSig:=al j6 IY T54
theorem mR (a0 a1 a2 a3 a4 a5 a6 a7:IV):run Tryz.prog T55 C0 A1 Tryz.f85 [[a0,a1],[a2,a3,a4,a5,a6,a7]]=bS a0 a1 a2 a3 a4 a5 a6 a7:=by kernel_rfl
abbrev xK:FSig:=⟨.pure,true,[1],0,fun l=>match l with | [[x0,x1],[x2,x3,x4,x5,x6,x7]]=>bS x0 x1 x2 x3 x4 x5 x6 x7 | _=>none⟩
def T56:FuncId->Option FSig:=al fK xK T55
def yw:Ann:={ loop:=(fun r=>if r=3 then ([(5,(.B 6)),(10,.I)],[[(5,(.B 6))]]) else ([],[])) }
theorem EZ (a0 a1 a2:IV):run Tryz.prog T56 C0 yw Tryz.f107 [[a0],[a1,a2]]=jP a0 a1 a2:=by kernel_rfl
abbrev KD:FSig:=⟨.pure,false,[1],0,fun l=>match l with | [[x0],[x1,x2]]=>jP x0 x1 x2 | _=>none⟩
def T57:FuncId->Option FSig:=al JO KD T56
def rG:Ann:={ order:=(fun r=>if r=1 then some ([],[0,1,2,3,4,5,6,7,8,9,10],[]) else none),scalar:=true }
theorem uG (a0:IV):run Tryz.prog T57 C0 rG Tryz.f106 [[a0]]=j9 a0:=by kernel_rfl
abbrev Ki:FSig:=⟨.pure,true,[1],0,fun l=>match l with | [[x0]]=>j9 x0 | _=>none⟩
def T58:FuncId->Option FSig:=al jX Ki T57
def sL:Ann:={ loop:=(fun r=>if r=3 then ([(3,.M),(12,.I)],[[(3,.M)]]) else if r=8 then ([(3,.M),(23,.I)],[[(3,.M)]]) else ([],[])) }
theorem z6 (a0 a1 a2 a3 a4:IV):run Tryz.prog T58 C0 sL Tryz.f53 [[a0,a1,a2,a3,a4]]=dS a0 a1 a2 a3 a4:=by kernel_rfl
abbrev CO:FSig:=⟨.pure,false,[1],0,fun l=>match l with | [[x0,x1,x2,x3,x4]]=>dS x0 x1 x2 x3 x4 | _=>none⟩
def T59:FuncId->Option FSig:=al CA CO T58
theorem uF (a0:IV):run Tryz.prog T59 C0 A1 Tryz.f108 [[a0]]=kc a0:=by kernel_rfl
abbrev IK:FSig:=⟨.pure,true,[1],0,fun l=>match l with | [[x0]]=>kc x0 | _=>none⟩
def T60:FuncId->Option FSig:=al ko IK T59
def DR:Ann:={ loop:=(fun r=>if r=2 then ([(12,.I)],[[],[(2,.I)]]) else ([],[])),scalar:=true }
theorem K9 (a0 a1 a2 a3 a4:IV):run Tryz.prog T60 (cM) DR Tryz.f51 [[a0,a1,a2,a3,a4]]=nO a0 a1 a2 a3 a4:=by kernel_rfl
abbrev Pe:FSig:=⟨.pure,true,[1],0,fun l=>match l with | [[x0,x1,x2,x3,x4]]=>nO x0 x1 x2 x3 x4 | _=>none⟩
def T61:FuncId->Option FSig:=al RQ Pe T60
def Hp:Ann:={ loop:=(fun r=>if r=3 then ([(3,(.O [.sn 123 2,.buf 1 (some 5)])),(8,.I)],[[(3,(.O [.sn 123 2,.buf 1 (some 5)]))]]) else ([],[])),scalar:=true }
def tF (C:IV->List Nat->List (List IV)->Option (List IV)) (a0:IV):Option (List IV):=run Tryz.prog T61 C Hp Tryz.f181 [[a0]]
def gy (a0:IV):Option (List IV):=run Tryz.prog T61 C0 A1 Tryz.f284 [[a0]]
abbrev zn:FSig:=⟨.pure,true,[1],0,fun l=>match l with | [[x0]]=>gy x0 | _=>none⟩
def T62:FuncId->Option FSig:=al zq zn T61
def lV (a0:IV):Option (List IV):=run Tryz.prog T62 C0 A1 Tryz.f285 [[a0]]
abbrev B4:FSig:=⟨.pure,true,[1],0,fun l=>match l with | [[x0]]=>lV x0 | _=>none⟩
def T63:FuncId->Option FSig:=al B6 B4 T62
def Bm:Ann:={ loop:=(fun r=>if r=5 then ([(4,.M),(5,(.B 1)),(6,(.B 1)),(17,.I)],[[(5,(.B 1)),(6,(.B 1))]]) else ([],[])) }
def MH (a0:IV):Option (List IV):=run Tryz.prog T63 C0 Bm Tryz.f238 [[a0]]
abbrev Nz:FSig:=⟨.pure,false,[1,1],0,fun l=>match l with | [[x0]]=>MH x0 | _=>none⟩
def T64:FuncId->Option FSig:=al NJ Nz T63
theorem Nb (a0:IV):run Tryz.prog T64 C0 A1 Tryz.f128 [[a0]]=IC a0:=by kernel_rfl
abbrev SA:FSig:=⟨.pure,true,[1],0,fun l=>match l with | [[x0]]=>IC x0 | _=>none⟩
def T65:FuncId->Option FSig:=al Sk SA T64
def rJ:Ann:={ join:=(fun r=>if r=6 then some [26] else none),loop:=(fun r=>if r=3 then ([(3,(.B 2)),(9,.I)],[[(3,(.B 2))]]) else ([],[])) }
def Cw (a0:IV):Option (List IV):=run Tryz.prog T65 C0 rJ Tryz.f237 [[a0]]
abbrev Df:FSig:=⟨.pure,false,[1],0,fun l=>match l with | [[x0]]=>Cw x0 | _=>none⟩
def T66:FuncId->Option FSig:=al CU Df T65
def yP:Ann:={ loop:=(fun r=>if r=3 then ([(3,(.O [.sn 123 2,.buf 1 (some 5)])),(9,.I)],[[(3,(.O [.sn 123 2,.buf 1 (some 5)]))]]) else ([],[])),scalar:=true }
def KW (a0:IV):Option (List IV):=run Tryz.prog T66 C0 yP Tryz.f186 [[a0]]
abbrev J5:FSig:=⟨.pure,true,[1],0,fun l=>match l with | [[x0]]=>KW x0 | _=>none⟩
def T67:FuncId->Option FSig:=al Ja J5 T66
def yX:Ann:={ loop:=(fun r=>if r=5 then ([(5,(.O [.sn 123 2,.buf 1 (some 5)])),(20,.I)],[[(5,(.O [.sn 123 2,.buf 1 (some 5)]))]]) else ([],[])),scalar:=true }
def K4 (a0:IV):Option (List IV):=run Tryz.prog T67 C0 yX Tryz.f187 [[a0]]
abbrev Kn:FSig:=⟨.pure,true,[1],0,fun l=>match l with | [[x0]]=>K4 x0 | _=>none⟩
def T68:FuncId->Option FSig:=al Jm Kn T67
def pn (a0:IV):Option (List IV):=run Tryz.prog T68 C0 A1 Tryz.f286 [[a0]]
abbrev zF:FSig:=⟨.pure,true,[1],0,fun l=>match l with | [[x0]]=>pn x0 | _=>none⟩
def T69:FuncId->Option FSig:=al zw zF T68
def B5:Ann:={ join:=(fun r=>if r=1 then some [2] else none),scalar:=true }
theorem Hk (a0:IV):run Tryz.prog T69 C0 B5 Tryz.f193 [[a0]]=tq a0:=by kernel_rfl
abbrev Ni:FSig:=⟨.pure,true,[1],0,fun l=>match l with | [[x0]]=>tq x0 | _=>none⟩
def T70:FuncId->Option FSig:=al M1 Ni T69
theorem EA:run Tryz.prog T70 C0 A1 Tryz.f242 []=np:=by kernel_rfl
abbrev I4:FSig:=⟨.pure,true,[30],0,fun l=>match l with | []=>np | _=>none⟩
def T71:FuncId->Option FSig:=al K6 I4 T70
def AA:Ann:={ loop:=(fun r=>if r=3 then ([(0,.I),(4,.I),(8,.I)],[[(0,.I),(4,.I)]]) else if r=12 then ([(0,.I),(4,.I)],[[(0,.I),(4,.I)]]) else if r=15 then ([(0,.I),(4,.I)],[[(0,.I),(4,.I)]]) else ([],[])),scalar:=true }
theorem Ht (a0:IV):run Tryz.prog T71 C0 AA Tryz.f194 [[a0]]=oM a0:=by kernel_rfl
abbrev Og:FSig:=⟨.pure,true,[1,1],0,fun l=>match l with | [[x0]]=>oM x0 | _=>none⟩
def T72:FuncId->Option FSig:=al N9 Og T71
theorem Jt (a0:IV):run Tryz.prog T72 C0 A1 Tryz.f130 [[a0]]=qx a0:=by kernel_rfl
abbrev PX:FSig:=⟨.pure,true,[1],0,fun l=>match l with | [[x0]]=>qx x0 | _=>none⟩
def T73:FuncId->Option FSig:=al Qh PX T72
def oG:Ann:={ loop:=(fun r=>if r=2 then ([(8,.I)],[[],[(4,.I)]]) else ([],[])),scalar:=true }
theorem vf (a0 a1:IV):run Tryz.prog T73 C0 oG Tryz.f263 [[a0],[a1]]=jE a0 a1:=by kernel_rfl
abbrev xT:FSig:=⟨.pure,true,[1],0,fun l=>match l with | [[x0],[x1]]=>jE x0 x1 | _=>none⟩
def T74:FuncId->Option FSig:=al xZ xT T73
def cT:Inl:=kI Tryz.prog T74 C0 A0 Tryz.f260
def eH:FuncId->Option FSig:=al fq ⟨.inl cT,false,[],0,fun _=>none⟩ <| T74
def fD:Inl:=kI Tryz.prog eH C0 A0 Tryz.f266
def rX:FuncId->Option FSig:=al fq ⟨.inl cT,false,[],0,fun _=>none⟩ <| al dm ⟨.inl fD,false,[],0,fun _=>none⟩ <| T74
def uI:Ann:={ order:=(fun r=>if r=8 then some ([4,5,6],[0,1,2],[3,7,8]) else none),loop:=(fun r=>if r=3 then ([(0,.I),(3,(.B 1)),(4,(.C dm [some 1]))],[[(3,(.B 1))]]) else ([],[])) }
theorem AJ (a0:IV):run Tryz.prog rX C0 uI Tryz.f255 [[a0]]=ou a0:=by kernel_rfl
abbrev EO:FSig:=⟨.pure,false,[1],0,fun l=>match l with | [[x0]]=>ou x0 | _=>none⟩
def T75:FuncId->Option FSig:=al E1 EO T74
def wZ:Ann:={ loop:=(fun r=>if r=3 then ([(3,(.O [.sn 123 2,.buf 1 (some 5)])),(9,.I)],[[(3,(.O [.sn 123 2,.buf 1 (some 5)]))]]) else ([],[])),scalar:=true }
theorem C1 (a0:IV):run Tryz.prog T75 C0 wZ Tryz.f239 [[a0]]=wV a0:=by kernel_rfl
abbrev FW:FSig:=⟨.pure,true,[1],0,fun l=>match l with | [[x0]]=>wV x0 | _=>none⟩
def T76:FuncId->Option FSig:=al HX FW T75
def jw (a0:IV):Option (List IV):=run Tryz.prog T76 C0 A1 Tryz.f184 [[a0]]
abbrev Nj:FSig:=⟨.pure,true,[1],0,fun l=>match l with | [[x0]]=>jw x0 | _=>none⟩
def T77:FuncId->Option FSig:=al Mj Nj T76
def MO (a0:IV):Option (List IV):=run Tryz.prog T77 C0 A1 Tryz.f252 [[a0]]
abbrev MQ:FSig:=⟨.pure,true,[1],0,fun l=>match l with | [[x0]]=>MO x0 | _=>none⟩
def T78:FuncId->Option FSig:=al Nn MQ T77
def rR (a0 a1:IV):Option (List IV):=run Tryz.prog T78 C0 A1 Tryz.f256 [[a0],[a1]]
abbrev C4:FSig:=⟨.pure,true,[1],0,fun l=>match l with | [[x0],[x1]]=>rR x0 x1 | _=>none⟩
def T79:FuncId->Option FSig:=al nj C4 T78
def dj:IV->List Nat->List (List IV)->Option (List IV):=
 Fq nj [1] (fun caps l=>match caps,l with | [],[[a0],[a1]]=>rR a0 a1 | _,_=>none) <|
 fun _ _ _=>none
def dr:Inl:=kI Tryz.prog T79 (dj) A0 Tryz.f250
def fG:FuncId->Option FSig:=al fj ⟨.inl dr,false,[],0,fun _=>none⟩ <| T79
def fR:Inl:=kI Tryz.prog fG (dj) A0 Tryz.f262
def uu:FuncId->Option FSig:=al fj ⟨.inl dr,false,[],0,fun _=>none⟩ <| al dh ⟨.inl fR,false,[],0,fun _=>none⟩ <| T79
def xa:Ann:={ loop:=(fun r=>if r=4 then ([(3,(.C dh [some 1,some 1])),(4,(.O [.sn 123 2,.buf 1 (some 5)])),(10,.I)],[[(4,(.O [.sn 123 2,.buf 1 (some 5)]))]]) else ([],[])),scalar:=true }
def F0 (a0:IV):Option (List IV):=run Tryz.prog uu (dj) xa Tryz.f240 [[a0]]
abbrev Hl:FSig:=⟨.pure,true,[1],0,fun l=>match l with | [[x0]]=>F0 x0 | _=>none⟩
def T80:FuncId->Option FSig:=al Hu Hl T79
def sO:Ann:={ loop:=(fun r=>if r=4 then ([(3,(.B 1)),(4,(.B 1)),(12,.I)],[[(3,(.B 1)),(4,(.B 1))]]) else ([],[])),scalar:=true }
def CC (a0:IV):Option (List IV):=run Tryz.prog T80 C0 sO Tryz.f188 [[a0]]
abbrev Cy:FSig:=⟨.pure,true,[1],0,fun l=>match l with | [[x0]]=>CC x0 | _=>none⟩
def T81:FuncId->Option FSig:=al Cr Cy T80
def qc (a0:IV):Option (List IV):=run Tryz.prog T81 C0 A1 Tryz.f287 [[a0]]
abbrev y8:FSig:=⟨.pure,true,[1],0,fun l=>match l with | [[x0]]=>qc x0 | _=>none⟩
def T82:FuncId->Option FSig:=al zT y8 T81
def kr:IV->List Nat->List (List IV)->Option (List IV):=
 xf 266 "bonsai/snap.bytes" false [1] (fun caps l=>match caps,l with | [y],[]=>gy y | _,_=>none) <|
 xf 322 "bonsai/snap.bytes" false [1] (fun caps l=>match caps,l with | [y],[]=>lV y | _,_=>none) <|
 xf 323 "bonsai/snap.bytes" false [1] (fun caps l=>match caps,l with | [y],[]=>pn y | _,_=>none) <|
 xf 324 "bonsai/snap.bytes" false [1] (fun caps l=>match caps,l with | [y],[]=>qc y | _,_=>none) <|
 fun _ _ _=>none
def kC:IV->List Nat->List (List IV)->Option (List IV):=
 xf 326 "bonsai/snap.bytes" true [1] (fun caps l=>match caps,l with | [y],[]=>P6 "bonsai/snap.bytes" jw kr y | _,_=>none) <|
 kr
theorem PC (C:IV->List Nat->List (List IV)->Option (List IV)) (y:IV):p4 Tryz.prog T82 C A0 Tryz.f288 (PV×List Ob) [.agg [.imm y]] [] (fun p h=>some (p,h))=(P6 "bonsai/snap.bytes" jw C y).bind fun r=>some (.imm (nth r 0),[.box .rw [.imm y]]):=
 Eq.trans (b:=(C (IL "bonsai/snap.bytes" y) [1] []).bind fun r=>(jw (nth r 0)).bind fun r2=>some (.imm (nth r2 0),[.box .rw [.imm y]])) (by kernel_rfl) (Sx "bonsai/snap.bytes" jw C y (R:=PV×List Ob) fun v=>some (PV.imm v,[Ob.box Md.rw [PV.imm y]]))
def uM:FuncId->Option FSig:=al pa ⟨.pure,true,[1],0,fun l=>match l with | [[x0]]=>tF (kC) x0 | _=>none⟩ <| T82
def xm:Ann:={ order:=(fun r=>if r=7 then some ([5,6,7,8],[0,1,2,3],[4,9,10,11]) else if r=8 then some ([5,6,7,8],[0,1,2,3],[4,9,10,11]) else none),loop:=(fun r=>if r=5 then ([(3,(.B 1)),(4,(.B 1)),(5,(.B 1)),(6,(.B 1)),(11,.I)],[[(3,(.B 1)),(4,(.B 1)),(5,(.B 1)),(6,(.B 1))]]) else ([],[])),scalar:=true }
def Gv (a0:IV):Option (List IV):=run Tryz.prog uM (kC) xm Tryz.f182 [[a0]]
abbrev HN:FSig:=⟨.pure,true,[1],0,fun l=>match l with | [[x0]]=>Gv x0 | _=>none⟩
def T83:FuncId->Option FSig:=al GV HN T82
def je:IV->List Nat->List (List IV)->Option (List IV):=
 xf 266 "bonsai/snap.bytes" false [1] (fun caps l=>match caps,l with | [y],[]=>gy y | _,_=>none) <|
 xf 322 "bonsai/snap.bytes" false [1] (fun caps l=>match caps,l with | [y],[]=>lV y | _,_=>none) <|
 fun _ _ _=>none
def jt:IV->List Nat->List (List IV)->Option (List IV):=
 xf 326 "bonsai/snap.bytes" true [1] (fun caps l=>match caps,l with | [y],[]=>P6 "bonsai/snap.bytes" jw je y | _,_=>none) <|
 je
def rY:FuncId->Option FSig:=al pa ⟨.pure,true,[1],0,fun l=>match l with | [[x0]]=>tF (jt) x0 | _=>none⟩ <| T83
def uw:Ann:={ order:=(fun r=>if r=5 then some ([5,6,7,8],[0,1,2,3],[4,9,10,11]) else none),loop:=(fun r=>if r=3 then ([(3,(.B 1)),(4,(.B 1)),(9,.I)],[[(3,(.B 1)),(4,(.B 1))]]) else ([],[])),scalar:=true }
def E0 (a0:IV):Option (List IV):=run Tryz.prog rY (jt) uw Tryz.f183 [[a0]]
abbrev EV:FSig:=⟨.pure,true,[1],0,fun l=>match l with | [[x0]]=>E0 x0 | _=>none⟩
def T84:FuncId->Option FSig:=al Ev EV T83
def vz:IV->List Nat->List (List IV)->Option (List IV):=
 xf 266 "bonsai/snap.bytes" false [1] (fun caps l=>match caps,l with | [y],[]=>gy y | _,_=>none) <|
 fun _ _ _=>none
def ml:IV->List Nat->List (List IV)->Option (List IV):=
 vz
def vH:FuncId->Option FSig:=al pa ⟨.pure,true,[1],0,fun l=>match l with | [[x0]]=>tF (ml) x0 | _=>none⟩ <| T84
def yC:Ann:={ order:=(fun r=>if r=3 then some ([],[0,1,2,3,4,5,6,7,8,9,10,11,12,13,14,15,16,17,18,19,20,21],[]) else none),join:=(fun r=>if r=1 then some [25] else none) }
def JS (a0 a1 a2 a3 a4:IV):Option (List IV):=run Tryz.prog vH (ml) yC Tryz.f119 [[a0,a1,a2,a3,a4]]
abbrev Je:FSig:=⟨.pure,false,[1,1],0,fun l=>match l with | [[x0,x1,x2,x3,x4]]=>JS x0 x1 x2 x3 x4 | _=>none⟩
def T85:FuncId->Option FSig:=al Js Je T84
def xk:Ann:={ order:=(fun r=>if r=10 then some ([6,7,8,9,10,11],[0,1,2,3,4],[5,12,13,14]) else if r=11 then some ([5,6,7,8],[0,1,2,3],[4,9,10,11]) else if r=12 then some ([5,6,7,8],[0,1,2,3],[4,9,10,11]) else none),loop:=(fun r=>if r=8 then ([(4,(.B 1)),(5,(.B 1)),(6,(.B 1)),(7,(.B 1)),(8,(.B 1)),(9,(.B 1)),(17,.I)],[[(4,(.B 1)),(5,(.B 1)),(6,(.B 1)),(7,(.B 1)),(8,(.B 1)),(9,(.B 1))]]) else ([],[])) }
def HJ (a0:IV):Option (List IV):=run Tryz.prog T85 C0 xk Tryz.f120 [[a0]]
abbrev Ia:FSig:=⟨.pure,false,[1,1],0,fun l=>match l with | [[x0]]=>HJ x0 | _=>none⟩
def T86:FuncId->Option FSig:=al F7 Ia T85
def mM:Ann:={ loop:=(fun r=>if r=3 then ([(3,.I),(11,.I)],[[(3,.I)]]) else if r=11 then ([(6,(.B 2)),(27,.I)],[[(6,(.B 2))]]) else ([],[])) }
def uQ (a0:IV):Option (List IV):=run Tryz.prog T86 C0 mM Tryz.f121 [[a0]]
abbrev vn:FSig:=⟨.pure,false,[1],0,fun l=>match l with | [[x0]]=>uQ x0 | _=>none⟩
def T87:FuncId->Option FSig:=al vh vn T86
def Gw (a0 a1 a2 a3 a4:IV):Option (List IV):=run Tryz.prog T87 C0 A0 Tryz.f55 [[a0,a1,a2,a3,a4]]
abbrev FZ:FSig:=⟨.pure,false,[1,1],0,fun l=>match l with | [[x0,x1,x2,x3,x4]]=>Gw x0 x1 x2 x3 x4 | _=>none⟩
def T88:FuncId->Option FSig:=al Io FZ T87
def Hg:Ann:={ loop:=(fun r=>if r=3 then ([(5,.I),(13,.I)],[[(5,.I)]]) else if r=7 then ([(5,.I),(21,.I)],[[(5,.I)]]) else ([],[])),scalar:=true }
theorem OP (a0 a1:IV):run Tryz.prog T88 C0 Hg Tryz.f257 [[a0],[a1]]=z7 a0 a1:=by kernel_rfl
abbrev SB:FSig:=⟨.pure,true,[1],0,fun l=>match l with | [[x0],[x1]]=>z7 x0 x1 | _=>none⟩
def T89:FuncId->Option FSig:=al SV SB T88
theorem Pb (a0:IV):run Tryz.prog T89 C0 A1 Tryz.f241 [[a0]]=Lh a0:=by kernel_rfl
abbrev Vr:FSig:=⟨.pure,true,[1],0,fun l=>match l with | [[x0]]=>Lh x0 | _=>none⟩
def T90:FuncId->Option FSig:=al Uv Vr T89
def BO:Ann:={ loop:=(fun r=>if r=3 then ([(3,(.B 1)),(8,.I)],[[(3,(.B 1))]]) else ([],[])),scalar:=true }
theorem FR (a0:IV):run Tryz.prog T90 C0 BO Tryz.f129 [[a0]]=Aj a0:=by kernel_rfl
abbrev OG:FSig:=⟨.pure,true,[1],0,fun l=>match l with | [[x0]]=>Aj x0 | _=>none⟩
def T91:FuncId->Option FSig:=al M4 OG T90
def H6 (a0:IV):Option (List IV):=run Tryz.prog T91 C0 A1 Tryz.f190 [[a0]]
abbrev GL:FSig:=⟨.pure,true,[1],0,fun l=>match l with | [[x0]]=>H6 x0 | _=>none⟩
def T92:FuncId->Option FSig:=al GW GL T91
def Dk:Ann:={ order:=(fun r=>if r=1 then some ([],[0,1,2,3,4,5,6,7,8,9,10,11,12,13,14,15],[]) else none),scalar:=true }
def Pj (a0 a1:IV):Option (List IV):=run Tryz.prog T92 C0 Dk Tryz.f123 [[a0,a1]]
abbrev QK:FSig:=⟨.pure,true,[1],0,fun l=>match l with | [[x0,x1]]=>Pj x0 x1 | _=>none⟩
def T93:FuncId->Option FSig:=al PE QK T92
def A8:Ann:={ join:=(fun r=>if r=1 then some [15] else if r=10 then some [26] else none),loop:=(fun r=>if r=8 then ([(6,(.O [.sn 123 2,.buf 1 (some 5)])),(7,.I),(22,.I)],[[(6,(.O [.sn 123 2,.buf 1 (some 5)]))],[(4,.I),(5,.I)]]) else ([],[])),scalar:=true }
def NT (a0 a1:IV):Option (List IV):=run Tryz.prog T93 C0 A8 Tryz.f56 [[a0],[a1]]
abbrev MC:FSig:=⟨.pure,true,[1,1],0,fun l=>match l with | [[x0],[x1]]=>NT x0 x1 | _=>none⟩
def T94:FuncId->Option FSig:=al Ol MC T93
def NO (a0 a1 a2 a3 a4:IV):Option (List IV):=run Tryz.prog T94 C0 A1 Tryz.f26 [[a0,a1,a2,a3,a4]]
abbrev ON:FSig:=⟨.pure,true,[1,1],0,fun l=>match l with | [[x0,x1,x2,x3,x4]]=>NO x0 x1 x2 x3 x4 | _=>none⟩
def T95:FuncId->Option FSig:=al Mx ON T94
def kT:Ann:={ join:=(fun r=>if r=1 then some [4] else none),scalar:=true }
def rV (a0 a1:IV):Option (List IV):=run Tryz.prog T95 C0 kT Tryz.f243 [[a0],[a1]]
abbrev sQ:FSig:=⟨.pure,true,[1],0,fun l=>match l with | [[x0],[x1]]=>rV x0 x1 | _=>none⟩
def T96:FuncId->Option FSig:=al r7 sQ T95
def su (a0 a1:IV):Option (List IV):=run Tryz.prog T96 C0 A1 Tryz.f195 [[a0],[a1]]
abbrev rN:FSig:=⟨.pure,true,[1,1],0,fun l=>match l with | [[x0],[x1]]=>su x0 x1 | _=>none⟩
def T97:FuncId->Option FSig:=al rP rN T96
def yc (a0 a1:IV):Option (List IV):=run Tryz.prog T97 C0 A1 Tryz.f131 [[a0],[a1]]
abbrev xS:FSig:=⟨.pure,true,[1,1],0,fun l=>match l with | [[x0],[x1]]=>yc x0 x1 | _=>none⟩
def T98:FuncId->Option FSig:=al xV xS T97
def EI (a0:IV):Option (List IV):=run Tryz.prog T98 C0 A1 Tryz.f63 [[a0]]
abbrev Fg:FSig:=⟨.pure,true,[1,1],0,fun l=>match l with | [[x0]]=>EI x0 | _=>none⟩
def T99:FuncId->Option FSig:=al EH Fg T98
theorem ME (a0:IV):runN Tryz.prog T99 C0 A0 [.imm,.imm] Tryz.f64 [[a0]]=pt a0:=by kernel_rfl
abbrev SY:FSig:=⟨.mko [.imm,.imm],false,[1],0,fun l=>match l with | [[x0]]=>pt x0 | _=>none⟩
def Z3:FuncId->Option FSig:=al FK SY T99
theorem J2 (a0 a1:IV):run Tryz.prog Z3 C0 A1 Tryz.f134 [[a0],[a1]]=dM a0 a1:=by kernel_rfl
abbrev Rm:FSig:=⟨.pure,true,[],0,fun l=>match l with | [[x0],[x1]]=>dM x0 x1 | _=>none⟩
def VO:FuncId->Option FSig:=al O8 Rm Z3
def cL:Ann:={ join:=(fun r=>if r=1 then some [] else none) }
def bt:Inl:=kI Tryz.prog VO C0 cL Tryz.f197
def cS:FuncId->Option FSig:=al eX ⟨.inl bt,false,[],0,fun _=>none⟩ <| VO
def cY:Ann:={ order:=(fun r=>if r=3 then some ([0],[1,2,3,4,5],[6,7,8,9]) else none),join:=(fun r=>if r=1 then some [12] else none) }
def da:Inl:=PZ Tryz.prog cS C0 cY ep Tryz.f132
def oH:FuncId->Option FSig:=al eX ⟨.inl bt,false,[],0,fun _=>none⟩ <| al ee ⟨.inl da,false,[],0,fun _=>none⟩ <| VO
theorem wN (a0 a1 a2:IV):runM Tryz.prog oH C0 A0 [.imm,.imm] Tryz.f138 [a0,a1] [[a2]]=kK a0 a1 a2:=by kernel_rfl
abbrev zV:FSig:=⟨.obj [.imm,.imm],false,[1],0,fun l=>match l with | [[x0,x1],[x2]]=>kK x0 x1 x2 | _=>none⟩
def V9:FuncId->Option FSig:=al pZ zV VO
def df:Ann:={ join:=(fun r=>if r=6 then some [] else none),loop:=(fun r=>if r=4 then ([(1,(.K 3 [.imm])),(4,.I),(5,.I)],[[(1,(.K 3 [.imm])),(3,.I)]]) else ([],[])) }
def bK:Inl:=kI Tryz.prog V9 C0 df Tryz.f133
def db:FuncId->Option FSig:=al fL ⟨.inl bK,false,[],0,fun _=>none⟩ <| V9
def dE:Ann:={ order:=(fun r=>if r=3 then some ([0],[1,2,3,4,5],[6,7,8,9]) else none),join:=(fun r=>if r=1 then some [12] else none) }
def dD:Inl:=PZ Tryz.prog db C0 dE ep Tryz.f132
def pO:FuncId->Option FSig:=al fL ⟨.inl bK,false,[],0,fun _=>none⟩ <| al ee ⟨.inl dD,false,[],0,fun _=>none⟩ <| V9
theorem yb (a0 a1:IV):runM Tryz.prog pO C0 A0 [.imm,.imm] Tryz.f65 [a0,a1] []=e7 a0 a1:=by kernel_rfl
abbrev BS:FSig:=⟨.obj [.imm,.imm],false,[1],0,fun l=>match l with | [[x0,x1]]=>e7 x0 x1 | _=>none⟩
def Zg:FuncId->Option FSig:=al qE BS V9
def mh (a0:IV):Option (List IV):=run Tryz.prog Zg C0 A1 Tryz.f66 [[a0]]
abbrev iv (c0 c1:IV):Option (List IV):=mh (.ptr [c0,c1] 0)
abbrev AB:FSig:=⟨.look 2,false,[1],0,fun l=>match l with | vs::ws=>(fun l=>match l with | [[x0]]=>mh x0 | _=>none) ([.ptr vs 0]::ws) | []=>none⟩
def YL:FuncId->Option FSig:=al mm AB Zg
def kN (a0:IV):Option (List IV):=run Tryz.prog YL C0 A1 Tryz.f142 [[a0]]
abbrev gk (c0 c1:IV):Option (List IV):=kN (.ptr [c0,c1] 0)
abbrev zi:FSig:=⟨.look 2,false,[1],0,fun l=>match l with | vs::ws=>(fun l=>match l with | [[x0]]=>kN x0 | _=>none) ([.ptr vs 0]::ws) | []=>none⟩
def YR:FuncId->Option FSig:=al kR zi YL
def yz:Ann:={ order:=(fun r=>if r=15 then some ([],[0,1,2,3,4,5,6,7,8],[]) else none),scalar:=true }
def IX (a0:IV):Option (List IV):=run Tryz.prog YR C0 yz Tryz.f158 [[a0]]
abbrev JY:FSig:=⟨.pure,true,[2,1,1],0,fun l=>match l with | [[x0]]=>IX x0 | _=>none⟩
def ZY:FuncId->Option FSig:=al Jk JY YR
def yW:Ann:={ order:=(fun r=>if r=12 then some ([4,5,6,7,8],[0,1,2],[3,9,10,11]) else none),loop:=(fun r=>if r=7 then ([(0,.I),(7,(.B 2)),(8,.I)],[[(7,(.B 2))],[(2,.I),(3,.I),(4,.I)]]) else ([],[])) }
def Jc (a0:IV):Option (List IV):=run Tryz.prog ZY C0 yW Tryz.f92 [[a0]]
abbrev Kh:FSig:=⟨.pure,false,[1,1,1],0,fun l=>match l with | [[x0]]=>Jc x0 | _=>none⟩
def YM:FuncId->Option FSig:=al J0 Kh ZY
def kP (a0 a1:IV):Option (List IV):=
 (iv a0 a1).bind fun v1=>
 ((aa .neq (nth v1 0) (.int .i64 0)).bind fun v2=>
 af v2 (fun _=>
 some [(.bool true)]) (fun _=>
 (gk a0 a1).bind fun v3=>
 (aa .eql (nth v3 0) (.int .i64 0)).bind fun v4=>
 some [v4])).bind fun v5=>
 af (nth v5 0) (fun _=>
 some [a0,a1,(nth v1 0)]) (fun _=>
 some [a0,a1,(.int .i64 5)])
def pR:Ann:={ join:=(fun r=>if r=2 then some [12] else none) }
theorem vG (a0 a1:IV):runM Tryz.prog YM C0 pR [.imm,.imm] Tryz.f68 [a0,a1] []=kP a0 a1:=by kernel_rfl
abbrev zI:FSig:=⟨.obj [.imm,.imm],false,[1],0,fun l=>match l with | [[x0,x1]]=>kP x0 x1 | _=>none⟩
def T108:FuncId->Option FSig:=al pW zI YM
def snap_open_s (a0 a1:IV):Option (List IV):=runN Tryz.prog T108 C0 A0 [.imm,.imm,.imm] Tryz.f211 [[a0],[a1]]
abbrev S_snap_open:FSig:=⟨.mko [.imm,.imm,.imm],false,[1],0,fun l=>match l with | [[x0],[x1]]=>snap_open_s x0 x1 | _=>none⟩
def Z1:FuncId->Option FSig:=al n_snap_open S_snap_open T108
def wM:Ann:={ order:=(fun r=>if r=4 then some ([],[0,1,2,3,4,5,6,7,8,9],[]) else none),loop:=(fun r=>if r=2 then ([(3,.I)],[[],[(2,.I)]]) else ([],[])),scalar:=true }
theorem CZ (a0:IV):run Tryz.prog Z1 C0 wM Tryz.f218 [[a0]]=xp a0:=by kernel_rfl
abbrev Gp:FSig:=⟨.pure,true,[1],0,fun l=>match l with | [[x0]]=>xp x0 | _=>none⟩
def YX:FuncId->Option FSig:=al H2 Gp Z1
def Ei:Ann:={ order:=(fun r=>if r=8 then some ([],[0,1,2,3,4,5,6,7,8,9,10],[]) else none),scalar:=true }
def RE (a0:IV):Option (List IV):=run Tryz.prog YX C0 Ei Tryz.f222 [[a0]]
abbrev RG:FSig:=⟨.pure,true,[1,1,1],0,fun l=>match l with | [[x0]]=>RE x0 | _=>none⟩
def YN:FuncId->Option FSig:=al Qg RG YX
def OD (a0:IV):Option (List IV):=run Tryz.prog YN C0 A1 Tryz.f173 [[a0]]
abbrev M9:FSig:=⟨.pure,true,[],0,fun l=>match l with | [[x0]]=>OD x0 | _=>none⟩
def ZG:FuncId->Option FSig:=al OQ M9 YN
def Po (a0:IV):Option (List IV):=run Tryz.prog ZG C0 A1 Tryz.f164 [[a0]]
abbrev Rx:FSig:=⟨.pure,true,[1,1],0,fun l=>match l with | [[x0]]=>Po x0 | _=>none⟩
def ZA:FuncId->Option FSig:=al PD Rx ZG
theorem HC (a0 a1:IV):run Tryz.prog ZA C0 A1 Tryz.f265 [[a0],[a1]]=tM a0 a1:=by kernel_rfl
abbrev Oy:FSig:=⟨.pure,true,[1,1],0,fun l=>match l with | [[x0],[x1]]=>tM x0 x1 | _=>none⟩
def aal:FuncId->Option FSig:=al MN Oy ZA
theorem Hq (a0 a1:IV):run Tryz.prog aal C0 A1 Tryz.f264 [[a0],[a1]]=Bp a0 a1:=by kernel_rfl
abbrev Oh:FSig:=⟨.pure,true,[1,1],0,fun l=>match l with | [[x0],[x1]]=>Bp x0 x1 | _=>none⟩
def aak:FuncId->Option FSig:=al NB Oh aal
theorem MA (a0 a1:IV):run Tryz.prog aak C0 A1 Tryz.f259 [[a0],[a1]]=Iq a0 a1:=by kernel_rfl
abbrev SO:FSig:=⟨.pure,true,[1,1],0,fun l=>match l with | [[x0],[x1]]=>Iq x0 x1 | _=>none⟩
def ZC:FuncId->Option FSig:=al SF SO aak
def ny:Ann:={ order:=(fun r=>if r=9 then some ([0],[1,2,3,4,5,6],[7,8,9]) else none),join:=(fun r=>if r=4 then some [26] else none),loop:=(fun r=>if r=8 then ([(7,(.B 1)),(8,.I)],[[(7,(.B 1))]]) else ([],[])) }
def nJ (a0 a1:IV):Option (List IV):=run Tryz.prog ZC C0 ny Tryz.f261 [[a0],[a1]]
abbrev wG:FSig:=⟨.pure,false,[1],0,fun l=>match l with | [[x0],[x1]]=>nJ x0 x1 | _=>none⟩
def WC:FuncId->Option FSig:=al wx wG ZC
def EE (v8:IV) (a0:IV) (a1:IV) (v9:List IV):Option SR:=
 (aa .lss (nth v9 2) v8).bind fun v10=>
 af v10 (fun _=>
 (dH a0 (nth v9 2) 1).bind fun v11=>
 (qA a0 v11 0).bind fun v12=>
 ((Sw (nth v9 2) (.int .i64 1)).bind fun v13=>
 (aa .lss v12 v13).bind fun v14=>
 af v14 (fun _=>
 some [(.bool true)]) (fun _=>
 (aa .sub a1 (.int .i64 ((bQ (nth v9 0)):Nat))).bind fun v15=>
 (aa .gtr v12 v15).bind fun v16=>
 some [v16])).bind fun v17=>
 af (nth v17 0) (fun _=>
 some (.done 1 [(.lst []),(.bool false)])) (fun _=>
 (rI .not (nth v9 1)).bind fun v18=>
 (nJ (.lst [[v18]]) v12).bind fun v19=>
 (lY 1 1 (nth v9 0) (nth v19 0)).bind fun v20=>
 (aa .add (nth v9 2) (.int .i64 1)).bind fun v21=>
 some (.next [v20,v18,v21]))) (fun _=>
 some (.done 0 [(nth v9 0)]))
def pd (a0 a1:IV):Option (List IV):=
 ((aa .lss a1 (.int .i64 0)).bind fun v1=>
 af v1 (fun _=>
 some [(.bool true)]) (fun _=>
 (bq a0).bind fun v2=>
 (aa .eql v2 (.int .i64 1)).bind fun v3=>
 af v3 (fun _=>
 (dH a0 (.int .i64 0) 1).bind fun v4=>
 (qA a0 v4 0).bind fun v5=>
 (aa .eql v5 (.int .i64 0)).bind fun v6=>
 some [v6]) (fun _=>
 some [(.bool false)]))).bind fun v7=>
 af (nth v7 0) (fun _=>
 some [(.lst []),(.bool false)]) (fun _=>
 (bq a0).bind fun v8=>
 (iter rounds (EE v8 a0 a1) [(.lst []),(.bool true),(.int .i64 0)]).bind fun v22=>
 iA v22.1 [some [(nth v22.2 0),(.bool true)],
 some [(nth v22.2 0),(nth v22.2 1)]])
def du:Inl:=kI Tryz.prog WC C0 A0 Tryz.f260
def fw:FuncId->Option FSig:=al fq ⟨.inl du,false,[],0,fun _=>none⟩ <| WC
def fW:Inl:=kI Tryz.prog fw C0 A0 Tryz.f266
def uz:FuncId->Option FSig:=al fq ⟨.inl du,false,[],0,fun _=>none⟩ <| al dm ⟨.inl fW,false,[],0,fun _=>none⟩ <| WC
def xl:Ann:={ join:=(fun r=>if r=1 then some [22] else if r=8 then some [42] else none),loop:=(fun r=>if r=6 then ([(6,(.B 1)),(7,(.C dm [some 1])),(26,.I)],[[(6,(.B 1))],[(4,.I),(5,.I)]]) else ([],[])) }
theorem Cx (a0 a1:IV):run Tryz.prog uz C0 xl Tryz.f249 [[a0],[a1]]=pd a0 a1:=by kernel_rfl
abbrev FU:FSig:=⟨.pure,false,[1,1],0,fun l=>match l with | [[x0],[x1]]=>pd x0 x1 | _=>none⟩
def YT:FuncId->Option FSig:=al Hv FU WC
def EL (v4:List IV):Option SR:=
 (gk (nth v4 0) (nth v4 1)).bind fun v5=>
 (aa .gtr (nth v5 0) (.int .i64 0)).bind fun v6=>
 af v6 (fun _=>
 (e7 (nth v4 0) (nth v4 1)).bind fun v7=>
 (iv (nth v7 0) (nth v7 1)).bind fun v8=>
 (aa .neq (nth v8 0) (.int .i64 0)).bind fun v9=>
 af v9 (fun _=>
 some (.done 1 [(.lst []),(nth v8 0)])) (fun _=>
 ((mY .u64 (nth v4 3)).bind fun v10=>
 (aa .gtr (nth (v7.drop 2) 0) v10).bind fun v11=>
 af v11 (fun _=>
 some [(.bool true)]) (fun _=>
 (aa .eql (nth (v7.drop 2) 0) (.int .u64 0)).bind fun v12=>
 af v12 (fun _=>
 (aa .gtr (.int .i64 ((bQ (nth v4 2)):Nat)) (.int .i64 0)).bind fun v13=>
 some [v13]) (fun _=>
 some [(.bool false)]))).bind fun v14=>
 af (nth v14 0) (fun _=>
 some (.done 1 [(.lst []),(.int .i64 5)])) (fun _=>
 (mY .i64 (nth (v7.drop 2) 0)).bind fun v15=>
 (aa .sub (nth v4 3) v15).bind fun v16=>
 (mY .i64 (nth (v7.drop 2) 0)).bind fun v17=>
 (lY 1 8 (nth v4 2) (.lst [[v17]])).bind fun v18=>
 some (.next [(nth v7 0),(nth v7 1),v18,v16])))) (fun _=>
 some (.done 0 [(nth v4 2),(nth v4 3)]))
def we (a0 a1:IV):Option (List IV):=
 (aa .lss a1 (.int .i64 0)).bind fun v1=>
 af v1 (fun _=>
 some [(.lst []),(.int .i64 1)]) (fun _=>
 (aa .gtr a1 (.int .i64 4096)).bind fun v2=>
 af v2 (fun _=>
 some [(.lst []),(.int .i64 10)]) (fun _=>
 (pt a0).bind fun v3=>
 (iter rounds (EL) [(nth v3 0),(nth v3 1),(.lst []),a1]).bind fun v19=>
 iA v19.1 [(pd (nth v19.2 0) a1).bind fun v20=>
 ((rI .not (nth v20 1)).bind fun v21=>
 af v21 (fun _=>
 some [(.bool true)]) (fun _=>
 (aa .gtr (nth v19.2 1) (.int .i64 0)).bind fun v22=>
 some [v22])).bind fun v23=>
 af (nth v23 0) (fun _=>
 some [(.lst []),(.int .i64 5)]) (fun _=>
 some [(nth v20 0),(.int .i64 0)]),
 some [(nth v19.2 0),(nth v19.2 1)]]))
def vO:Ann:={ join:=(fun r=>if r=13 then some [44] else if r=18 then some [65] else none),loop:=(fun r=>if r=8 then ([(6,(.O [.imm,.imm])),(7,(.B 1)),(8,.I)],[[(7,(.B 1)),(8,.I)],[(4,.I),(5,.I)]]) else ([],[])) }
theorem Db (a0 a1:IV):run Tryz.prog YT C0 vO Tryz.f230 [[a0],[a1]]=we a0 a1:=by kernel_rfl
abbrev Gm:FSig:=⟨.pure,false,[1,1],0,fun l=>match l with | [[x0],[x1]]=>we x0 x1 | _=>none⟩
def ZP:FuncId->Option FSig:=al H8 Gm YT
def I2 (a0 a1:IV):Option (List IV):=run Tryz.prog ZP C0 A0 Tryz.f229 [[a0],[a1]]
abbrev IP:FSig:=⟨.pure,false,[1],0,fun l=>match l with | [[x0],[x1]]=>I2 x0 x1 | _=>none⟩
def Z2:FuncId->Option FSig:=al IZ IP ZP
def yr:Ann:={ loop:=(fun r=>if r=3 then ([(3,.I),(8,.I)],[[(3,.I)]]) else ([],[])),scalar:=true }
theorem Fh (a0:IV):run Tryz.prog Z2 C0 yr Tryz.f232 [[a0]]=yJ a0:=by kernel_rfl
abbrev Ji:FSig:=⟨.pure,true,[1],0,fun l=>match l with | [[x0]]=>yJ x0 | _=>none⟩
def aah:FuncId->Option FSig:=al I9 Ji Z2
def Az:Ann:={ join:=(fun r=>if r=1 then some [2] else none),scalar:=true }
theorem FJ (a0:IV):run Tryz.prog aah C0 Az Tryz.f141 [[a0]]=Bz a0:=by kernel_rfl
abbrev OS:FSig:=⟨.pure,true,[1],0,fun l=>match l with | [[x0]]=>Bz x0 | _=>none⟩
def ZU:FuncId->Option FSig:=al NH OS aah
def Ch:Ann:={ loop:=(fun r=>if r=2 then ([(0,.I),(1,.I),(8,.I)],[[(0,.I)]]) else if r=4 then ([(0,.I),(1,.I)],[[(0,.I),(1,.I)]]) else if r=7 then ([(0,.I),(1,.I)],[[(0,.I),(1,.I)]]) else ([],[])),scalar:=true }
theorem HS (a0 a1:IV):run Tryz.prog ZU C0 Ch Tryz.f199 [[a0],[a1]]=oW a0 a1:=by kernel_rfl
abbrev N4:FSig:=⟨.pure,true,[1],0,fun l=>match l with | [[x0],[x1]]=>oW x0 x1 | _=>none⟩
def YK:FuncId->Option FSig:=al OO N4 ZU
def Br:Ann:={ join:=(fun r=>if r=4 then some [19] else none),scalar:=true }
theorem Gb (a0:IV):run Tryz.prog YK C0 Br Tryz.f140 [[a0]]=AL a0:=by kernel_rfl
abbrev N1:FSig:=⟨.pure,true,[1],0,fun l=>match l with | [[x0]]=>AL x0 | _=>none⟩
def Y3:FuncId->Option FSig:=al NW N1 YK
def rT (a0 a1:IV):Option (List IV):=run Tryz.prog Y3 C0 A1 Tryz.f251 [[a0],[a1]]
abbrev CL:FSig:=⟨.pure,true,[1],0,fun l=>match l with | [[x0],[x1]]=>rT x0 x1 | _=>none⟩
def VD:FuncId->Option FSig:=al mX CL Y3
def di:IV->List Nat->List (List IV)->Option (List IV):=
 Fq mX [1] (fun caps l=>match caps,l with | [],[[a0],[a1]]=>rT a0 a1 | _,_=>none) <|
 fun _ _ _=>none
def dp:Inl:=kI Tryz.prog VD (di) A0 Tryz.f250
def ft:FuncId->Option FSig:=al fj ⟨.inl dp,false,[],0,fun _=>none⟩ <| VD
def fQ:Inl:=kI Tryz.prog ft (di) A0 Tryz.f262
def uc:FuncId->Option FSig:=al fj ⟨.inl dp,false,[],0,fun _=>none⟩ <| al dh ⟨.inl fQ,false,[],0,fun _=>none⟩ <| VD
def xb:Ann:={ loop:=(fun r=>if r=9 then ([(6,(.C dh [some 1,some 1])),(7,(.O [.imm,.imm])),(8,(.B 1)),(24,.I)],[[(7,(.O [.imm,.imm])),(8,(.B 1))],[(4,.I),(5,.I)]]) else ([],[])) }
def GN (a0 a1:IV):Option (List IV):=run Tryz.prog uc (di) xb Tryz.f231 [[a0],[a1]]
abbrev FF:FSig:=⟨.pure,false,[1,1],0,fun l=>match l with | [[x0],[x1]]=>GN x0 x1 | _=>none⟩
def ZQ:FuncId->Option FSig:=al Ir FF VD
def JW (a0 a1:IV):Option (List IV):=run Tryz.prog ZQ C0 A0 Tryz.f171 [[a0],[a1]]
abbrev Jz:FSig:=⟨.pure,false,[1],0,fun l=>match l with | [[x0],[x1]]=>JW x0 x1 | _=>none⟩
def ZF:FuncId->Option FSig:=al KJ Jz ZQ
theorem JZ (a0 a1:IV):run Tryz.prog ZF C0 A1 Tryz.f233 [[a0],[a1]]=D6 a0 a1:=by kernel_rfl
abbrev RU:FSig:=⟨.pure,true,[1],0,fun l=>match l with | [[x0],[x1]]=>D6 x0 x1 | _=>none⟩
def Xl:FuncId->Option FSig:=al OY RU ZF
def dg:Ann:={ order:=(fun r=>if r=8 then some ([],[0,1,2,3,4,5,6],[]) else none),loop:=(fun r=>if r=4 then ([(2,(.K 2 [.buf 1])),(6,.I),(30,.I)],[[(2,(.K 2 [.buf 1]))]]) else ([],[])) }
def bP:Inl:=kI Tryz.prog Xl C0 dg Tryz.f228
def e6:FuncId->Option FSig:=al fJ ⟨.inl bP,false,[],0,fun _=>none⟩ <| Xl
def fE:Inl:=PZ Tryz.prog e6 C0 A0 jf Tryz.f161
def o9:FuncId->Option FSig:=al fJ ⟨.inl bP,false,[],0,fun _=>none⟩ <| al jT ⟨.inl fE,false,[],0,fun _=>none⟩ <| Xl
def AK (a0 a1:IV):Option (List IV):=run Tryz.prog o9 C0 A0 Tryz.f172 [[a0],[a1]]
abbrev AF:FSig:=⟨.pure,false,[1,1],0,fun l=>match l with | [[x0],[x1]]=>AK x0 x1 | _=>none⟩
def Zo:FuncId->Option FSig:=al BX AF Xl
def DP (a0 a1 a2:IV):Option (List IV):=
 ((aa .lss a1 (.int .i64 0)).bind fun v1=>
 af v1 (fun _=>
 some [(.bool true)]) (fun _=>
 (qQ a0).bind fun v2=>
 (aa .gtr a1 v2).bind fun v3=>
 some [v3])).bind fun v4=>
 af (nth v4 0) (fun _=>
 ai [(.str ⟨#[]⟩),(.int .i64 0),(.int .i64 1)]) (fun _=>
 (yT a0 (some a1) none).bind fun v5=>
 (pt v5).bind fun v6=>
 (e7 (nth v6 0) (nth v6 1)).bind fun v7=>
 (iv (nth v7 0) (nth v7 1)).bind fun v8=>
 (aa .neq (nth v8 0) (.int .i64 0)).bind fun v9=>
 af v9 (fun _=>
 (iv (nth v7 0) (nth v7 1)).bind fun v10=>
 ai [(.str ⟨#[]⟩),(.int .i64 0),(nth v10 0)]) (fun _=>
 ((aa .lss a2 (.int .i64 0)).bind fun v11=>
 af v11 (fun _=>
 some [(.bool true)]) (fun _=>
 (mY .u64 a2).bind fun v12=>
 (aa .gtr (nth (v7.drop 2) 0) v12).bind fun v13=>
 some [v13])).bind fun v14=>
 af (nth v14 0) (fun _=>
 ai [(.str ⟨#[]⟩),(.int .i64 0),(.int .i64 10)]) (fun _=>
 (gk (nth v7 0) (nth v7 1)).bind fun v15=>
 (mY .u64 (nth v15 0)).bind fun v16=>
 (aa .gtr (nth (v7.drop 2) 0) v16).bind fun v17=>
 af v17 (fun _=>
 ai [(.str ⟨#[]⟩),(.int .i64 0),(.int .i64 2)]) (fun _=>
 (mY .i64 (nth (v7.drop 2) 0)).bind fun v18=>
 (kK (nth v7 0) (nth v7 1) v18).bind fun v19=>
 (jo (nth (v19.drop 2) 0)).bind fun v20=>
 (rI .not (nth v20 0)).bind fun v21=>
 af v21 (fun _=>
 ai [(.str ⟨#[]⟩),(.int .i64 0),(.int .i64 4)]) (fun _=>
 (qQ a0).bind fun v22=>
 (gk (nth v19 0) (nth v19 1)).bind fun v23=>
 (aa .sub v22 (nth v23 0)).bind fun v24=>
 ai [(nth (v19.drop 2) 0),v24,(.int .i64 0)])))))
def Dj:Ann:={ join:=(fun r=>if r=1 then some [19] else if r=7 then some [32] else none),scalar:=true }
theorem Kg (a0 a1 a2:IV):run Tryz.prog Zo C0 Dj Tryz.f137 [[a0],[a1],[a2]]=DP a0 a1 a2:=by kernel_rfl
abbrev PL:FSig:=⟨.pure,true,[1,1,1],0,fun l=>match l with | [[x0],[x1],[x2]]=>DP x0 x1 x2 | _=>none⟩
def ZI:FuncId->Option FSig:=al QH PL Zo
def Ih:Ann:={ order:=(fun r=>if r=4 then some ([],[0,1,2,3,4,5,6,7,8,9,10,11,12,13,14,15,16,17],[]) else none),join:=(fun r=>if r=4 then some [29] else none),loop:=(fun r=>if r=2 then ([(7,.I)],[[],[(2,.I)]]) else ([],[])),scalar:=true }
def Sf (a0:IV):Option (List IV):=run Tryz.prog ZI C0 Ih Tryz.f247 [[a0]]
abbrev Sn:FSig:=⟨.pure,true,[1],0,fun l=>match l with | [[x0]]=>Sf x0 | _=>none⟩
def aan:FuncId->Option FSig:=al Sv Sn ZI
def lJ:Ann:={ order:=(fun r=>if r=9 then some ([0],[1,2,3,4,5,6],[7,8,9]) else none),join:=(fun r=>if r=4 then some [26] else none),loop:=(fun r=>if r=8 then ([(7,(.B 1)),(8,.I)],[[(7,(.B 1))]]) else ([],[])) }
def sU (a0 a1:IV):Option (List IV):=run Tryz.prog aan C0 lJ Tryz.f248 [[a0],[a1]]
abbrev sY:FSig:=⟨.pure,false,[1],0,fun l=>match l with | [[x0],[x1]]=>sU x0 x1 | _=>none⟩
def aac:FuncId->Option FSig:=al tK sY aan
def yD:Ann:={ join:=(fun r=>if r=1 then some [15] else none),loop:=(fun r=>if r=5 then ([(6,(.B 1)),(18,.I)],[[(6,(.B 1))],[(4,.I),(5,.I)]]) else ([],[])) }
def Ke (a0 a1:IV):Option (List IV):=run Tryz.prog aac C0 yD Tryz.f225 [[a0],[a1]]
abbrev Jd:FSig:=⟨.pure,false,[1,1],0,fun l=>match l with | [[x0],[x1]]=>Ke x0 x1 | _=>none⟩
def Y2:FuncId->Option FSig:=al JI Jd aac
def yq:Ann:={ join:=(fun r=>if r=14 then some [59] else none),loop:=(fun r=>if r=8 then ([(6,(.O [.imm,.imm])),(7,(.B 2)),(8,.I)],[[(7,(.B 2)),(8,.I)],[(4,.I),(5,.I)]]) else ([],[])) }
def JT (a0 a1:IV):Option (List IV):=run Tryz.prog Y2 C0 yq Tryz.f168 [[a0],[a1]]
abbrev Km:FSig:=⟨.pure,false,[1,1],0,fun l=>match l with | [[x0],[x1]]=>JT x0 x1 | _=>none⟩
def ZM:FuncId->Option FSig:=al KZ Km Y2
def II:Ann:={ join:=(fun r=>if r=5 then some [26] else if r=15 then some [4] else none),loop:=(fun r=>if r=3 then ([(5,.I),(13,.I)],[[(5,.I)],[(4,.I)]]) else if r=11 then ([(8,.M),(35,.I)],[[(8,.M)]]) else ([],[])),scalar:=true }
def SS (a0 a1:IV):Option (List IV):=run Tryz.prog ZM C0 II Tryz.f226 [[a0],[a1]]
abbrev SK:FSig:=⟨.pure,true,[1],0,fun l=>match l with | [[x0],[x1]]=>SS x0 x1 | _=>none⟩
def Zv:FuncId->Option FSig:=al SZ SK ZM
def DN:Ann:={ order:=(fun r=>if r=5 then some ([],[0,1,2,3,4,5,6,7,8,9,10,11,12,13],[14,15,16]) else none),loop:=(fun r=>if r=3 then ([(6,(.B 1)),(14,.I)],[[(6,(.B 1))],[(4,.I),(5,.I)]]) else ([],[])) }
def Ru (a0 a1:IV):Option (List IV):=run Tryz.prog Zv C0 DN Tryz.f227 [[a0],[a1]]
abbrev Pc:FSig:=⟨.pure,false,[1,1],0,fun l=>match l with | [[x0],[x1]]=>Ru x0 x1 | _=>none⟩
def Z8:FuncId->Option FSig:=al Pt Pc Zv
def yR:Ann:={ loop:=(fun r=>if r=15 then ([(11,(.B 1)),(12,.I),(47,.I)],[[(11,(.B 1)),(12,.I)],[(6,.I),(7,.I)]]) else ([],[])) }
def Kj (a0 a1 a2:IV):Option (List IV):=run Tryz.prog Z8 C0 yR Tryz.f170 [[a0],[a1],[a2]]
abbrev KO:FSig:=⟨.pure,false,[1,1],0,fun l=>match l with | [[x0],[x1],[x2]]=>Kj x0 x1 x2 | _=>none⟩
def Y8:FuncId->Option FSig:=al K0 KO Z8
theorem Oq (a0:IV):run Tryz.prog Y8 C0 A1 Tryz.f246 [[a0]]=Ae a0:=by kernel_rfl
abbrev SE:FSig:=⟨.pure,true,[1],0,fun l=>match l with | [[x0]]=>Ae x0 | _=>none⟩
def X0:FuncId->Option FSig:=al Sa SE Y8
theorem xW (a0 a1:IV):runM Tryz.prog X0 C0 A0 [.imm,.imm] Tryz.f223 [a0,a1] []=lH a0 a1:=by kernel_rfl
theorem sN:run Tryz.prog X0 C0 A0 Tryz.f223 [[.nilp]]=oE:=by kernel_rfl
abbrev Ao:FSig:=⟨.obj [.imm,.imm],false,[1],0,fun l=>match l with | [[x0,x1]]=>lH x0 x1 | [[x0]]=>Be x0 (oE) | _=>none⟩
def Z4:FuncId->Option FSig:=al qy Ao X0
def AH:Ann:={ loop:=(fun r=>if r=4 then ([(3,(.B 1)),(4,.I),(9,.I)],[[(3,(.B 1))]]) else ([],[])) }
theorem FD (a0:IV):run Tryz.prog Z4 C0 AH Tryz.f224 [[a0]]=s9 a0:=by kernel_rfl
abbrev Nf:FSig:=⟨.pure,false,[1],0,fun l=>match l with | [[x0]]=>s9 x0 | _=>none⟩
def Ze:FuncId->Option FSig:=al MT Nf Z4
def EM (a1:IV) (v5:List IV):Option SR:=
 (aa .lss (nth v5 3) a1).bind fun v6=>
 af v6 (fun _=>
 (lH (nth v5 0) (nth v5 1)).bind fun v7=>
 (lY 1 8 (nth v5 2) (.lst [[(nth (v7.drop 2) 0)]])).bind fun v8=>
 (aa .add (nth v5 3) (.int .i64 1)).bind fun v9=>
 some (.next [(nth v7 0),(nth v7 1),v8,v9])) (fun _=>
 some (.done 0 [(nth v5 0),(nth v5 1),(nth v5 2)]))
def vF (a0 a1:IV):Option (List IV):=
 (aa .lss a1 (.int .i64 0)).bind fun v1=>
 af v1 (fun _=>
 some [(.lst []),(.int .i64 1)]) (fun _=>
 (qQ a0).bind fun v2=>
 (aa .gtr a1 v2).bind fun v3=>
 af v3 (fun _=>
 some [(.lst []),(.int .i64 2)]) (fun _=>
 (pt a0).bind fun v4=>
 (iter rounds (EM a1) [(nth v4 0),(nth v4 1),(.lst []),(.int .i64 0)]).bind fun v10=>
 iA v10.1 [(kP (nth v10.2 0) (nth v10.2 1)).bind fun v11=>
 (aa .neq (nth (v11.drop 2) 0) (.int .i64 0)).bind fun v12=>
 af v12 (fun _=>
 some [(.lst []),(nth (v11.drop 2) 0)]) (fun _=>
 (s9 (nth v10.2 2)).bind fun v13=>
 some [(nth v13 0),(.int .i64 0)])]))
def vK:Ann:={ loop:=(fun r=>if r=8 then ([(6,(.O [.imm,.imm])),(7,(.B 1)),(20,.I)],[[(6,(.O [.imm,.imm])),(7,(.B 1))]]) else ([],[])) }
theorem CK (a0 a1:IV):run Tryz.prog Ze C0 vK Tryz.f166 [[a0],[a1]]=vF a0 a1:=by kernel_rfl
abbrev HG:FSig:=⟨.pure,false,[1,1],0,fun l=>match l with | [[x0],[x1]]=>vF x0 x1 | _=>none⟩
def Nr:FuncId->Option FSig:=al Gh HG Ze
def av:Inl:=kI Tryz.prog Nr C0 A0 Tryz.f212
def eV:FuncId->Option FSig:=al bU ⟨.inl av,false,[],0,fun _=>none⟩ <| Nr
def aI:Inl:=kI Tryz.prog eV C0 A0 Tryz.f213
def ej:FuncId->Option FSig:=al bU ⟨.inl av,false,[],0,fun _=>none⟩ <| al bJ ⟨.inl aI,false,[],0,fun _=>none⟩ <| Nr
def aV:Inl:=kI Tryz.prog ej C0 A0 Tryz.f215
def dJ:FuncId->Option FSig:=al bU ⟨.inl av,false,[],0,fun _=>none⟩ <| al bJ ⟨.inl aI,false,[],0,fun _=>none⟩ <| al cZ ⟨.inl aV,false,[],0,fun _=>none⟩ <| Nr
def bj:Inl:=kI Tryz.prog dJ C0 A0 Tryz.f214
def dY:FuncId->Option FSig:=al bU ⟨.inl av,false,[],0,fun _=>none⟩ <| al bJ ⟨.inl aI,false,[],0,fun _=>none⟩ <| al cZ ⟨.inl aV,false,[],0,fun _=>none⟩ <| al dW ⟨.inl bj,false,[],0,fun _=>none⟩ <| Nr
def cj:Inl:=kI Tryz.prog dY C0 A0 Tryz.f217
def dB:FuncId->Option FSig:=al bU ⟨.inl av,false,[],0,fun _=>none⟩ <| al bJ ⟨.inl aI,false,[],0,fun _=>none⟩ <| al cZ ⟨.inl aV,false,[],0,fun _=>none⟩ <| al dW ⟨.inl bj,false,[],0,fun _=>none⟩ <| al ij ⟨.inl cj,false,[],0,fun _=>none⟩ <| Nr
def dN:Inl:=kI Tryz.prog dB C0 A0 Tryz.f216
def r8:FuncId->Option FSig:=al bU ⟨.inl av,false,[],0,fun _=>none⟩ <| al bJ ⟨.inl aI,false,[],0,fun _=>none⟩ <| al cZ ⟨.inl aV,false,[],0,fun _=>none⟩ <| al dW ⟨.inl bj,false,[],0,fun _=>none⟩ <| al ij ⟨.inl cj,false,[],0,fun _=>none⟩ <| al jz ⟨.inl dN,false,[],0,fun _=>none⟩ <| Nr
def ux:Ann:={ order:=(fun r=>if r=3 then some ([3,4],[0,1],[2,5,6,7]) else if r=7 then some ([],[0,1,2,3,4,5],[]) else if r=12 then some ([],[0,1,2,3,4,5,6,7,8,9,10,11,12,13,14,15,16,17],[18]) else none),loop:=(fun r=>if r=10 then ([(10,(.B 4)),(41,.I)],[[(10,.I)],[(2,.I),(3,.I)]]) else ([],[])) }
def Es (a0:IV):Option (List IV):=run Tryz.prog r8 C0 ux Tryz.f159 [[a0]]
abbrev E8:FSig:=⟨.pure,false,[1,1],0,fun l=>match l with | [[x0]]=>Es x0 | _=>none⟩
def U6:FuncId->Option FSig:=al E2 E8 Nr
def bg:Inl:=kI Tryz.prog U6 C0 A0 Tryz.f219
def ez:FuncId->Option FSig:=al eb ⟨.inl bg,false,[],0,fun _=>none⟩ <| U6
def ct:Inl:=kI Tryz.prog ez C0 A0 Tryz.f213
def ey:FuncId->Option FSig:=al eb ⟨.inl bg,false,[],0,fun _=>none⟩ <| al bJ ⟨.inl ct,false,[],0,fun _=>none⟩ <| U6
def eT:Inl:=kI Tryz.prog ey C0 A0 Tryz.f220
def qS:FuncId->Option FSig:=al eb ⟨.inl bg,false,[],0,fun _=>none⟩ <| al bJ ⟨.inl ct,false,[],0,fun _=>none⟩ <| al om ⟨.inl eT,false,[],0,fun _=>none⟩ <| U6
def sR:Ann:={ order:=(fun r=>if r=3 then some ([3,4],[0,1],[2,5,6,7]) else if r=5 then some ([],[0,1,2,3,4,5],[]) else if r=10 then some ([],[0,1,2,3,4,5,6,7,8,9,10],[11,12]) else none),loop:=(fun r=>if r=8 then ([(8,(.B 2)),(32,.I)],[[(8,.I)]]) else ([],[])) }
def C3 (a0:IV):Option (List IV):=run Tryz.prog qS C0 sR Tryz.f160 [[a0]]
abbrev CH:FSig:=⟨.pure,false,[1,1],0,fun l=>match l with | [[x0]]=>C3 x0 | _=>none⟩
def aaq:FuncId->Option FSig:=al Da CH U6
def y2:Ann:={ join:=(fun r=>if r=1 then some [33] else if r=7 then some [51] else none) }
def KU (a0:IV):Option (List IV):=run Tryz.prog aaq C0 y2 Tryz.f94 [[a0]]
abbrev KT:FSig:=⟨.pure,false,[5,1],0,fun l=>match l with | [[x0]]=>KU x0 | _=>none⟩
def Z7:FuncId->Option FSig:=al JR KT aaq
def Kr (a0:IV):Option (List IV):=run Tryz.prog Z7 C0 A1 Tryz.f163 [[a0]]
abbrev Jq:FSig:=⟨.pure,true,[1],0,fun l=>match l with | [[x0]]=>Kr x0 | _=>none⟩
def Y6:FuncId->Option FSig:=al Jh Jq Z7
def Jo (a0 a1:IV):Option (List IV):=run Tryz.prog Y6 C0 A0 Tryz.f165 [[a0],[a1]]
abbrev J3:FSig:=⟨.pure,false,[1],0,fun l=>match l with | [[x0],[x1]]=>Jo x0 x1 | _=>none⟩
def aar:FuncId->Option FSig:=al JV J3 Y6
def I0 (a0 a1:IV):Option (List IV):=run Tryz.prog aar C0 A0 Tryz.f167 [[a0],[a1]]
abbrev KK:FSig:=⟨.pure,false,[1],0,fun l=>match l with | [[x0],[x1]]=>I0 x0 x1 | _=>none⟩
def YU:FuncId->Option FSig:=al I6 KK aar
def J4 (a0 a1:IV):Option (List IV):=run Tryz.prog YU C0 A0 Tryz.f169 [[a0],[a1]]
abbrev KC:FSig:=⟨.pure,false,[1],0,fun l=>match l with | [[x0],[x1]]=>J4 x0 x1 | _=>none⟩
def VS:FuncId->Option FSig:=al K3 KC YU
def fx:Ann:={ order:=(fun r=>if r=10 then some ([],[0,1,2,3,4,5,6,7,8,9,10,11,12,13,14,15,16,17,18,19,20,21,22,23,24,25,26,27],[28]) else none),loop:=(fun r=>if r=8 then ([(1,(.K 1 [.buf 6])),(77,.I)],[[(1,(.K 1 [.buf 6]))]]) else ([],[])) }
def cB:Inl:=kI Tryz.prog VS C0 fx Tryz.f162
def gj:FuncId->Option FSig:=al jk ⟨.inl cB,false,[],0,fun _=>none⟩ <| VS
def gK:Inl:=PZ Tryz.prog gj C0 A0 jf Tryz.f161
def uj:FuncId->Option FSig:=al jk ⟨.inl cB,false,[],0,fun _=>none⟩ <| al jT ⟨.inl gK,false,[],0,fun _=>none⟩ <| VS
def wz:Ann:={ loop:=(fun r=>if r=4 then ([(13,.I)],[[],[(2,.I),(3,.I)]]) else ([],[])) }
def Hj (a0:IV):Option (List IV):=run Tryz.prog uj C0 wz Tryz.f96 [[a0]]
abbrev Im:FSig:=⟨.pure,false,[1,1],0,fun l=>match l with | [[x0]]=>Hj x0 | _=>none⟩
def N0:FuncId->Option FSig:=al FO Im VS
def gO:Ann:={ join:=(fun r=>if r=2 then some [19] else none) }
def aG:Inl:=kI Tryz.prog N0 C0 gO Tryz.f90
def fZ:FuncId->Option FSig:=al cz ⟨.inl aG,false,[],0,fun _=>none⟩ <| N0
def gD:Ann:={ join:=(fun r=>if r=2 then some [23] else none) }
def aW:Inl:=kI Tryz.prog fZ C0 gD Tryz.f91
def ga:FuncId->Option FSig:=al cz ⟨.inl aG,false,[],0,fun _=>none⟩ <| al dt ⟨.inl aW,false,[],0,fun _=>none⟩ <| N0
def bl:Inl:=kI Tryz.prog ga C0 A0 Tryz.f93
def gg:FuncId->Option FSig:=al cz ⟨.inl aG,false,[],0,fun _=>none⟩ <| al dt ⟨.inl aW,false,[],0,fun _=>none⟩ <| al eE ⟨.inl bl,false,[],0,fun _=>none⟩ <| N0
def bZ:Inl:=kI Tryz.prog gg C0 A0 Tryz.f95
def gi:FuncId->Option FSig:=al cz ⟨.inl aG,false,[],0,fun _=>none⟩ <| al dt ⟨.inl aW,false,[],0,fun _=>none⟩ <| al eE ⟨.inl bl,false,[],0,fun _=>none⟩ <| al gQ ⟨.inl bZ,false,[],0,fun _=>none⟩ <| N0
def dv:Inl:=kI Tryz.prog gi C0 A0 Tryz.f97
def iw:FuncId->Option FSig:=al cz ⟨.inl aG,false,[],0,fun _=>none⟩ <| al dt ⟨.inl aW,false,[],0,fun _=>none⟩ <| al eE ⟨.inl bl,false,[],0,fun _=>none⟩ <| al gQ ⟨.inl bZ,false,[],0,fun _=>none⟩ <| al kA ⟨.inl dv,false,[],0,fun _=>none⟩ <| N0
def iC:Inl:=kI Tryz.prog iw C0 A0 Tryz.f49
def yU:FuncId->Option FSig:=al cz ⟨.inl aG,false,[],0,fun _=>none⟩ <| al dt ⟨.inl aW,false,[],0,fun _=>none⟩ <| al eE ⟨.inl bl,false,[],0,fun _=>none⟩ <| al gQ ⟨.inl bZ,false,[],0,fun _=>none⟩ <| al kA ⟨.inl dv,false,[],0,fun _=>none⟩ <| al rA ⟨.inl iC,false,[],0,fun _=>none⟩ <| N0
def Ce:Ann:={ unroll:=(fun r=>if r=4 then 6 else 0) }
def Nq (a0:IV):Option (List IV):=run Tryz.prog yU C0 Ce Tryz.f22 [[a0]]
abbrev Nl:FSig:=⟨.pure,false,[5,1],0,fun l=>match l with | [[x0]]=>Nq x0 | _=>none⟩
def Xo:FuncId->Option FSig:=al Ot Nl N0
def ye (a0 a1 a2 a3 a4 a5 a6 a7 a8 a9 a10 a11 a12 a13 a14:IV):Option (List IV):=runM Tryz.prog Xo C0 A0 [.buf 5,.buf 6] Tryz.f45 [a0,a1] [[a2,a3,a4,a5,a6],[a7,a8,a9,a10,a11,a12,a13,a14]]
def mK (a0 a1 a2 a3 a4 a5 a6 a7 a8 a9 a10 a11 a12:IV):Option (List IV):=run Tryz.prog Xo C0 A0 Tryz.f45 [[.nilp],[a0,a1,a2,a3,a4],[a5,a6,a7,a8,a9,a10,a11,a12]]
theorem qk (a0 a1 a2 a3 a4 a5 a6 a7 a8 a9 a10 a11 a12:IV):run Tryz.prog Xo C0 A0 Tryz.f45 [[.nilp],[a0,a1,a2,a3,a4],[a5,a6,a7,a8,a9,a10,a11,a12]]=mK a0 a1 a2 a3 a4 a5 a6 a7 a8 a9 a10 a11 a12:=rfl
abbrev yh:FSig:=⟨.obj [.buf 5,.buf 6],false,[5,1],0,fun l=>match l with | [[x0,x1],[x2,x3,x4,x5,x6],[x7,x8,x9,x10,x11,x12,x13,x14]]=>ye x0 x1 x2 x3 x4 x5 x6 x7 x8 x9 x10 x11 x12 x13 x14 | [[x0],[x2,x3,x4,x5,x6],[x7,x8,x9,x10,x11,x12,x13,x14]]=>Be x0 (mK x2 x3 x4 x5 x6 x7 x8 x9 x10 x11 x12 x13 x14) | _=>none⟩
def aaf:FuncId->Option FSig:=al ox yh Xo
def yO:Ann:={ join:=(fun r=>if r=1 then some [4] else none),scalar:=true }
theorem Fl (a0 a1 a2 a3 a4 a5 a6:IV):run Tryz.prog aaf C0 yO Tryz.f88 [[a0],[a1,a2,a3,a4,a5,a6]]=kb a0 a1 a2 a3 a4 a5 a6:=by kernel_rfl
abbrev J7:FSig:=⟨.pure,true,[1],0,fun l=>match l with | [[x0],[x1,x2,x3,x4,x5,x6]]=>kb x0 x1 x2 x3 x4 x5 x6 | _=>none⟩
def ZK:FuncId->Option FSig:=al I1 J7 aaf
theorem QZ (a0 a1 a2 a3 a4 a5 a6:IV):run Tryz.prog ZK C0 A0 Tryz.f48 [[a0],[a1,a2,a3,a4,a5,a6]]=o4 a0 a1 a2 a3 a4 a5 a6:=by kernel_rfl
abbrev UU:FSig:=⟨.pure,false,[1,1],0,fun l=>match l with | [[x0],[x1,x2,x3,x4,x5,x6]]=>o4 x0 x1 x2 x3 x4 x5 x6 | _=>none⟩
def aae:FuncId->Option FSig:=al Uz UU ZK
def Gk:Ann:={ loop:=(fun r=>if r=2 then ([(0,.I),(9,.I)],[[(0,.I)]]) else ([],[])) }
theorem MR (a0 a1:IV):run Tryz.prog aae C0 Gk Tryz.f16 [[a0],[a1]]=kO a0 a1:=by kernel_rfl
abbrev Sd:FSig:=⟨.pure,false,[1],0,fun l=>match l with | [[x0],[x1]]=>kO x0 x1 | _=>none⟩
def Y0:FuncId->Option FSig:=al Tz Sd aae
def y1:Ann:={ order:=(fun r=>if r=6 then some ([],[0,1,2,3,4,5,6,7,8,9,10,11,12],[13]) else if r=7 then some ([1],[0,2],[3,4,5]) else none),join:=(fun r=>if r=1 then some [7] else none) }
def JD (a0 a1 a2 a3 a4 a5 a6:IV):Option (List IV):=run Tryz.prog Y0 C0 y1 Tryz.f82 [[a0,a1,a2,a3,a4],[a5,a6]]
abbrev KI:FSig:=⟨.pure,false,[5,1],0,fun l=>match l with | [[x0,x1,x2,x3,x4],[x5,x6]]=>JD x0 x1 x2 x3 x4 x5 x6 | _=>none⟩
def VW:FuncId->Option FSig:=al JQ KI Y0
def zr (a0 a1 a2 a3 a4 a5 a6 a7 a8 a9 a10 a11 a12 a13 a14:IV):Option (List IV):=runM Tryz.prog VW C0 A0 [.buf 5,.buf 6] Tryz.f44 [a0,a1] [[a2,a3,a4,a5,a6],[a7,a8,a9,a10,a11,a12,a13,a14]]
def nu (a0 a1 a2 a3 a4 a5 a6 a7 a8 a9 a10 a11 a12:IV):Option (List IV):=run Tryz.prog VW C0 A0 Tryz.f44 [[.nilp],[a0,a1,a2,a3,a4],[a5,a6,a7,a8,a9,a10,a11,a12]]
theorem rn (a0 a1 a2 a3 a4 a5 a6 a7 a8 a9 a10 a11 a12:IV):run Tryz.prog VW C0 A0 Tryz.f44 [[.nilp],[a0,a1,a2,a3,a4],[a5,a6,a7,a8,a9,a10,a11,a12]]=nu a0 a1 a2 a3 a4 a5 a6 a7 a8 a9 a10 a11 a12:=rfl
abbrev zg:FSig:=⟨.obj [.buf 5,.buf 6],false,[5,1],0,fun l=>match l with | [[x0,x1],[x2,x3,x4,x5,x6],[x7,x8,x9,x10,x11,x12,x13,x14]]=>zr x0 x1 x2 x3 x4 x5 x6 x7 x8 x9 x10 x11 x12 x13 x14 | [[x0],[x2,x3,x4,x5,x6],[x7,x8,x9,x10,x11,x12,x13,x14]]=>Be x0 (nu x2 x3 x4 x5 x6 x7 x8 x9 x10 x11 x12 x13 x14) | _=>none⟩
def XQ:FuncId->Option FSig:=al qe zg VW
def BH:Ann:={ loop:=(fun r=>if r=2 then ([(11,.I)],[[],[(6,.I)]]) else ([],[])),scalar:=true }
theorem F4 (C:IV->List Nat->List (List IV)->Option (List IV)) (a0 a1 a2 a3:IV):run Tryz.prog XQ C BH Tryz.f83 [[a0],[a1,a2],[a3]]=gn C a0 a1 a2 a3:=by kernel_rfl
theorem qv (a0 a1 a2 a3 a4 a5 a6 a7:IV):run Tryz.prog XQ C0 A1 Tryz.f84 [[a0,a1],[a2,a3,a4,a5,a6,a7]]=gR a0 a1 a2 a3 a4 a5 a6 a7:=by kernel_rfl
abbrev Fi:FSig:=⟨.pure,true,[1],0,fun l=>match l with | [[x0,x1],[x2,x3,x4,x5,x6,x7]]=>gR x0 x1 x2 x3 x4 x5 x6 x7 | _=>none⟩
def Z6:FuncId->Option FSig:=al kF Fi XQ
def uo:FuncId->Option FSig:=al tc ⟨.pure,true,[1],0,fun l=>match l with | [[x0],[x1,x2],[x3]]=>gn (eD) x0 x1 x2 x3 | _=>none⟩ <| Z6
def wX:Ann:={ order:=(fun r=>if r=6 then some ([6],[0,1,2,3,4],[5,7,8,9]) else none) }
theorem CJ (a0 a1 a2 a3 a4 a5 a6:IV):run Tryz.prog uo (eD) wX Tryz.f46 [[a0],[a1,a2,a3,a4,a5,a6]]=eo a0 a1 a2 a3 a4 a5 a6:=by kernel_rfl
abbrev GQ:FSig:=⟨.pure,false,[1,1,1],0,fun l=>match l with | [[x0],[x1,x2,x3,x4,x5,x6]]=>eo x0 x1 x2 x3 x4 x5 x6 | _=>none⟩
def ZV:FuncId->Option FSig:=al Ik GQ Z6
def Dl:Ann:={ join:=(fun r=>if r=1 then some [11] else if r=9 then some [57] else none) }
theorem Ka (a0 a1 a2 a3 a4 a5 a6 a7 a8 a9 a10:IV):run Tryz.prog ZV C0 Dl Tryz.f25 [[a0,a1,a2,a3,a4],[a5,a6,a7,a8,a9,a10]]=nC a0 a1 a2 a3 a4 a5 a6 a7 a8 a9 a10:=by kernel_rfl
abbrev Rs:FSig:=⟨.pure,false,[5,1,1],0,fun l=>match l with | [[x0,x1,x2,x3,x4],[x5,x6,x7,x8,x9,x10]]=>nC x0 x1 x2 x3 x4 x5 x6 x7 x8 x9 x10 | _=>none⟩
def XA:FuncId->Option FSig:=al PU Rs ZV
def eN:Ann:={ order:=(fun r=>if r=1 then some ([],[0,1,2,3,4,5,6,7,8,9,10,11,12],[]) else if r=3 then some ([12,13],[0,1,2,3,4,5,6,7,8,9,10,11],[14,15,16]) else none),join:=(fun r=>if r=1 then some [22] else none) }
def wb (a0 a1 a2 a3 a4 a5 a6 a7 a8 a9 a10 a11 a12 a13 a14:IV):Option (List IV):=runM Tryz.prog XA C0 eN [.buf 5,.buf 6] Tryz.f43 [a0,a1] [[a2,a3,a4,a5,a6],[a7,a8,a9,a10,a11,a12,a13,a14]]
def lG (a0 a1 a2 a3 a4 a5 a6 a7 a8 a9 a10 a11 a12:IV):Option (List IV):=run Tryz.prog XA C0 eN Tryz.f43 [[.nilp],[a0,a1,a2,a3,a4],[a5,a6,a7,a8,a9,a10,a11,a12]]
theorem pG (a0 a1 a2 a3 a4 a5 a6 a7 a8 a9 a10 a11 a12:IV):run Tryz.prog XA C0 eN Tryz.f43 [[.nilp],[a0,a1,a2,a3,a4],[a5,a6,a7,a8,a9,a10,a11,a12]]=lG a0 a1 a2 a3 a4 a5 a6 a7 a8 a9 a10 a11 a12:=rfl
abbrev xg:FSig:=⟨.obj [.buf 5,.buf 6],false,[5,1],0,fun l=>match l with | [[x0,x1],[x2,x3,x4,x5,x6],[x7,x8,x9,x10,x11,x12,x13,x14]]=>wb x0 x1 x2 x3 x4 x5 x6 x7 x8 x9 x10 x11 x12 x13 x14 | [[x0],[x2,x3,x4,x5,x6],[x7,x8,x9,x10,x11,x12,x13,x14]]=>Be x0 (lG x2 x3 x4 x5 x6 x7 x8 x9 x10 x11 x12 x13 x14) | _=>none⟩
def Zp:FuncId->Option FSig:=al nP xg XA
def Bd:Ann:={ join:=(fun r=>if r=8 then some [38] else none),loop:=(fun r=>if r=3 then ([(8,(.B 1)),(17,.I)],[[(8,(.B 1))]]) else ([],[])),scalar:=true }
def N6 (a0 a1 a2 a3:IV):Option (List IV):=run Tryz.prog Zp C0 Bd Tryz.f81 [[a0],[a1,a2],[a3]]
abbrev MY:FSig:=⟨.pure,true,[2,1],0,fun l=>match l with | [[x0],[x1,x2],[x3]]=>N6 x0 x1 x2 x3 | _=>none⟩
def aam:FuncId->Option FSig:=al Od MY Zp
def qb:Ann:={ order:=(fun r=>if r=7 then some ([0],[1,2,3,4,5,6],[7,8,9,10]) else none) }
def zJ (a0 a1 a2 a3 a4 a5 a6 a7 a8 a9 a10 a11 a12 a13 a14:IV):Option (List IV):=runM Tryz.prog aam C0 qb [.buf 5,.buf 6] Tryz.f42 [a0,a1] [[a2,a3,a4,a5,a6],[a7,a8,a9,a10,a11,a12,a13,a14]]
abbrev zj:FSig:=⟨.obj [.buf 5,.buf 6],false,[5,1],0,fun l=>match l with | [[x0,x1],[x2,x3,x4,x5,x6],[x7,x8,x9,x10,x11,x12,x13,x14]]=>zJ x0 x1 x2 x3 x4 x5 x6 x7 x8 x9 x10 x11 x12 x13 x14 | _=>none⟩
def WZ:FuncId->Option FSig:=al p7 zj aam
def iu:Ann:={ order:=(fun r=>if r=10 then some ([],[0,1,2,3,4,5,6,7,8],[9]) else none),unroll:=(fun r=>if r=5 then 5 else 0) }
def Bw (a0 a1 a2 a3 a4 a5 a6 a7 a8 a9:IV):Option (List IV):=runM Tryz.prog WZ C0 iu [.buf 5,.buf 6] Tryz.f12 [a0,a1] [[a2,a3,a4,a5,a6,a7,a8,a9]]
def ow (a0 a1 a2 a3 a4 a5 a6 a7:IV):Option (List IV):=run Tryz.prog WZ C0 iu Tryz.f12 [[.nilp],[a0,a1,a2,a3,a4,a5,a6,a7]]
theorem rU (a0 a1 a2 a3 a4 a5 a6 a7:IV):run Tryz.prog WZ C0 iu Tryz.f12 [[.nilp],[a0,a1,a2,a3,a4,a5,a6,a7]]=ow a0 a1 a2 a3 a4 a5 a6 a7:=rfl
abbrev BU:FSig:=⟨.obj [.buf 5,.buf 6],false,[1],0,fun l=>match l with | [[x0,x1],[x2,x3,x4,x5,x6,x7,x8,x9]]=>Bw x0 x1 x2 x3 x4 x5 x6 x7 x8 x9 | [[x0],[x2,x3,x4,x5,x6,x7,x8,x9]]=>Be x0 (ow x2 x3 x4 x5 x6 x7 x8 x9) | _=>none⟩
def aag:FuncId->Option FSig:=al qq BU WZ
theorem HO (a0 a1 a2 a3 a4:IV):run Tryz.prog aag C0 A0 Tryz.f24 [[a0,a1,a2,a3,a4]]=mq a0 a1 a2 a3 a4:=by kernel_rfl
abbrev Oe:FSig:=⟨.pure,false,[1],0,fun l=>match l with | [[x0,x1,x2,x3,x4]]=>mq x0 x1 x2 x3 x4 | _=>none⟩
def Wx:FuncId->Option FSig:=al OT Oe aag
def Bq (a0 a1 a2:IV):Option (List IV):=runM Tryz.prog Wx C0 A0 [.buf 5,.buf 6] Tryz.f15 [a0,a1] [[a2]]
def oI (a0:IV):Option (List IV):=run Tryz.prog Wx C0 A0 Tryz.f15 [[.nilp],[a0]]
theorem sg (a0:IV):run Tryz.prog Wx C0 A0 Tryz.f15 [[.nilp],[a0]]=oI a0:=rfl
abbrev Bx:FSig:=⟨.obj [.buf 5,.buf 6],false,[1],0,fun l=>match l with | [[x0,x1],[x2]]=>Bq x0 x1 x2 | [[x0],[x2]]=>Be x0 (oI x2) | _=>none⟩
def YV:FuncId->Option FSig:=al qz Bx Wx
def Bi:Ann:={ order:=(fun r=>if r=6 then some ([],[0,1,2,3,4,5,6,7,8],[]) else none),loop:=(fun r=>if r=4 then ([(5,.I)],[[],[(4,.I)]]) else ([],[])),scalar:=true }
def Na (a0 a1:IV):Option (List IV):=run Tryz.prog YV C0 Bi Tryz.f40 [[a0],[a1]]
abbrev MD:FSig:=⟨.pure,true,[1],0,fun l=>match l with | [[x0],[x1]]=>Na x0 x1 | _=>none⟩
def WJ:FuncId->Option FSig:=al Mh MD YV
def lX:Ann:={ join:=(fun r=>if r=1 then some [8] else none) }
def gq:Inl:=kI Tryz.prog WJ C0 lX Tryz.f10
def kZ:FuncId->Option FSig:=al tY ⟨.inl gq,false,[],0,fun _=>none⟩ <| WJ
def mf:Ann:={ loop:=(fun r=>if r=4 then ([(6,(.O [.buf 5,.buf 6])),(7,(.B 1)),(14,.I)],[[(6,(.O [.buf 5,.buf 6])),(7,(.B 1))]]) else ([],[])),alt:=(fun r=>if r=4 then some (6,[(7,(.B 1)),(14,.I)],[[(7,(.B 1))]]) else none) }
def lL:Inl:=kI Tryz.prog kZ C0 mf Tryz.f27
def Am:FuncId->Option FSig:=al tY ⟨.inl gq,false,[],0,fun _=>none⟩ <| al Ab ⟨.inl lL,false,[],0,fun _=>none⟩ <| WJ
def Em:Ann:={ join:=(fun r=>if r=2 then some [20] else if r=5 then some [0] else none),scalar:=true }
def qM:Option (List IV):=run Tryz.prog Am C0 Em Tryz.f9 []
abbrev Qc:FSig:=⟨.pure,true,[1],0,fun l=>match l with | []=>qM | _=>none⟩
def YW:FuncId->Option FSig:=al QE Qc WJ
def yV:Ann:={ loop:=(fun r=>if r=2 then ([(0,.I),(9,.I)],[[(0,.I)]]) else ([],[])) }
theorem E4 (a0 a1:IV):run Tryz.prog YW C0 yV Tryz.f13 [[a0],[a1]]=gV a0 a1:=by kernel_rfl
abbrev JG:FSig:=⟨.pure,false,[1],0,fun l=>match l with | [[x0],[x1]]=>gV x0 x1 | _=>none⟩
def YS:FuncId->Option FSig:=al I5 JG YW
theorem Iy:run Tryz.prog YS C0 A1 Tryz.f205 []=tX:=by kernel_rfl
abbrev OI:FSig:=⟨.pure,true,[1],0,fun l=>match l with | []=>tX | _=>none⟩
def Zx:FuncId->Option FSig:=al Ny OI YS
def yS:Ann:={ join:=(fun r=>if r=1 then some [2] else none),scalar:=true }
theorem Fk (a0:IV):run Tryz.prog Zx C0 yS Tryz.f206 [[a0]]=fk a0:=by kernel_rfl
abbrev KV:FSig:=⟨.pure,true,[1],0,fun l=>match l with | [[x0]]=>fk x0 | _=>none⟩
def Zi:FuncId->Option FSig:=al JE KV Zx
theorem I7:run Tryz.prog Zi C0 A1 Tryz.f207 []=qR:=by kernel_rfl
abbrev Q3:FSig:=⟨.pure,true,[1],0,fun l=>match l with | []=>qR | _=>none⟩
def aao:FuncId->Option FSig:=al Qf Q3 Zi
def AZ:Ann:={ join:=(fun r=>if r=15 then some [35] else none),loop:=(fun r=>if r=12 then ([(0,.I),(4,.I)],[[(0,.I),(4,.I)]]) else if r=15 then ([(0,.I),(4,.I)],[[(0,.I),(4,.I)]]) else if r=22 then ([(0,.I),(5,.I)],[[(0,.I)]]) else ([],[])),scalar:=true }
theorem HW (a0:IV):run Tryz.prog aao C0 AZ Tryz.f152 [[a0]]=eG a0:=by kernel_rfl
abbrev NM:FSig:=⟨.pure,true,[1],0,fun l=>match l with | [[x0]]=>eG x0 | _=>none⟩
def Y5:FuncId->Option FSig:=al NQ NM aao
theorem FQ (a0 a1:IV):run Tryz.prog Y5 C0 A1 Tryz.f87 [[a0],[a1]]=lQ a0 a1:=by kernel_rfl
abbrev N7:FSig:=⟨.pure,true,[1],0,fun l=>match l with | [[x0],[x1]]=>lQ x0 x1 | _=>none⟩
def ZB:FuncId->Option FSig:=al NG N7 Y5
def yL:Ann:={ join:=(fun r=>if r=1 then some [4] else none),scalar:=true }
theorem E5 (a0 a1 a2 a3 a4 a5 a6 a7:IV):run Tryz.prog ZB C0 yL Tryz.f47 [[a0,a1,a2,a3],[a4,a5,a6,a7]]=fp a0 a1 a2 a3 a4 a5 a6 a7:=by kernel_rfl
abbrev JF:FSig:=⟨.pure,true,[1],0,fun l=>match l with | [[x0,x1,x2,x3],[x4,x5,x6,x7]]=>fp x0 x1 x2 x3 x4 x5 x6 x7 | _=>none⟩
def Y9:FuncId->Option FSig:=al Jv JF ZB
def Ap:Ann:={ order:=(fun r=>if r=6 then some ([],[0,1,2,3,4,5,6,7,8,9],[]) else none),loop:=(fun r=>if r=4 then ([(5,.I)],[[],[(4,.I)]]) else ([],[])),scalar:=true }
theorem HT (a0 a1:IV):run Tryz.prog Y9 C0 Ap Tryz.f14 [[a0],[a1]]=jj a0 a1:=by kernel_rfl
abbrev NR:FSig:=⟨.pure,true,[1],0,fun l=>match l with | [[x0],[x1]]=>jj x0 x1 | _=>none⟩
def Zd:FuncId->Option FSig:=al Oa NR Y9
def Dn:Ann:={ loop:=(fun r=>if r=4 then ([(5,.I)],[[],[(4,.I)]]) else ([],[])),scalar:=true }
theorem Jp (a0 a1:IV):run Tryz.prog Zd C0 Dn Tryz.f17 [[a0],[a1]]=lq a0 a1:=by kernel_rfl
abbrev O3:FSig:=⟨.pure,true,[1],0,fun l=>match l with | [[x0],[x1]]=>lq x0 x1 | _=>none⟩
def Y1:FuncId->Option FSig:=al Re O3 Zd
theorem IQ (a0 a1 a2 a3 a4 a5:IV):run Tryz.prog Y1 C0 A1 Tryz.f145 [[a0,a1,a2,a3,a4,a5]]=lk a0 a1 a2 a3 a4 a5:=by kernel_rfl
abbrev Qb:FSig:=⟨.pure,true,[4],0,fun l=>match l with | [[x0,x1,x2,x3,x4,x5]]=>lk x0 x1 x2 x3 x4 x5 | _=>none⟩
def YP:FuncId->Option FSig:=al Qo Qb Y1
def yu:Ann:={ order:=(fun r=>if r=1 then some ([],[0,1,2,3,4,5,6,7,8,9,10,11,12],[]) else none),join:=(fun r=>if r=1 then some [4] else none),scalar:=true }
theorem Fm (a0 a1 a2 a3 a4 a5 a6 a7 a8 a9 a10 a11:IV):run Tryz.prog YP C0 yu Tryz.f75 [[a0,a1,a2,a3,a4,a5],[a6,a7,a8,a9,a10,a11]]=kl a0 a1 a2 a3 a4 a5 a6 a7 a8 a9 a10 a11:=by kernel_rfl
abbrev IT:FSig:=⟨.pure,true,[1],0,fun l=>match l with | [[x0,x1,x2,x3,x4,x5],[x6,x7,x8,x9,x10,x11]]=>kl x0 x1 x2 x3 x4 x5 x6 x7 x8 x9 x10 x11 | _=>none⟩
def ZO:FuncId->Option FSig:=al Jj IT YP
def Ca:Ann:={ order:=(fun r=>if r=6 then some ([],[0,1,2,3,4,5,6,7,8,9],[]) else none),loop:=(fun r=>if r=4 then ([(5,.I)],[[],[(4,.I)]]) else ([],[])),scalar:=true }
theorem Gf (a0 a1:IV):run Tryz.prog ZO C0 Ca Tryz.f35 [[a0],[a1]]=mo a0 a1:=by kernel_rfl
abbrev OH:FSig:=⟨.pure,true,[1],0,fun l=>match l with | [[x0],[x1]]=>mo x0 x1 | _=>none⟩
def ZW:FuncId->Option FSig:=al OM OH ZO
def y0:FuncId->Option FSig:=al gx ⟨.pure,false,[1],0,fun l=>match l with | [[x0]]=>aO x0 | _=>none⟩ <| ZW
theorem GB (a0:IV):runN Tryz.prog y0 C0 A0 [.imm,.imm,.buf 12] Tryz.f31 [[a0]]=jx a0:=by kernel_rfl
abbrev MW:FSig:=⟨.mko [.imm,.imm,.buf 12],false,[1],0,fun l=>match l with | [[x0]]=>jx x0 | _=>none⟩
def aab:FuncId->Option FSig:=al Aw MW ZW
def AG:Ann:={ loop:=(fun r=>if r=3 then ([(3,(.B 6)),(8,.I)],[[(3,(.B 6))]]) else ([],[])) }
theorem F8 (a0:IV):Tj Tryz.prog aab C0 AG 6 Tryz.f76 [[a0]]=jr a0:=by kernel_rfl
abbrev NI:FSig:=⟨.fresh,false,[1],6,fun l=>match l with | [[x0]]=>jr x0 | _=>none⟩
def aai:FuncId->Option FSig:=al Ba NI aab
theorem yn (a0:IV):Tj Tryz.prog aai C0 A0 6 Tryz.f36 [[a0]]=bT a0:=by kernel_rfl
abbrev Av:FSig:=⟨.fresh,false,[1],6,fun l=>match l with | [[x0]]=>bT x0 | _=>none⟩
def Zf:FuncId->Option FSig:=al qw Av aai
def mN:Ann:={ order:=(fun r=>if r=3 then some ([2,3],[0,1,4,5,6,7,8,9,10,11,12],[13,14,15]) else none),loop:=(fun r=>if r=1 then ([(0,(.B 6)),(2,.I),(3,.I)],[[(0,(.B 6))]]) else ([],[])) }
theorem r9 (a0:IV):R7 Tryz.prog Zf C0 mN 6 Tryz.f73 a0 []=cI a0:=by kernel_rfl
abbrev uP:FSig:=⟨.inpl,false,[],6,fun l=>match l with | [[x0]]=>cI x0 | _=>none⟩
def YY:FuncId->Option FSig:=al mS uP Zf
theorem K8 (a0 a1:IV):run Tryz.prog YY C0 A1 Tryz.f201 [[a0],[a1]]=nv a0 a1:=by kernel_rfl
abbrev Ro:FSig:=⟨.pure,true,[4,1],0,fun l=>match l with | [[x0],[x1]]=>nv x0 x1 | _=>none⟩
def Z9:FuncId->Option FSig:=al P8 Ro YY
def LK:Ann:={ order:=(fun r=>if r=5 then some ([],[0,1,2],[3]) else none) }
theorem Rz (a0 a1 a2 a3 a4 a5 a6:IV):run Tryz.prog Z9 C0 LK Tryz.f144 [[a0],[a1,a2,a3,a4,a5,a6]]=si a0 a1 a2 a3 a4 a5 a6:=by kernel_rfl
abbrev Uy:FSig:=⟨.pure,false,[1,12],0,fun l=>match l with | [[x0],[x1,x2,x3,x4,x5,x6]]=>si x0 x1 x2 x3 x4 x5 x6 | _=>none⟩
def Zk:FuncId->Option FSig:=al Vv Uy Z9
def Gy:Ann:={ loop:=(fun r=>if r=3 then ([(0,.I),(6,(.B 12)),(12,.I)],[[(0,.I),(6,(.B 12))]]) else ([],[])) }
theorem Ml (a0 a1:IV):run Tryz.prog Zk C0 Gy Tryz.f74 [[a0],[a1]]=pE a0 a1:=by kernel_rfl
abbrev S6:FSig:=⟨.pure,false,[1,1],0,fun l=>match l with | [[x0],[x1]]=>pE x0 x1 | _=>none⟩
def X9:FuncId->Option FSig:=al R9 S6 Zk
def lI:Ann:={ order:=(fun r=>if r=3 then some ([],[0,1,2,3,4,5,6,7,8,9,10],[]) else if r=10 then some ([1,12,13,14],[0,2,3,4,5,6,7,8,9,10,11,15,16],[17,18,19,20]) else none),loop:=(fun r=>if r=7 then ([(0,(.O [.imm,.imm,.buf 12])),(9,(.B 6))],[[],[(0,(.O [.imm,.imm,.buf 12])),(4,.I),(5,.I)]]) else ([],[])) }
theorem xM (a0 a1 a2 a3 a4 a5 a6 a7 a8:IV):runM Tryz.prog X9 C0 lI [.imm,.imm,.buf 12] Tryz.f33 [a0,a1,a2] [[a3,a4,a5,a6,a7,a8]]=eY a0 a1 a2 a3 a4 a5 a6 a7 a8:=by kernel_rfl
theorem rM (a0 a1 a2 a3 a4 a5:IV):run Tryz.prog X9 C0 lI Tryz.f33 [[.nilp],[a0,a1,a2,a3,a4,a5]]=oA a0 a1 a2 a3 a4 a5:=by kernel_rfl
abbrev Bu:FSig:=⟨.obj [.imm,.imm,.buf 12],false,[1,1],0,fun l=>match l with | [[x0,x1,x2],[x3,x4,x5,x6,x7,x8]]=>eY x0 x1 x2 x3 x4 x5 x6 x7 x8 | [[x0],[x3,x4,x5,x6,x7,x8]]=>Be x0 (oA x3 x4 x5 x6 x7 x8) | _=>none⟩
def Z0:FuncId->Option FSig:=al qG Bu X9
theorem w9 (a0:IV):Tj Tryz.prog Z0 C0 A0 4 Tryz.f34 [[a0]]=bk a0:=by kernel_rfl
abbrev zE:FSig:=⟨.fresh,false,[1],4,fun l=>match l with | [[x0]]=>bk x0 | _=>none⟩
def Zq:FuncId->Option FSig:=al pF zE Z0
theorem uU (a0:IV):Tj Tryz.prog Zq C0 A0 12 Tryz.f38 [[a0]]=cx a0:=by kernel_rfl
abbrev yd:FSig:=⟨.fresh,false,[1],12,fun l=>match l with | [[x0]]=>cx x0 | _=>none⟩
def ZL:FuncId->Option FSig:=al oD yd Zq
def b8 (a0:IV) (v5:List IV):Option SR:=
 (bq a0).bind fun v6=>
 (aa .lss (nth v5 9) v6).bind fun v7=>
 af v7 (fun _=>
 (dH a0 (nth v5 9) 6).bind fun v8=>
 (eR a0 v8 0 6).bind fun v9=>
 (iR (nth v9 0) (nth v9 1) (nth v9 2) (nth v9 3) (nth v9 4) (nth v9 5)).bind fun v10=>
 (rI .not (nth v10 0)).bind fun v11=>
 af v11 (fun _=>
 (aa .add (nth v5 9) (.int .i64 1)).bind fun v12=>
 some (.next [(nth v5 0),(nth v5 1),(nth v5 2),(nth v5 3),(nth v5 4),(nth v5 5),(nth v5 6),(nth v5 7),(nth v5 8),v12])) (fun _=>
 (dH a0 (nth v5 9) 6).bind fun v13=>
 (eR a0 v13 0 6).bind fun v14=>
 (eY (nth v5 0) (nth v5 1) (nth v5 2) (nth v14 0) (nth v14 1) (nth v14 2) (nth v14 3) (nth v14 4) (nth v14 5)).bind fun v15=>
 (dH a0 (nth v5 9) 6).bind fun v16=>
 (eR a0 v16 0 6).bind fun v17=>
 (nC (nth v5 3) (nth v5 4) (nth v5 5) (nth v5 6) (nth v5 7) (nth v17 0) (nth v17 1) (nth v17 2) (nth v17 3) (nth v17 4) (nth v17 5)).bind fun v18=>
 ((aa .neq (nth v18 6) (.int .i64 0)).bind fun v19=>
 af v19 (fun _=>
 some [(.bool true)]) (fun _=>
 (Hd .neq (nth (v15.drop 3) 1) (nth v18 5)).bind fun v20=>
 some [v20])).bind fun v21=>
 af (nth v21 0) (fun _=>
 some (.done 1 [(.bool false)])) (fun _=>
 (aa .add (nth v5 9) (.int .i64 1)).bind fun v22=>
 (D8 6 a0 (some (nth v5 9)) (some v22)).bind fun v23=>
 (gV (nth v5 8) v23).bind fun v24=>
 ((bk (.ptr [(nth v15 0),(nth v15 1),(nth v15 2)] 0)).bind fun v25=>
 (mq (nth v18 0) (nth v18 1) (nth v18 2) (nth v18 3) (nth v18 4)).bind fun v26=>
 (jj (nth v25 0) (nth v26 0)).bind fun v27=>
 (rI .not (nth v27 0)).bind fun v28=>
 af v28 (fun _=>
 some [(.bool true)]) (fun _=>
 (bT (.ptr [(nth v15 0),(nth v15 1),(nth v15 2)] 0)).bind fun v29=>
 (mo (nth v29 0) (nth v18 3)).bind fun v30=>
 (rI .not (nth v30 0)).bind fun v31=>
 af v31 (fun _=>
 some [(.bool true)]) (fun _=>
 (bk (.ptr [(nth v15 0),(nth v15 1),(nth v15 2)] 0)).bind fun v32=>
 (kO (.lst []) (nth v24 0)).bind fun v33=>
 (jj (nth v32 0) (nth v33 0)).bind fun v34=>
 (rI .not (nth v34 0)).bind fun v35=>
 some [v35]))).bind fun v36=>
 af (nth v36 0) (fun _=>
 some (.done 1 [(.bool false)])) (fun _=>
 (aa .add (nth v5 9) (.int .i64 1)).bind fun v37=>
 some (.next [(nth v15 0),(nth v15 1),(nth v15 2),(nth v18 0),(nth v18 1),(nth v18 2),(nth v18 3),(nth v18 4),(nth v24 0),v37]))))) (fun _=>
 some (.done 0 [(nth v5 0),(nth v5 1),(nth v5 2)]))
def ku (a0:IV):Option (List IV):=
 (lq a0 (.int .i64 30)).bind fun v1=>
 (rI .not (nth v1 0)).bind fun v2=>
 af v2 (fun _=>
 (qM).bind fun v3=>
 ai [(nth v3 0)]) (fun _=>
 (jx (.lst [])).bind fun v4=>
 (iter rounds (b8 a0) [(nth v4 0),(nth v4 1),(nth v4 2),(.lst []),(.int .i64 0),(.int .i64 0),(.lst []),(.lst []),(.lst []),(.int .i64 0)]).bind fun v38=>
 iA v38.1 [((bk (.ptr [(nth v38.2 0),(nth v38.2 1),(nth v38.2 2)] 0)).bind fun v39=>
 (cx (.ptr [(nth v38.2 0),(nth v38.2 1),(nth v38.2 2)] 0)).bind fun v40=>
 (qu (nth v39 0) (nth v40 0)).bind fun v41=>
 (bq (nth v41 0)).bind fun v42=>
 (aa .eql v42 (.int .i64 0)).bind fun v43=>
 af v43 (fun _=>
 (qM).bind fun v44=>
 some [(nth v44 0)]) (fun _=>
 some [(.bool false)])).bind fun v45=>
 ai [(nth v45 0)],
 ai [(nth v38.2 0)]])
def ur:Ann:={ order:=(fun r=>if r=13 then some ([8,9],[0,1,2,3,4,5,6,7,10],[11,12,13]) else if r=18 then some ([],[0,1,2,3,4,5,6,7,8,9,10,11,12,13,14,15,16,17,18,19,20,21],[]) else none),join:=(fun r=>if r=14 then some [57] else if r=18 then some [87] else if r=20 then some [2] else none),loop:=(fun r=>if r=9 then ([(3,(.O [.imm,.imm,.buf 12])),(4,(.G 5)),(5,.I),(6,.I)],[[(3,(.O [.imm,.imm,.buf 12]))],[(2,.I)]]) else ([],[])),scalar:=true }
theorem AW (a0:IV):run Tryz.prog ZL C0 ur Tryz.f7 [[a0]]=ku a0:=by kernel_rfl
abbrev ug:FSig:=⟨.pure,true,[1],0,fun l=>match l with | [[x0]]=>ku x0 | _=>none⟩
def acD:FuncId->Option FSig:=al ue ug ZL
end Go.AM
end

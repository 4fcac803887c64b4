/- Each function that is reached runs in the abstract machine as printed; the others are what it runs. -/
import Derived.Test.YtgoenohknokcmaaGreatSh
import Derived.Test.YtgoenohknokcmaaGreatProg
open Go.Proofs.Tryz renaming prog->ab
open Go renaming FuncId->ad
set_option linter.unusedVariables false
set_option maxRecDepth 100000
 noncomputable section
namespace Go.AM
open Go.Proofs
def gy:ad->Bool:= λg=>g==Bh
def m4:ad->Bool:= λg=>g==JX
abbrev Cm:FSig:=⟨.fresh,false,[1],6,λl=>match l with | [[a]]=>dz a | _=>none⟩
def T1:ad->Option FSig:=aG nf Cm T0
abbrev rN:FSig:=⟨.obj (va 123 5),false,[1,1],0,mo⟩
def T2:ad->Option FSig:=aG jM rN T1
abbrev wo:FSig:=⟨.inl (strJ 123 5),false,[],0,λ_=>none⟩
def T3:ad->Option FSig:=aG nP wo T2
abbrev D3:FSig:=⟨.fresh,false,[1],4,λl=>match l with | [[a]]=>fX a | _=>none⟩
def T4:ad->Option FSig:=aG oD D3 T3
abbrev AY:FSig:=⟨.cons,false,[1],6,λl=>match l with | [[a],[b],[c]]=>ej a b c | _=>none⟩
def T5:ad->Option FSig:=aG lY AY T4
abbrev Cl:FSig:=⟨.fresh,false,[1],2,λl=>match l with | [[a]]=>fm a | _=>none⟩
def T6:ad->Option FSig:=aG ng Cl T5
abbrev Aq:FSig:=⟨.cons,false,[1],2,λl=>match l with | [[a],[b],[c]]=>de a b c | _=>none⟩
def T7:ad->Option FSig:=aG my Aq T6
abbrev tl:FSig:=⟨.obj (va 123 5),false,[1],0,Hm⟩
def T8:ad->Option FSig:=aG ln tl T7
abbrev Gh:FSig:=⟨.pure,true,[1],0,λl=>match l with | [[a],[b],[c]]=>th a b c | _=>none⟩
def T9:ad->Option FSig:=aG yu Gh T8
abbrev CO:FSig:=⟨.cons,false,[1],4,λl=>match l with | [[a],[b],[c]]=>dx a b c | _=>none⟩
def T10:ad->Option FSig:=aG nr CO T9
abbrev Cg:FSig:=⟨.inl (growJ 2 24),false,[],0,λ_=>none⟩
def T11:ad->Option FSig:=aG sP Cg T10
theorem OO (a:IV):run ab T11 C0 A1 Tryz.f124 [[a]]=rF a:=by kernel_rfl
abbrev TM:FSig:=⟨.pure,true,[1,1,1,1],0,λl=>match l with | [[a]]=>rF a | _=>none⟩
def T12:ad->Option FSig:=aG Up TM T11
def FD:Ann:={ join:=(λr=>if r=4 then some [34] else if r=8 then some [56] else none),loop:=(λr=>if r=2 then ([(4,.I),(5,.I)],[[(4,.I),(5,.I)]]) else if r=6 then ([(7,.I),(8,.I),(45,.I)],[[],[]]) else ([],[])),scalar:=true }
theorem LV (a:IV):run ab T12 C0 FD Tryz.f57 [[a]]=sW a:=by kernel_rfl
abbrev Ss:FSig:=⟨.pure,true,[1,1],0,λl=>match l with | [[a]]=>sW a | _=>none⟩
def T13:ad->Option FSig:=aG R2 Ss T12
theorem MB (a:IV):run ab T13 C0 A1 Tryz.f28 [[a]]=dU a:=by kernel_rfl
abbrev Rd:FSig:=⟨.pure,true,[1],0,λl=>match l with | [[a]]=>dU a | _=>none⟩
def T14:ad->Option FSig:=aG RJ Rd T13
def LH:Ann:={ join:=(λr=>if r=1 then some [2] else none),scalar:=true }
theorem S0 (a b c d:IV):run ab T14 C0 LH Tryz.f70 [[a,b,c,d]]=mm a b c d:=by kernel_rfl
abbrev KI:FSig:=⟨.pure,true,[1],0,λl=>match l with | [[a,b,c,d]]=>mm a b c d | _=>none⟩
def T15:ad->Option FSig:=aG K5 KI T14
abbrev Lo:FSig:=⟨.pure,true,[1],0,λl=>match l with | [[a]]=>qM a | _=>none⟩
def T16:ad->Option FSig:=aG Ei Lo T15
def uW:Ann:={ loop:=(λr=>if r=2 then ([(8,.I)],[[],[(4,.I)]]) else ([],[])),scalar:=true }
theorem Bb (a b:IV):run ab T16 C0 uW Tryz.f203 [[a],[b]]=j5 a b:=by kernel_rfl
abbrev DC:FSig:=⟨.pure,true,[1],0,λl=>match l with | [[a],[b]]=>j5 a b | _=>none⟩
def T17:ad->Option FSig:=aG DV DC T16
theorem wZ (a b:IV):run ab T17 C0 A1 Tryz.f148 [[a],[b]]=dK a b:=by kernel_rfl
abbrev qu:FSig:=⟨.pure,true,[1],0,λl=>match l with | [[a],[b]]=>dK a b | _=>none⟩
def T18:ad->Option FSig:=aG qv qu T17
abbrev IY:FSig:=⟨.pure,false,[1,1],0,λl=>match l with | [[a],[b]]=>AZ a b | _=>none⟩
def T19:ad->Option FSig:=aG Ab IY T18
theorem R9 (a:IV):run ab T19 C0 A1 Tryz.f236 [[a]]=lS a:=by kernel_rfl
abbrev NM:FSig:=⟨.pure,true,[1],0,λl=>match l with | [[a]]=>lS a | _=>none⟩
def T20:ad->Option FSig:=aG DY NM T19
def Nq:Ann:={ loop:=(λr=>if r=2 then ([(0,.I),(3,(.B 1))],[[(0,.I),(3,(.B 1))]]) else ([],[])),scalar:=true }
theorem Tk (a:IV):run ab T20 C0 Nq Tryz.f60 [[a]]=b9 a:=by kernel_rfl
abbrev LU:FSig:=⟨.pure,true,[1],0,λl=>match l with | [[a]]=>b9 a | _=>none⟩
def T21:ad->Option FSig:=aG DB LU T20
abbrev AJ:FSig:=⟨.pure,true,[1],0,λl=>match l with | [[a]]=>gg a | _=>none⟩
def T22:ad->Option FSig:=aG uD AJ T21
theorem NT (a b:IV):run ab T22 C0 A1 Tryz.f134 [[a],[b]]=ct a b:=by kernel_rfl
abbrev Vs:FSig:=⟨.pure,true,[],0,λl=>match l with | [[a],[b]]=>ct a b | _=>none⟩
def T23:ad->Option FSig:=aG Uj Vs T22
def dS:Ann:={ join:=(λr=>if r=1 then some [] else none) }
def cz:Inl:=lA ab T23 C0 dS Tryz.f197
def en:ad->Option FSig:=aG g9 ⟨.inl cz,false,[],0,λ_=>none⟩ <| T23
def eC:Ann:={ order:=(λr=>if r=3 then some ([0],[1,2,3,4,5],[6,7,8,9]) else none),join:=(λr=>if r=1 then some [12] else none) }
def ey:Inl:=VT ab en C0 eC gy Tryz.f132
def sM:ad->Option FSig:=aG g9 ⟨.inl cz,false,[],0,λ_=>none⟩ <| aG gu ⟨.inl ey,false,[],0,λ_=>none⟩ <| T23
theorem zZ (a b c:IV):runM ab sM C0 A0 [.imm,.imm] Tryz.f138 [a,b] [[c]]=bj a b c:=by kernel_rfl
abbrev tH:FSig:=⟨.obj [.imm,.imm],false,[1],0,λl=>match l with | [[a,b],[c]]=>bj a b c | _=>none⟩
def T24:ad->Option FSig:=aG oy tH T23
abbrev vB:FSig:=⟨.obj [.imm,.imm],false,[1],0,λl=>match l with | [[a,b]]=>pH a b | _=>none⟩
def T25:ad->Option FSig:=aG pC vB T24
def pn:Ann:={ loop:=(λr=>if r=2 then ([(8,.I)],[[],[(4,.I)]]) else ([],[])),scalar:=true }
theorem wN (C:IV->List Nat->List (List IV)->Option (List IV)) (a b:IV):run ab T25 C pn Tryz.f155 [[a],[b]]=bJ C a b:=by kernel_rfl
theorem xp (a b c d e:IV):run ab T25 C0 A1 Tryz.f208 [[a,b,c,d],[e]]=l7 a b c d e:=by kernel_rfl
abbrev Mx:FSig:=⟨.pure,true,[1],0,λl=>match l with | [[a,b,c,d],[e]]=>l7 a b c d e | _=>none⟩
def T26:ad->Option FSig:=aG p5 Mx T25
def C3:ad->Option FSig:=aG fw ⟨.pure,true,[1],0,λl=>match l with | [[a],[b]]=>bJ (nT) a b | _=>none⟩ <| T26
theorem Mr (a b:IV):run ab C3 (nT) A1 Tryz.f154 [[a],[b]]=pZ a b:=by kernel_rfl
abbrev RL:FSig:=⟨.pure,true,[1,1],0,λl=>match l with | [[a],[b]]=>pZ a b | _=>none⟩
def T27:ad->Option FSig:=aG Rf RL T26
theorem BP (a b c d e:IV):run ab T27 C0 A1 Tryz.f156 [[a,b,c,d],[e]]=pU a b c d e:=by kernel_rfl
abbrev RG:FSig:=⟨.pure,true,[1],0,λl=>match l with | [[a,b,c,d],[e]]=>pU a b c d e | _=>none⟩
def T28:ad->Option FSig:=aG td RG T27
def H7:ad->Option FSig:=aG fw ⟨.pure,true,[1],0,λl=>match l with | [[a],[b]]=>bJ (rH) a b | _=>none⟩ <| T28
theorem Re (a b c d e:IV):run ab H7 (rH) A0 Tryz.f89 [[a],[b,c,d,e]]=uo a b c d e:=by kernel_rfl
abbrev WZ:FSig:=⟨.pure,false,[1],0,λl=>match l with | [[a],[b,c,d,e]]=>uo a b c d e | _=>none⟩
def T29:ad->Option FSig:=aG XG WZ T28
def C9:Ann:={ loop:=(λr=>if r=4 then ([(5,.I)],[[],[(4,.I)]]) else ([],[])),scalar:=true }
theorem Jl (a b:IV):run ab T29 C0 C9 Tryz.f8 [[a],[b]]=kO a b:=by kernel_rfl
abbrev Pe:FSig:=⟨.pure,true,[1],0,λl=>match l with | [[a],[b]]=>kO a b | _=>none⟩
def T30:ad->Option FSig:=aG Pd Pe T29
def lG:Ann:={ join:=(λr=>if r=1 then some [20] else none) }
theorem yq (a b c:IV):runM ab T30 C0 lG [.buf 5,.buf 6] Tryz.f20 [a,b] [[c]]=bX a b c:=by kernel_rfl
theorem u5 (a:IV):run ab T30 C0 lG Tryz.f20 [[.nilp],[a]]=fy a:=by kernel_rfl
abbrev z8:FSig:=⟨.obj [.buf 5,.buf 6],false,[5,1],0,λl=>match l with | [[a,c],[b]]=>bX a c b | [[a],[b]]=>EJ a (fy b) | _=>none⟩
def T31:ad->Option FSig:=aG rD z8 T30
def EB:Ann:={ loop:=(λr=>if r=2 then ([(8,.I)],[[],[(2,.I)]]) else ([],[])),scalar:=true }
theorem Lp (C:IV->List Nat->List (List IV)->Option (List IV)) (a:IV):run ab T31 C EB Tryz.f109 [[a]]=mK C a:=by kernel_rfl
theorem FV (a:IV):run ab T31 C0 A1 Tryz.f177 [[a]]=kH a:=by kernel_rfl
abbrev JV:FSig:=⟨.pure,true,[1],0,λl=>match l with | [[a]]=>kH a | _=>none⟩
def T32:ad->Option FSig:=aG Kc JV T31
theorem Co (a b:IV):run ab T32 C0 A1 Tryz.f111 [[a],[b]]=eD a b:=by kernel_rfl
abbrev F3:FSig:=⟨.pure,true,[1],0,λl=>match l with | [[a],[b]]=>eD a b | _=>none⟩
def T33:ad->Option FSig:=aG F9 F3 T32
theorem vp (a b:IV):run ab T33 C0 A1 Tryz.f110 [[a],[b]]=kj a b:=by kernel_rfl
abbrev Jo:FSig:=⟨.pure,true,[1],0,λl=>match l with | [[a],[b]]=>kj a b | _=>none⟩
def T34:ad->Option FSig:=aG kA Jo T33
theorem vS (a b:IV):run ab T34 C0 A1 Tryz.f112 [[a],[b]]=kI a b:=by kernel_rfl
abbrev JI:FSig:=⟨.pure,true,[1],0,λl=>match l with | [[a],[b]]=>kI a b | _=>none⟩
def T35:ad->Option FSig:=aG kB JI T34
def A4:ad->Option FSig:=aG xJ ⟨.pure,true,[1],0,λl=>match l with | [[a]]=>mK (jC) a | _=>none⟩ <| T35
theorem JD (a b c d:IV):run ab A4 (jC) A1 Tryz.f52 [[a,b],[c,d]]=di a b c d:=by kernel_rfl
abbrev O3:FSig:=⟨.pure,true,[1],0,λl=>match l with | [[a,b],[c,d]]=>di a b c d | _=>none⟩
def T36:ad->Option FSig:=aG PY O3 T35
def o8:Ann:={ loop:=(λr=>if r=2 then ([(8,.I)],[[],[(4,.I)]]) else ([],[])),scalar:=true }
theorem vj (C:IV->List Nat->List (List IV)->Option (List IV)) (a b:IV):run ab T36 C o8 Tryz.f191 [[a],[b]]=cA C a b:=by kernel_rfl
def lz (C:IV->List Nat->List (List IV)->Option (List IV)):ad->Option FSig:=aG jn ⟨.pure,true,[1],0,λl=>match l with | [[a],[b]]=>cA C a b | _=>none⟩ <| T36
theorem sj (C:IV->List Nat->List (List IV)->Option (List IV)) (a b:IV):run ab (lz C) C A1 Tryz.f125 [[a],[b]]=cE C a b:=by kernel_rfl
theorem Ph (a b c d e f:IV):run ab T36 C0 A1 Tryz.f71 [[a,b,c,d,e,f]]=oT a b c d e f:=by kernel_rfl
abbrev VR:FSig:=⟨.pure,true,[4],0,λl=>match l with | [[a,b,c,d,e,f]]=>oT a b c d e f | _=>none⟩
def T37:ad->Option FSig:=aG Wm VR T36
def IA:Ann:={ join:=(λr=>if r=2 then some [2] else none),scalar:=true }
theorem Oh (a b c d e f:IV):run ab T37 C0 IA Tryz.f32 [[a,b,c,d,e,f]]=jI a b c d e f:=by kernel_rfl
abbrev Uy:FSig:=⟨.pure,true,[1],0,λl=>match l with | [[a,b,c,d,e,f]]=>jI a b c d e f | _=>none⟩
def T38:ad->Option FSig:=aG Vk Uy T37
theorem y8 (a b c d e f:IV):run ab T38 C0 A1 Tryz.f126 [[a,b,c,d,e,f]]=nx a b c d e f:=by kernel_rfl
abbrev Pk:FSig:=⟨.pure,true,[1],0,λl=>match l with | [[a,b,c,d,e,f]]=>nx a b c d e f | _=>none⟩
def T39:ad->Option FSig:=aG ra Pk T38
def E0:ad->Option FSig:=aG gn ⟨.pure,true,[1],0,λl=>match l with | [[a],[b]]=>cE (pF) a b | _=>none⟩ <| T39
def Iw:Ann:={ order:=(λr=>if r=4 then some ([],[0,1,2,3,4,5,6,7,8,9,10,11,12],[]) else none),join:=(λr=>if r=6 then some [2] else none),loop:=(λr=>if r=2 then ([(3,.I)],[[],[(2,.I)]]) else ([],[])),scalar:=true }
theorem Om (a:IV):run ab E0 (pF) Iw Tryz.f58 [[a]]=jJ a:=by kernel_rfl
abbrev Us:FSig:=⟨.pure,true,[1],0,λl=>match l with | [[a]]=>jJ a | _=>none⟩
def T40:ad->Option FSig:=aG Wu Us T39
def IM:Ann:={ order:=(λr=>if r=4 then some ([],[0,1,2,3,4,5,6,7,8,9,10,11,12,13,14,15,16,17,18,19,20,21,22,23,24,25,26,27,28,29,30,31,32],[]) else none),join:=(λr=>if r=4 then some [44] else none),loop:=(λr=>if r=2 then ([(7,.I)],[[],[(2,.I)]]) else ([],[])),scalar:=true }
theorem N9 (a:IV):run ab T40 C0 IM Tryz.f100 [[a]]=dB a:=by kernel_rfl
abbrev VY:FSig:=⟨.pure,true,[1],0,λl=>match l with | [[a]]=>dB a | _=>none⟩
def T41:ad->Option FSig:=aG Vf VY T40
def wF:Ann:={ join:=(λr=>if r=1 then some [1] else none),scalar:=true }
theorem y4 (a:IV):run ab T41 C0 wF Tryz.f98 [[a]]=od a:=by kernel_rfl
abbrev PW:FSig:=⟨.pure,true,[1],0,λl=>match l with | [[a]]=>od a | _=>none⟩
def T42:ad->Option FSig:=aG nD PW T41
def oK:Ann:={ loop:=(λr=>if r=2 then ([(8,.I)],[[],[(4,.I)]]) else ([],[])),scalar:=true }
theorem vd (C:IV->List Nat->List (List IV)->Option (List IV)) (a b:IV):run ab T42 C oK Tryz.f116 [[a],[b]]=bc C a b:=by kernel_rfl
theorem wc (a b c:IV):run ab T42 C0 A1 Tryz.f178 [[a,b],[c]]=kp a b c:=by kernel_rfl
abbrev Jq:FSig:=⟨.pure,true,[1],0,λl=>match l with | [[a,b],[c]]=>kp a b c | _=>none⟩
def T43:ad->Option FSig:=aG ot Jq T42
def BD:ad->Option FSig:=aG dc ⟨.pure,true,[1],0,λl=>match l with | [[a],[b]]=>bc (mg) a b | _=>none⟩ <| T43
theorem Jk (a b:IV):run ab BD (mg) A1 Tryz.f114 [[a],[b]]=kR a b:=by kernel_rfl
abbrev OH:FSig:=⟨.pure,true,[1,1],0,λl=>match l with | [[a],[b]]=>kR a b | _=>none⟩
def T44:ad->Option FSig:=aG Og OH T43
def xm:Ann:={ loop:=(λr=>if r=2 then ([(0,.I),(9,.I)],[[(0,.I)]]) else ([],[])),scalar:=true }
theorem Ew (a b:IV):run ab T44 C0 xm Tryz.f115 [[a],[b]]=fI a b:=by kernel_rfl
abbrev Gy:FSig:=⟨.pure,true,[1],0,λl=>match l with | [[a],[b]]=>fI a b | _=>none⟩
def T45:ad->Option FSig:=aG HC Gy T44
theorem vH (a b c:IV):run ab T45 C0 A1 Tryz.f117 [[a,b],[c]]=kF a b c:=by kernel_rfl
abbrev JB:FSig:=⟨.pure,true,[1],0,λl=>match l with | [[a,b],[c]]=>kF a b c | _=>none⟩
def T46:ad->Option FSig:=aG og JB T45
def Bj:ad->Option FSig:=aG dc ⟨.pure,true,[1],0,λl=>match l with | [[a],[b]]=>bc (lH) a b | _=>none⟩ <| T46
def Dl:Ann:={ order:=(λr=>if r=4 then some ([],[0,1,2,3,4,5,6,7,8,9,10,11,12],[13]) else none) }
theorem J3 (a b c:IV):run ab Bj (lH) Dl Tryz.f54 [[a],[b,c]]=kP a b c:=by kernel_rfl
abbrev Pw:FSig:=⟨.pure,false,[1],0,λl=>match l with | [[a],[b,c]]=>kP a b c | _=>none⟩
def T47:ad->Option FSig:=aG Py Pw T46
def LN:Ann:={ loop:=(λr=>if r=3 then ([(3,.I),(8,.I)],[[(3,.I)]]) else ([],[])) }
theorem Rj (a:IV):run ab T47 C0 LN Tryz.f103 [[a]]=tD a:=by kernel_rfl
abbrev Xe:FSig:=⟨.pure,false,[1],0,λl=>match l with | [[a]]=>tD a | _=>none⟩
def T48:ad->Option FSig:=aG WR Xe T47
def lu (C:IV->List Nat->List (List IV)->Option (List IV)):ad->Option FSig:=aG dc ⟨.pure,true,[1],0,λl=>match l with | [[a],[b]]=>bc C a b | _=>none⟩ <| T48
theorem sd (C:IV->List Nat->List (List IV)->Option (List IV)) (a b:IV):run ab (lu C) C A1 Tryz.f174 [[a],[b]]=cF C a b:=by kernel_rfl
theorem N4 (a b:IV):run ab T48 C0 A1 Tryz.f176 [[a],[b]]=mh a b:=by kernel_rfl
abbrev VW:FSig:=⟨.pure,true,[1],0,λl=>match l with | [[a],[b]]=>mh a b | _=>none⟩
def T49:ad->Option FSig:=aG UY VW T48
def se:Ann:={ order:=(λr=>if r=1 then some ([],[0,1,2,3,4,5,6,7,8,9],[]) else none),scalar:=true }
theorem vL (a b c d:IV):run ab T49 C0 se Tryz.f175 [[a,b],[c],[d]]=kg a b c d:=by kernel_rfl
abbrev Jt:FSig:=⟨.pure,true,[1],0,λl=>match l with | [[a,b],[c],[d]]=>kg a b c d | _=>none⟩
def T50:ad->Option FSig:=aG ox Jt T49
def BA:ad->Option FSig:=aG fT ⟨.pure,true,[1],0,λl=>match l with | [[a],[b]]=>cF (lC) a b | _=>none⟩ <| T50
theorem Kb (a b:IV):run ab BA (lC) A1 Tryz.f102 [[a],[b]]=oe a b:=by kernel_rfl
abbrev O2:FSig:=⟨.pure,true,[1],0,λl=>match l with | [[a],[b]]=>oe a b | _=>none⟩
def T51:ad->Option FSig:=aG Pu O2 T50
def wu:Ann:={ order:=(λr=>if r=1 then some ([],[0,1,2,3,4,5,6],[]) else none),scalar:=true }
theorem y3 (a:IV):run ab T51 C0 wu Tryz.f101 [[a]]=nY a:=by kernel_rfl
abbrev O5:FSig:=⟨.pure,true,[1],0,λl=>match l with | [[a]]=>nY a | _=>none⟩
def T52:ad->Option FSig:=aG nQ O5 T51
def CP:Ann:={ order:=(λr=>if r=1 then some ([],[0,1,2,3,4,5,6,7,8,9,10,11,12,13,14,15,16,17,18,19,20,21,22,23,24,25,26,27],[]) else none),join:=(λr=>if r=1 then some [4] else none),scalar:=true }
theorem J7 (a b c:IV):run ab T52 C0 CP Tryz.f105 [[a],[b,c]]=kN a b c:=by kernel_rfl
abbrev Pp:FSig:=⟨.pure,true,[1],0,λl=>match l with | [[a],[b,c]]=>kN a b c | _=>none⟩
def T53:ad->Option FSig:=aG OY Pp T52
def wJ:Ann:={ join:=(λr=>if r=1 then some [1] else none),scalar:=true }
theorem zb (a:IV):run ab T53 C0 wJ Tryz.f104 [[a]]=nR a:=by kernel_rfl
abbrev PF:FSig:=⟨.pure,true,[1],0,λl=>match l with | [[a]]=>nR a | _=>none⟩
def T54:ad->Option FSig:=aG n9 PF T53
theorem qq (a b c d e f g h:IV):run ab T54 C0 A1 Tryz.f85 [[a,b],[c,d,e,f,g,h]]=cS a b c d e f g h:=by kernel_rfl
abbrev Cr:FSig:=⟨.pure,true,[1],0,λl=>match l with | [[a,b],[c,d,e,f,g,h]]=>cS a b c d e f g h | _=>none⟩
def T55:ad->Option FSig:=aG jd Cr T54
def Dk:Ann:={ loop:=(λr=>if r=3 then ([(5,(.B 6)),(10,.I)],[[(5,(.B 6))]]) else ([],[])) }
theorem JT (a b c:IV):run ab T55 C0 Dk Tryz.f107 [[a],[b,c]]=kT a b c:=by kernel_rfl
abbrev Oa:FSig:=⟨.pure,false,[1],0,λl=>match l with | [[a],[b,c]]=>kT a b c | _=>none⟩
def T56:ad->Option FSig:=aG NP Oa T55
def wx:Ann:={ order:=(λr=>if r=1 then some ([],[0,1,2,3,4,5,6,7,8,9,10],[]) else none),scalar:=true }
theorem zg (a:IV):run ab T56 C0 wx Tryz.f106 [[a]]=nM a:=by kernel_rfl
abbrev PK:FSig:=⟨.pure,true,[1],0,λl=>match l with | [[a]]=>nM a | _=>none⟩
def T57:ad->Option FSig:=aG nw PK T56
def xF:Ann:={ loop:=(λr=>if r=3 then ([(3,.M),(12,.I)],[[(3,.M)]]) else if r=8 then ([(3,.M),(23,.I)],[[(3,.M)]]) else ([],[])) }
theorem Ec (a b c d e:IV):run ab T57 C0 xF Tryz.f53 [[a,b,c,d,e]]=fJ a b c d e:=by kernel_rfl
abbrev GU:FSig:=⟨.pure,false,[1],0,λl=>match l with | [[a,b,c,d,e]]=>fJ a b c d e | _=>none⟩
def T58:ad->Option FSig:=aG HG GU T57
theorem zj (a:IV):run ab T58 C0 A1 Tryz.f108 [[a]]=nv a:=by kernel_rfl
abbrev PE:FSig:=⟨.pure,true,[1],0,λl=>match l with | [[a]]=>nv a | _=>none⟩
def T59:ad->Option FSig:=aG ny PE T58
def Ia:Ann:={ loop:=(λr=>if r=2 then ([(12,.I)],[[],[(2,.I)]]) else ([],[])),scalar:=true }
theorem OA (a b c d e:IV):run ab T59 (dW) Ia Tryz.f51 [[a,b,c,d,e]]=jK a b c d e:=by kernel_rfl
abbrev UT:FSig:=⟨.pure,true,[1],0,λl=>match l with | [[a,b,c,d,e]]=>jK a b c d e | _=>none⟩
def T60:ad->Option FSig:=aG Wo UT T59
def Mz:Ann:={ loop:=(λr=>if r=3 then ([(3,(.O [.sn 123 2,.buf 1 (some 5)])),(8,.I)],[[(3,(.O [.sn 123 2,.buf 1 (some 5)]))]]) else ([],[])),scalar:=true }
theorem Rr (C:IV->List Nat->List (List IV)->Option (List IV)) (a:IV):run ab T60 C Mz Tryz.f181 [[a]]=iA C a:=by kernel_rfl
theorem gW (a:IV):run ab T60 C0 A1 Tryz.f284 [[a]]=da a:=by kernel_rfl
abbrev DJ:FSig:=⟨.pure,true,[1],0,λl=>match l with | [[a]]=>da a | _=>none⟩
def T61:ad->Option FSig:=aG DN DJ T60
theorem nh (a:IV):run ab T61 C0 A1 Tryz.f285 [[a]]=ez a:=by kernel_rfl
abbrev F0:FSig:=⟨.pure,true,[1],0,λl=>match l with | [[a]]=>ez a | _=>none⟩
def T62:ad->Option FSig:=aG Fz F0 T61
def Fj:Ann:={ loop:=(λr=>if r=5 then ([(4,.M),(5,(.B 1)),(6,(.B 1)),(17,.I)],[[(5,(.B 1)),(6,(.B 1))]]) else ([],[])) }
theorem Nh (a:IV):run ab T62 C0 Fj Tryz.f238 [[a]]=qh a:=by kernel_rfl
abbrev SF:FSig:=⟨.pure,false,[1,1],0,λl=>match l with | [[a]]=>qh a | _=>none⟩
def T63:ad->Option FSig:=aG Ra SF T62
theorem SL (a:IV):run ab T63 C0 A1 Tryz.f128 [[a]]=uF a:=by kernel_rfl
abbrev X8:FSig:=⟨.pure,true,[1],0,λl=>match l with | [[a]]=>uF a | _=>none⟩
def T64:ad->Option FSig:=aG XY X8 T63
def xh:Ann:={ join:=(λr=>if r=6 then some [26] else none),loop:=(λr=>if r=3 then ([(3,(.B 2)),(9,.I)],[[(3,(.B 2))]]) else ([],[])) }
theorem DE (a:IV):run ab T64 C0 xh Tryz.f237 [[a]]=jz a:=by kernel_rfl
abbrev GK:FSig:=⟨.pure,false,[1],0,λl=>match l with | [[a]]=>jz a | _=>none⟩
def T65:ad->Option FSig:=aG HH GK T64
def C7:Ann:={ loop:=(λr=>if r=3 then ([(3,(.O [.sn 123 2,.buf 1 (some 5)])),(9,.I)],[[(3,(.O [.sn 123 2,.buf 1 (some 5)]))]]) else ([],[])),scalar:=true }
theorem Jz (a:IV):run ab T65 C0 C7 Tryz.f186 [[a]]=kZ a:=by kernel_rfl
abbrev NY:FSig:=⟨.pure,true,[1],0,λl=>match l with | [[a]]=>kZ a | _=>none⟩
def T66:ad->Option FSig:=aG PN NY T65
def CW:Ann:={ loop:=(λr=>if r=5 then ([(5,(.O [.sn 123 2,.buf 1 (some 5)])),(20,.I)],[[(5,(.O [.sn 123 2,.buf 1 (some 5)]))]]) else ([],[])),scalar:=true }
theorem J8 (a:IV):run ab T66 C0 CW Tryz.f187 [[a]]=k8 a:=by kernel_rfl
abbrev PB:FSig:=⟨.pure,true,[1],0,λl=>match l with | [[a]]=>k8 a | _=>none⟩
def T67:ad->Option FSig:=aG Pg PB T66
theorem rC (a:IV):run ab T67 C0 A1 Tryz.f286 [[a]]=fW a:=by kernel_rfl
abbrev D9:FSig:=⟨.pure,true,[1],0,λl=>match l with | [[a]]=>fW a | _=>none⟩
def T68:ad->Option FSig:=aG En D9 T67
def Fs:Ann:={ join:=(λr=>if r=1 then some [2] else none),scalar:=true }
theorem Mp (a:IV):run ab T68 C0 Fs Tryz.f193 [[a]]=fu a:=by kernel_rfl
abbrev S7:FSig:=⟨.pure,true,[1],0,λl=>match l with | [[a]]=>fu a | _=>none⟩
def T69:ad->Option FSig:=aG TB S7 T68
theorem Ji:run ab T69 C0 A1 Tryz.f242 []=nu:=by kernel_rfl
abbrev N7:FSig:=⟨.pure,true,[30],0,λl=>match l with | []=>nu | _=>none⟩
def T70:ad->Option FSig:=aG N8 N7 T69
def Fk:Ann:={ loop:=(λr=>if r=3 then ([(0,.I),(4,.I),(8,.I)],[[(0,.I),(4,.I)]]) else if r=12 then ([(0,.I),(4,.I)],[[(0,.I),(4,.I)]]) else if r=15 then ([(0,.I),(4,.I)],[[(0,.I),(4,.I)]]) else ([],[])),scalar:=true }
theorem Mk (a:IV):run ab T70 C0 Fk Tryz.f194 [[a]]=jU a:=by kernel_rfl
abbrev SO:FSig:=⟨.pure,true,[1,1],0,λl=>match l with | [[a]]=>jU a | _=>none⟩
def T71:ad->Option FSig:=aG RX SO T70
theorem OW (a:IV):run ab T71 C0 A1 Tryz.f130 [[a]]=ed a:=by kernel_rfl
abbrev VN:FSig:=⟨.pure,true,[1],0,λl=>match l with | [[a]]=>ed a | _=>none⟩
def T72:ad->Option FSig:=aG We VN T71
def sO:Ann:={ loop:=(λr=>if r=2 then ([(8,.I)],[[],[(4,.I)]]) else ([],[])),scalar:=true }
theorem zy (a b:IV):run ab T72 C0 sO Tryz.f263 [[a],[b]]=fk a b:=by kernel_rfl
abbrev Cj:FSig:=⟨.pure,true,[1],0,λl=>match l with | [[a],[b]]=>fk a b | _=>none⟩
def T73:ad->Option FSig:=aG CL Cj T72
def ef:Inl:=lA ab T73 C0 A0 Tryz.f260
def ij:ad->Option FSig:=aG im ⟨.inl ef,false,[],0,λ_=>none⟩ <| T73
def iT:Inl:=lA ab ij C0 A0 Tryz.f266
def xv:ad->Option FSig:=aG im ⟨.inl ef,false,[],0,λ_=>none⟩ <| aG eO ⟨.inl iT,false,[],0,λ_=>none⟩ <| T73
def yU:Ann:={ order:=(λr=>if r=8 then some ([4,5,6],[0,1,2],[3,7,8]) else none),loop:=(λr=>if r=3 then ([(0,.I),(3,(.B 1)),(4,(.C eO [some 1]))],[[(3,(.B 1))]]) else ([],[])) }
theorem FP (a:IV):run ab xv C0 yU Tryz.f255 [[a]]=ku a:=by kernel_rfl
abbrev J2:FSig:=⟨.pure,false,[1],0,λl=>match l with | [[a]]=>ku a | _=>none⟩
def T74:ad->Option FSig:=aG JN J2 T73
def AI:Ann:={ loop:=(λr=>if r=3 then ([(3,(.O [.sn 123 2,.buf 1 (some 5)])),(9,.I)],[[(3,(.O [.sn 123 2,.buf 1 (some 5)]))]]) else ([],[])),scalar:=true }
theorem Gv (a:IV):run ab T74 C0 AI Tryz.f239 [[a]]=lI a:=by kernel_rfl
abbrev Nx:FSig:=⟨.pure,true,[1],0,λl=>match l with | [[a]]=>lI a | _=>none⟩
def T75:ad->Option FSig:=aG ND Nx T74
theorem MQ (a:IV):run ab T75 C0 A1 Tryz.f184 [[a]]=bK a:=by kernel_rfl
abbrev SA:FSig:=⟨.pure,true,[1],0,λl=>match l with | [[a]]=>bK a | _=>none⟩
def T76:ad->Option FSig:=aG Sw SA T75
theorem MJ (a:IV):run ab T76 C0 A1 Tryz.f252 [[a]]=m5 a:=by kernel_rfl
abbrev Sk:FSig:=⟨.pure,true,[1],0,λl=>match l with | [[a]]=>m5 a | _=>none⟩
def T77:ad->Option FSig:=aG R5 Sk T76
theorem tL (a b:IV):run ab T77 C0 A1 Tryz.f256 [[a],[b]]=qA a b:=by kernel_rfl
abbrev HE:FSig:=⟨.pure,true,[1],0,λl=>match l with | [[a],[b]]=>qA a b | _=>none⟩
def T78:ad->Option FSig:=aG fP HE T77
def eN:Inl:=lA ab T78 (cX) A0 Tryz.f250
def iJ:ad->Option FSig:=aG iB ⟨.inl eN,false,[],0,λ_=>none⟩ <| T78
def jj:Inl:=lA ab iJ (cX) A0 Tryz.f262
def za:ad->Option FSig:=aG iB ⟨.inl eN,false,[],0,λ_=>none⟩ <| aG ff ⟨.inl jj,false,[],0,λ_=>none⟩ <| T78
def BK:Ann:={ loop:=(λr=>if r=4 then ([(3,(.C ff [some 1,some 1])),(4,(.O [.sn 123 2,.buf 1 (some 5)])),(10,.I)],[[(4,(.O [.sn 123 2,.buf 1 (some 5)]))]]) else ([],[])),scalar:=true }
theorem HA (a:IV):run ab za (cX) BK Tryz.f240 [[a]]=lJ a:=by kernel_rfl
abbrev M8:FSig:=⟨.pure,true,[1],0,λl=>match l with | [[a]]=>lJ a | _=>none⟩
def T79:ad->Option FSig:=aG Mj M8 T78
def xt:Ann:={ loop:=(λr=>if r=4 then ([(3,(.B 1)),(4,(.B 1)),(12,.I)],[[(3,(.B 1)),(4,(.B 1))]]) else ([],[])),scalar:=true }
theorem D4 (a:IV):run ab T79 C0 xt Tryz.f188 [[a]]=fL a:=by kernel_rfl
abbrev Hd:FSig:=⟨.pure,true,[1],0,λl=>match l with | [[a]]=>fL a | _=>none⟩
def T80:ad->Option FSig:=aG Gs Hd T79
theorem rJ (a:IV):run ab T80 C0 A1 Tryz.f287 [[a]]=gl a:=by kernel_rfl
abbrev El:FSig:=⟨.pure,true,[1],0,λl=>match l with | [[a]]=>gl a | _=>none⟩
def T81:ad->Option FSig:=aG Et El T80
theorem Vh (C:IV->List Nat->List (List IV)->Option (List IV)) (y:IV):tV ab T81 C A0 Tryz.f288 (PV×List Ob) [.agg [.imm y]] [] (λp h=>some (p,h))=(BU "bonsai/snap.bytes" bK C y).bind λr=>some (.imm (nth r 0),[.box .rw [.imm y]]):=
 Eq.trans (b:=(C (Gx "bonsai/snap.bytes" y) [1] []).bind λr=>(bK (nth r 0)).bind λa=>some (.imm (nth a 0),[.box .rw [.imm y]])) (by kernel_rfl) (WC "bonsai/snap.bytes" bK C y (R:=PV×List Ob) λv=>some (PV.imm v,[Ob.box Md.rw [PV.imm y]]))
def yW:ad->Option FSig:=aG um ⟨.pure,true,[1],0,λl=>match l with | [[a]]=>iA (gM) a | _=>none⟩ <| T81
def Av:Ann:={ order:=(λr=>if r=7 then some ([5,6,7,8],[0,1,2,3],[4,9,10,11]) else if r=8 then some ([5,6,7,8],[0,1,2,3],[4,9,10,11]) else none),loop:=(λr=>if r=5 then ([(3,(.B 1)),(4,(.B 1)),(5,(.B 1)),(6,(.B 1)),(11,.I)],[[(3,(.B 1)),(4,(.B 1)),(5,(.B 1)),(6,(.B 1))]]) else ([],[])),scalar:=true }
theorem GZ (a:IV):run ab yW (gM) Av Tryz.f182 [[a]]=lL a:=by kernel_rfl
abbrev NB:FSig:=⟨.pure,true,[1],0,λl=>match l with | [[a]]=>lL a | _=>none⟩
def T82:ad->Option FSig:=aG ME NB T81
def xb:ad->Option FSig:=aG um ⟨.pure,true,[1],0,λl=>match l with | [[a]]=>iA (fO) a | _=>none⟩ <| T82
def yT:Ann:={ order:=(λr=>if r=5 then some ([5,6,7,8],[0,1,2,3],[4,9,10,11]) else none),loop:=(λr=>if r=3 then ([(3,(.B 1)),(4,(.B 1)),(9,.I)],[[(3,(.B 1)),(4,(.B 1))]]) else ([],[])),scalar:=true }
theorem Gm (a:IV):run ab xb (fO) yT Tryz.f183 [[a]]=kz a:=by kernel_rfl
abbrev Jb:FSig:=⟨.pure,true,[1],0,λl=>match l with | [[a]]=>kz a | _=>none⟩
def T83:ad->Option FSig:=aG I9 Jb T82
def BF:ad->Option FSig:=aG um ⟨.pure,true,[1],0,λl=>match l with | [[a]]=>iA (jk) a | _=>none⟩ <| T83
def Dp:Ann:={ order:=(λr=>if r=3 then some ([],[0,1,2,3,4,5,6,7,8,9,10,11,12,13,14,15,16,17,18,19,20,21],[]) else none),join:=(λr=>if r=1 then some [25] else none) }
theorem Jf (a b c d e:IV):run ab BF (jk) Dp Tryz.f119 [[a,b,c,d,e]]=nB a b c d e:=by kernel_rfl
abbrev OP:FSig:=⟨.pure,false,[1,1],0,λl=>match l with | [[a,b,c,d,e]]=>nB a b c d e | _=>none⟩
def T84:ad->Option FSig:=aG Ov OP T83
def AV:Ann:={ order:=(λr=>if r=10 then some ([6,7,8,9,10,11],[0,1,2,3,4],[5,12,13,14]) else if r=11 then some ([5,6,7,8],[0,1,2,3],[4,9,10,11]) else if r=12 then some ([5,6,7,8],[0,1,2,3],[4,9,10,11]) else none),loop:=(λr=>if r=8 then ([(4,(.B 1)),(5,(.B 1)),(6,(.B 1)),(7,(.B 1)),(8,(.B 1)),(9,(.B 1)),(17,.I)],[[(4,(.B 1)),(5,(.B 1)),(6,(.B 1)),(7,(.B 1)),(8,(.B 1)),(9,(.B 1))]]) else ([],[])) }
theorem GL (a:IV):run ab T84 C0 AV Tryz.f120 [[a]]=lZ a:=by kernel_rfl
abbrev KV:FSig:=⟨.pure,false,[1,1],0,λl=>match l with | [[a]]=>lZ a | _=>none⟩
def T85:ad->Option FSig:=aG Lx KV T84
def qt:Ann:={ loop:=(λr=>if r=3 then ([(3,.I),(11,.I)],[[(3,.I)]]) else if r=11 then ([(6,(.B 2)),(27,.I)],[[(6,(.B 2))]]) else ([],[])) }
theorem xj (a:IV):run ab T85 C0 qt Tryz.f121 [[a]]=dL a:=by kernel_rfl
abbrev zG:FSig:=⟨.pure,false,[1],0,λl=>match l with | [[a]]=>dL a | _=>none⟩
def T86:ad->Option FSig:=aG zC zG T85
theorem Gw (a b c d e:IV):run ab T86 C0 A0 Tryz.f55 [[a,b,c,d,e]]=pP a b c d e:=by kernel_rfl
abbrev LG:FSig:=⟨.pure,false,[1,1],0,λl=>match l with | [[a,b,c,d,e]]=>pP a b c d e | _=>none⟩
def T87:ad->Option FSig:=aG Nf LG T86
def NH:Ann:={ loop:=(λr=>if r=3 then ([(5,.I),(13,.I)],[[(5,.I)]]) else if r=7 then ([(5,.I),(21,.I)],[[(5,.I)]]) else ([],[])),scalar:=true }
theorem Tj (a b:IV):run ab T87 C0 NH Tryz.f257 [[a],[b]]=xL a b:=by kernel_rfl
abbrev XO:FSig:=⟨.pure,true,[1],0,λl=>match l with | [[a],[b]]=>xL a b | _=>none⟩
def T88:ad->Option FSig:=aG Xg XO T87
theorem VS (a:IV):run ab T88 C0 A1 Tryz.f241 [[a]]=wY a:=by kernel_rfl
abbrev Z6:FSig:=⟨.pure,true,[1],0,λl=>match l with | [[a]]=>wY a | _=>none⟩
def T89:ad->Option FSig:=aG ZZ Z6 T88
def FH:Ann:={ loop:=(λr=>if r=3 then ([(3,(.B 1)),(8,.I)],[[(3,(.B 1))]]) else ([],[])),scalar:=true }
theorem Nj (a:IV):run ab T89 C0 FH Tryz.f129 [[a]]=jZ a:=by kernel_rfl
abbrev SP:FSig:=⟨.pure,true,[1],0,λl=>match l with | [[a]]=>jZ a | _=>none⟩
def T90:ad->Option FSig:=aG Tt SP T89
theorem Hn (a:IV):run ab T90 C0 A1 Tryz.f190 [[a]]=fV a:=by kernel_rfl
abbrev Nu:FSig:=⟨.pure,true,[1],0,λl=>match l with | [[a]]=>fV a | _=>none⟩
def T91:ad->Option FSig:=aG Lg Nu T90
def H3:Ann:={ order:=(λr=>if r=1 then some ([],[0,1,2,3,4,5,6,7,8,9,10,11,12,13,14,15],[]) else none),scalar:=true }
theorem Oj (a b:IV):run ab T91 C0 H3 Tryz.f123 [[a,b]]=rA a b:=by kernel_rfl
abbrev UB:FSig:=⟨.pure,true,[1],0,λl=>match l with | [[a,b]]=>rA a b | _=>none⟩
def T92:ad->Option FSig:=aG TE UB T91
def F4:Ann:={ join:=(λr=>if r=1 then some [15] else if r=10 then some [26] else none),loop:=(λr=>if r=8 then ([(6,(.O [.sn 123 2,.buf 1 (some 5)])),(7,.I),(22,.I)],[[(6,(.O [.sn 123 2,.buf 1 (some 5)]))],[(4,.I),(5,.I)]]) else ([],[])),scalar:=true }
theorem Mw (a b:IV):run ab T92 C0 F4 Tryz.f56 [[a],[b]]=pG a b:=by kernel_rfl
abbrev Tx:FSig:=⟨.pure,true,[1,1],0,λl=>match l with | [[a],[b]]=>pG a b | _=>none⟩
def T93:ad->Option FSig:=aG Sq Tx T92
theorem LR (a b c d e:IV):run ab T93 C0 A1 Tryz.f26 [[a,b,c,d,e]]=mY a b c d e:=by kernel_rfl
abbrev SX:FSig:=⟨.pure,true,[1,1],0,λl=>match l with | [[a,b,c,d,e]]=>mY a b c d e | _=>none⟩
def T94:ad->Option FSig:=aG Rp SX T93
def oP:Ann:={ join:=(λr=>if r=1 then some [4] else none),scalar:=true }
theorem vg (a b:IV):run ab T94 C0 oP Tryz.f243 [[a],[b]]=eA a b:=by kernel_rfl
abbrev wR:FSig:=⟨.pure,true,[1],0,λl=>match l with | [[a],[b]]=>eA a b | _=>none⟩
def T95:ad->Option FSig:=aG xn wR T94
theorem vn (a b:IV):run ab T95 C0 A1 Tryz.f195 [[a],[b]]=eF a b:=by kernel_rfl
abbrev xy:FSig:=⟨.pure,true,[1,1],0,λl=>match l with | [[a],[b]]=>eF a b | _=>none⟩
def T96:ad->Option FSig:=aG xa xy T95
theorem zD (a b:IV):run ab T96 C0 A1 Tryz.f131 [[a],[b]]=jc a b:=by kernel_rfl
abbrev CF:FSig:=⟨.pure,true,[1,1],0,λl=>match l with | [[a],[b]]=>jc a b | _=>none⟩
def T97:ad->Option FSig:=aG CD CF T96
theorem EX (a:IV):run ab T97 C0 A1 Tryz.f63 [[a]]=cm a:=by kernel_rfl
abbrev Ja:FSig:=⟨.pure,true,[1,1],0,λl=>match l with | [[a]]=>cm a | _=>none⟩
def T98:ad->Option FSig:=aG JG Ja T97
theorem Tc (a:IV):runN ab T98 C0 A0 [.imm,.imm] Tryz.f64 [[a]]=cg a:=by kernel_rfl
abbrev XV:FSig:=⟨.mko [.imm,.imm],false,[1],0,λl=>match l with | [[a]]=>cg a | _=>none⟩
def T99:ad->Option FSig:=aG L7 XV T98
def er:Ann:={ join:=(λr=>if r=6 then some [] else none),loop:=(λr=>if r=4 then ([(1,(.K 3 [.imm])),(4,.I),(5,.I)],[[(1,(.K 3 [.imm])),(3,.I)]]) else ([],[])) }
def cQ:Inl:=lA ab T99 C0 er Tryz.f133
def eu:ad->Option FSig:=aG iX ⟨.inl cQ,false,[],0,λ_=>none⟩ <| T99
def fi:Ann:={ order:=(λr=>if r=3 then some ([0],[1,2,3,4,5],[6,7,8,9]) else none),join:=(λr=>if r=1 then some [12] else none) }
def fo:Inl:=VT ab eu C0 fi gy Tryz.f132
def uf:ad->Option FSig:=aG iX ⟨.inl cQ,false,[],0,λ_=>none⟩ <| aG gu ⟨.inl fo,false,[],0,λ_=>none⟩ <| T99
theorem Ch (a b:IV):runM ab uf C0 A0 [.imm,.imm] Tryz.f65 [a,b] []=az a b:=by kernel_rfl
abbrev EI:FSig:=⟨.obj [.imm,.imm],false,[1],0,λl=>match l with | [[a,b]]=>az a b | _=>none⟩
def afn:ad->Option FSig:=aG vV EI T99
theorem CN (a:IV):run ab afn C0 A1 Tryz.f66 [[a]]=lp a:=by kernel_rfl
abbrev Gd:FSig:=⟨.look 2,false,[1],0,λl=>match l with | vs::ws=>(λl=>match l with | [[a]]=>lp a | _=>none) ([.ptr vs 0]::ws) | []=>none⟩
def afj:ad->Option FSig:=aG pW Gd afn
theorem Aa (a:IV):run ab afj C0 A1 Tryz.f142 [[a]]=jX a:=by kernel_rfl
abbrev Ea:FSig:=⟨.look 2,false,[1],0,λl=>match l with | vs::ws=>(λl=>match l with | [[a]]=>jX a | _=>none) ([.ptr vs 0]::ws) | []=>none⟩
def afh:ad->Option FSig:=aG oC Ea afj
def Dj:Ann:={ order:=(λr=>if r=15 then some ([],[0,1,2,3,4,5,6,7,8],[]) else none),scalar:=true }
theorem Jg (a:IV):run ab afh C0 Dj Tryz.f158 [[a]]=nV a:=by kernel_rfl
abbrev OC:FSig:=⟨.pure,true,[2,1,1],0,λl=>match l with | [[a]]=>nV a | _=>none⟩
def aed:ad->Option FSig:=aG NX OC afh
def Dm:Ann:={ order:=(λr=>if r=12 then some ([4,5,6,7,8],[0,1,2],[3,9,10,11]) else none),loop:=(λr=>if r=7 then ([(0,.I),(7,(.B 2)),(8,.I)],[[(7,(.B 2))],[(2,.I),(3,.I),(4,.I)]]) else ([],[])) }
theorem JQ (a:IV):run ab aed C0 Dm Tryz.f92 [[a]]=kS a:=by kernel_rfl
abbrev Pf:FSig:=⟨.pure,false,[1,1,1],0,λl=>match l with | [[a]]=>kS a | _=>none⟩
def afm:ad->Option FSig:=aG PH Pf aed
def uz:Ann:={ join:=(λr=>if r=2 then some [12] else none) }
theorem Bq (a b:IV):runM ab afm C0 uz [.imm,.imm] Tryz.f68 [a,b] []=bN a b:=by kernel_rfl
abbrev DQ:FSig:=⟨.obj [.imm,.imm],false,[1],0,λl=>match l with | [[a,b]]=>bN a b | _=>none⟩
def T105:ad->Option FSig:=aG tM DQ afm
theorem Oo (a b:IV):runN ab T105 C0 A0 [.imm,.imm,.imm] Tryz.f211 [[a],[b]]=snap_open_s a b:=by kernel_rfl
abbrev S_snap_open:FSig:=⟨.mko [.imm,.imm,.imm],false,[1],0,λl=>match l with | [[a],[b]]=>snap_open_s a b | _=>none⟩
def afe:ad->Option FSig:=aG n_snap_open S_snap_open T105
def BG:Ann:={ order:=(λr=>if r=4 then some ([],[0,1,2,3,4,5,6,7,8,9],[]) else none),loop:=(λr=>if r=2 then ([(3,.I)],[[],[(2,.I)]]) else ([],[])),scalar:=true }
theorem GC (a:IV):run ab afe C0 BG Tryz.f218 [[a]]=mF a:=by kernel_rfl
abbrev Ln:FSig:=⟨.pure,true,[1],0,λl=>match l with | [[a]]=>mF a | _=>none⟩
def aeW:ad->Option FSig:=aG MO Ln afe
def IZ:Ann:={ order:=(λr=>if r=8 then some ([],[0,1,2,3,4,5,6,7,8,9,10],[]) else none),scalar:=true }
theorem PL (a:IV):run ab aeW C0 IZ Tryz.f222 [[a]]=bI a:=by kernel_rfl
abbrev Vi:FSig:=⟨.pure,true,[1,1,1],0,λl=>match l with | [[a]]=>bI a | _=>none⟩
def afz:ad->Option FSig:=aG Wp Vi aeW
theorem M0 (a:IV):run ab afz C0 A1 Tryz.f173 [[a]]=cw a:=by kernel_rfl
abbrev S2:FSig:=⟨.pure,true,[],0,λl=>match l with | [[a]]=>cw a | _=>none⟩
def aeS:ad->Option FSig:=aG Ty S2 afz
theorem O8 (a:IV):run ab aeS C0 A1 Tryz.f164 [[a]]=lU a:=by kernel_rfl
abbrev Ua:FSig:=⟨.pure,true,[1,1],0,λl=>match l with | [[a]]=>lU a | _=>none⟩
def aeE:ad->Option FSig:=aG TU Ua aeS
theorem MM (a b:IV):run ab aeE C0 A1 Tryz.f265 [[a],[b]]=sV a b:=by kernel_rfl
abbrev Q9:FSig:=⟨.pure,true,[1,1],0,λl=>match l with | [[a],[b]]=>sV a b | _=>none⟩
def afw:ad->Option FSig:=aG R8 Q9 aeE
theorem KY (a b:IV):run ab afw C0 A1 Tryz.f264 [[a],[b]]=E1 a b:=by kernel_rfl
abbrev Rb:FSig:=⟨.pure,true,[1,1],0,λl=>match l with | [[a],[b]]=>E1 a b | _=>none⟩
def aeT:ad->Option FSig:=aG R3 Rb afw
theorem SK (a b:IV):run ab aeT C0 A1 Tryz.f259 [[a],[b]]=qH a b:=by kernel_rfl
abbrev Xr:FSig:=⟨.pure,true,[1,1],0,λl=>match l with | [[a],[b]]=>qH a b | _=>none⟩
def aeh:ad->Option FSig:=aG WK Xr aeT
def rP:Ann:={ order:=(λr=>if r=9 then some ([0],[1,2,3,4,5,6],[7,8,9]) else none),join:=(λr=>if r=4 then some [26] else none),loop:=(λr=>if r=8 then ([(7,(.B 1)),(8,.I)],[[(7,(.B 1))]]) else ([],[])) }
theorem yl (a b:IV):run ab aeh C0 rP Tryz.f261 [[a],[b]]=ec a b:=by kernel_rfl
abbrev BV:FSig:=⟨.pure,false,[1],0,λl=>match l with | [[a],[b]]=>ec a b | _=>none⟩
def aak:ad->Option FSig:=aG AL BV aeh
def eV:Inl:=lA ab aak C0 A0 Tryz.f260
def iL:ad->Option FSig:=aG im ⟨.inl eV,false,[],0,λ_=>none⟩ <| aak
def js:Inl:=lA ab iL C0 A0 Tryz.f266
def yZ:ad->Option FSig:=aG im ⟨.inl eV,false,[],0,λ_=>none⟩ <| aG eO ⟨.inl js,false,[],0,λ_=>none⟩ <| aak
def AX:Ann:={ join:=(λr=>if r=1 then some [22] else if r=8 then some [42] else none),loop:=(λr=>if r=6 then ([(6,(.B 1)),(7,(.C eO [some 1])),(26,.I)],[[(6,(.B 1))],[(4,.I),(5,.I)]]) else ([],[])) }
theorem GV (a b:IV):run ab yZ C0 AX Tryz.f249 [[a],[b]]=l8 a b:=by kernel_rfl
abbrev Nr:FSig:=⟨.pure,false,[1,1],0,λl=>match l with | [[a],[b]]=>l8 a b | _=>none⟩
def aeN:ad->Option FSig:=aG Mh Nr aak
def A8:Ann:={ join:=(λr=>if r=13 then some [44] else if r=18 then some [65] else none),loop:=(λr=>if r=8 then ([(6,(.O [.imm,.imm])),(7,(.B 1)),(8,.I)],[[(7,(.B 1)),(8,.I)],[(4,.I),(5,.I)]]) else ([],[])) }
theorem GB (a b:IV):run ab aeN C0 A8 Tryz.f230 [[a],[b]]=ma a b:=by kernel_rfl
abbrev LI:FSig:=⟨.pure,false,[1,1],0,λl=>match l with | [[a],[b]]=>ma a b | _=>none⟩
def aeb:ad->Option FSig:=aG L5 LI aeN
theorem JF (a b:IV):run ab aeb C0 A0 Tryz.f229 [[a],[b]]=rq a b:=by kernel_rfl
abbrev PQ:FSig:=⟨.pure,false,[1],0,λl=>match l with | [[a],[b]]=>rq a b | _=>none⟩
def aet:ad->Option FSig:=aG N5 PQ aeb
def C1:Ann:={ loop:=(λr=>if r=3 then ([(3,.I),(8,.I)],[[(3,.I)]]) else ([],[])),scalar:=true }
theorem Jh (a:IV):run ab aet C0 C1 Tryz.f232 [[a]]=nZ a:=by kernel_rfl
abbrev PT:FSig:=⟨.pure,true,[1],0,λl=>match l with | [[a]]=>nZ a | _=>none⟩
def aeQ:ad->Option FSig:=aG OE PT aet
def Fh:Ann:={ join:=(λr=>if r=1 then some [2] else none),scalar:=true }
theorem M9 (a:IV):run ab aeQ C0 Fh Tryz.f141 [[a]]=mT a:=by kernel_rfl
abbrev Rm:FSig:=⟨.pure,true,[1],0,λl=>match l with | [[a]]=>mT a | _=>none⟩
def ae6:ad->Option FSig:=aG Rz Rm aeQ
def EH:Ann:={ loop:=(λr=>if r=2 then ([(0,.I),(1,.I),(8,.I)],[[(0,.I)]]) else if r=4 then ([(0,.I),(1,.I)],[[(0,.I),(1,.I)]]) else if r=7 then ([(0,.I),(1,.I)],[[(0,.I),(1,.I)]]) else ([],[])),scalar:=true }
theorem NA (a b:IV):run ab ae6 C0 EH Tryz.f199 [[a],[b]]=ka a b:=by kernel_rfl
abbrev Sb:FSig:=⟨.pure,true,[1],0,λl=>match l with | [[a],[b]]=>ka a b | _=>none⟩
def ae2:ad->Option FSig:=aG Sg Sb ae6
def FF:Ann:={ join:=(λr=>if r=4 then some [19] else none),scalar:=true }
theorem MK (a:IV):run ab ae2 C0 FF Tryz.f140 [[a]]=kb a:=by kernel_rfl
abbrev Rk:FSig:=⟨.pure,true,[1],0,λl=>match l with | [[a]]=>kb a | _=>none⟩
def aee:ad->Option FSig:=aG RE Rk ae2
theorem uu (a b:IV):run ab aee C0 A1 Tryz.f251 [[a],[b]]=qW a b:=by kernel_rfl
abbrev GM:FSig:=⟨.pure,true,[1],0,λl=>match l with | [[a],[b]]=>qW a b | _=>none⟩
def abW:ad->Option FSig:=aG fQ GM aee
def eX:Inl:=lA ab abW (cW) A0 Tryz.f250
def iV:ad->Option FSig:=aG iB ⟨.inl eX,false,[],0,λ_=>none⟩ <| abW
def ju:Inl:=lA ab iV (cW) A0 Tryz.f262
def zl:ad->Option FSig:=aG iB ⟨.inl eX,false,[],0,λ_=>none⟩ <| aG ff ⟨.inl ju,false,[],0,λ_=>none⟩ <| abW
def BQ:Ann:={ loop:=(λr=>if r=9 then ([(6,(.C ff [some 1,some 1])),(7,(.O [.imm,.imm])),(8,(.B 1)),(24,.I)],[[(7,(.O [.imm,.imm])),(8,(.B 1))],[(4,.I),(5,.I)]]) else ([],[])) }
theorem Ht (a b:IV):run ab zl (cW) BQ Tryz.f231 [[a],[b]]=lQ a b:=by kernel_rfl
abbrev MV:FSig:=⟨.pure,false,[1,1],0,λl=>match l with | [[a],[b]]=>lQ a b | _=>none⟩
def afc:ad->Option FSig:=aG Ng MV abW
theorem Jy (a b:IV):run ab afc C0 A0 Tryz.f171 [[a],[b]]=kW a b:=by kernel_rfl
abbrev PO:FSig:=⟨.pure,false,[1],0,λl=>match l with | [[a],[b]]=>kW a b | _=>none⟩
def aez:ad->Option FSig:=aG PU PO afc
theorem Pz (a b:IV):run ab aez C0 A1 Tryz.f233 [[a],[b]]=rB a b:=by kernel_rfl
abbrev Vc:FSig:=⟨.pure,true,[1],0,λl=>match l with | [[a],[b]]=>rB a b | _=>none⟩
def aad:ad->Option FSig:=aG US Vc aez
def ep:Ann:={ order:=(λr=>if r=8 then some ([],[0,1,2,3,4,5,6],[]) else none),loop:=(λr=>if r=4 then ([(2,(.K 2 [.buf 1])),(6,.I),(30,.I)],[[(2,(.K 2 [.buf 1]))]]) else ([],[])) }
def cN:Inl:=lA ab aad C0 ep Tryz.f228
def gU:ad->Option FSig:=aG jf ⟨.inl cN,false,[],0,λ_=>none⟩ <| aad
def iO:Inl:=VT ab gU C0 A0 m4 Tryz.f161
def uU:ad->Option FSig:=aG jf ⟨.inl cN,false,[],0,λ_=>none⟩ <| aG nG ⟨.inl iO,false,[],0,λ_=>none⟩ <| aad
theorem CB (a b:IV):run ab uU C0 A0 Tryz.f172 [[a],[b]]=av a b:=by kernel_rfl
abbrev Fy:FSig:=⟨.pure,false,[1,1],0,λl=>match l with | [[a],[b]]=>av a b | _=>none⟩
def aeL:ad->Option FSig:=aG FJ Fy aad
def H0:Ann:={ join:=(λr=>if r=1 then some [19] else if r=7 then some [32] else none),scalar:=true }
theorem NQ (a b c:IV):run ab aeL C0 H0 Tryz.f137 [[a],[b],[c]]=o5 a b c:=by kernel_rfl
abbrev TH:FSig:=⟨.pure,true,[1,1,1],0,λl=>match l with | [[a],[b],[c]]=>o5 a b c | _=>none⟩
def afd:ad->Option FSig:=aG V7 TH aeL
def L9:Ann:={ order:=(λr=>if r=4 then some ([],[0,1,2,3,4,5,6,7,8,9,10,11,12,13,14,15,16,17],[]) else none),join:=(λr=>if r=4 then some [29] else none),loop:=(λr=>if r=2 then ([(7,.I)],[[],[(2,.I)]]) else ([],[])),scalar:=true }
theorem R4 (a:IV):run ab afd C0 L9 Tryz.f247 [[a]]=ui a:=by kernel_rfl
abbrev Xi:FSig:=⟨.pure,true,[1],0,λl=>match l with | [[a]]=>ui a | _=>none⟩
def afs:ad->Option FSig:=aG Xc Xi afd
def qf:Ann:={ order:=(λr=>if r=9 then some ([0],[1,2,3,4,5,6],[7,8,9]) else none),join:=(λr=>if r=4 then some [26] else none),loop:=(λr=>if r=8 then ([(7,(.B 1)),(8,.I)],[[(7,(.B 1))]]) else ([],[])) }
theorem wO (a b:IV):run ab afs C0 qf Tryz.f248 [[a],[b]]=dk a b:=by kernel_rfl
abbrev xK:FSig:=⟨.pure,false,[1],0,λl=>match l with | [[a],[b]]=>dk a b | _=>none⟩
def aeq:ad->Option FSig:=aG yw xK afs
def Dx:Ann:={ join:=(λr=>if r=1 then some [15] else none),loop:=(λr=>if r=5 then ([(6,(.B 1)),(18,.I)],[[(6,(.B 1))],[(4,.I),(5,.I)]]) else ([],[])) }
theorem Kg (a b:IV):run ab aeq C0 Dx Tryz.f225 [[a],[b]]=nO a b:=by kernel_rfl
abbrev Pb:FSig:=⟨.pure,false,[1,1],0,λl=>match l with | [[a],[b]]=>nO a b | _=>none⟩
def afF:ad->Option FSig:=aG O7 Pb aeq
def Dq:Ann:={ join:=(λr=>if r=14 then some [59] else none),loop:=(λr=>if r=8 then ([(6,(.O [.imm,.imm])),(7,(.B 2)),(8,.I)],[[(7,(.B 2)),(8,.I)],[(4,.I),(5,.I)]]) else ([],[])) }
theorem JZ (a b:IV):run ab afF C0 Dq Tryz.f168 [[a],[b]]=kM a b:=by kernel_rfl
abbrev OX:FSig:=⟨.pure,false,[1,1],0,λl=>match l with | [[a],[b]]=>kM a b | _=>none⟩
def aea:ad->Option FSig:=aG NZ OX afF
def M4:Ann:={ join:=(λr=>if r=5 then some [26] else if r=15 then some [4] else none),loop:=(λr=>if r=3 then ([(5,.I),(13,.I)],[[(5,.I)],[(4,.I)]]) else if r=11 then ([(8,.M),(35,.I)],[[(8,.M)]]) else ([],[])),scalar:=true }
theorem RO (a b:IV):run ab aea C0 M4 Tryz.f226 [[a],[b]]=uO a b:=by kernel_rfl
abbrev Xk:FSig:=⟨.pure,true,[1],0,λl=>match l with | [[a],[b]]=>uO a b | _=>none⟩
def afC:ad->Option FSig:=aG Xx Xk aea
def Io:Ann:={ order:=(λr=>if r=5 then some ([],[0,1,2,3,4,5,6,7,8,9,10,11,12,13],[14,15,16]) else none),loop:=(λr=>if r=3 then ([(6,(.B 1)),(14,.I)],[[(6,(.B 1))],[(4,.I),(5,.I)]]) else ([],[])) }
theorem Oe (a b:IV):run ab afC C0 Io Tryz.f227 [[a],[b]]=rG a b:=by kernel_rfl
abbrev Vr:FSig:=⟨.pure,false,[1,1],0,λl=>match l with | [[a],[b]]=>rG a b | _=>none⟩
def aeK:ad->Option FSig:=aG UF Vr afC
def CQ:Ann:={ loop:=(λr=>if r=15 then ([(11,(.B 1)),(12,.I),(47,.I)],[[(11,(.B 1)),(12,.I)],[(6,.I),(7,.I)]]) else ([],[])) }
theorem J0 (a b c:IV):run ab aeK C0 CQ Tryz.f170 [[a],[b],[c]]=bW a b c:=by kernel_rfl
abbrev P3:FSig:=⟨.pure,false,[1,1],0,λl=>match l with | [[a],[b],[c]]=>bW a b c | _=>none⟩
def aeo:ad->Option FSig:=aG PR P3 aeK
theorem Sl (a:IV):run ab aeo C0 A1 Tryz.f246 [[a]]=qy a:=by kernel_rfl
abbrev X1:FSig:=⟨.pure,true,[1],0,λl=>match l with | [[a]]=>qy a | _=>none⟩
def ady:ad->Option FSig:=aG X4 X1 aeo
theorem Cq (a b:IV):runM ab ady C0 A0 [.imm,.imm] Tryz.f223 [a,b] []=gP a b:=by kernel_rfl
theorem xq:run ab ady C0 A0 Tryz.f223 [[.nilp]]=sL:=by kernel_rfl
abbrev Ff:FSig:=⟨.obj [.imm,.imm],false,[1],0,λl=>match l with | [[a,b]]=>gP a b | [[a]]=>EJ a (sL) | _=>none⟩
def aeU:ad->Option FSig:=aG vY Ff ady
def Fq:Ann:={ loop:=(λr=>if r=4 then ([(3,(.B 1)),(4,.I),(9,.I)],[[(3,(.B 1))]]) else ([],[])) }
theorem LZ (a:IV):run ab aeU C0 Fq Tryz.f224 [[a]]=pR a:=by kernel_rfl
abbrev Tq:FSig:=⟨.pure,false,[1],0,λl=>match l with | [[a]]=>pR a | _=>none⟩
def ad9:ad->Option FSig:=aG RT Tq aeU
def Bo:Ann:={ loop:=(λr=>if r=8 then ([(6,(.O [.imm,.imm])),(7,(.B 1)),(20,.I)],[[(6,(.O [.imm,.imm])),(7,(.B 1))]]) else ([],[])) }
theorem Hj (a b:IV):run ab ad9 C0 Bo Tryz.f166 [[a],[b]]=bt a b:=by kernel_rfl
abbrev M1:FSig:=⟨.pure,false,[1,1],0,λl=>match l with | [[a],[b]]=>bt a b | _=>none⟩
def Tu:ad->Option FSig:=aG NG M1 ad9
def aV:Inl:=lA ab Tu C0 A0 Tryz.f212
def gX:ad->Option FSig:=aG cT ⟨.inl aV,false,[],0,λ_=>none⟩ <| Tu
def bp:Inl:=lA ab gX C0 A0 Tryz.f213
def fZ:ad->Option FSig:=aG cT ⟨.inl aV,false,[],0,λ_=>none⟩ <| aG cI ⟨.inl bp,false,[],0,λ_=>none⟩ <| Tu
def bF:Inl:=lA ab fZ C0 A0 Tryz.f215
def fE:ad->Option FSig:=aG cT ⟨.inl aV,false,[],0,λ_=>none⟩ <| aG cI ⟨.inl bp,false,[],0,λ_=>none⟩ <| aG eE ⟨.inl bF,false,[],0,λ_=>none⟩ <| Tu
def b8:Inl:=lA ab fE C0 A0 Tryz.f214
def fY:ad->Option FSig:=aG cT ⟨.inl aV,false,[],0,λ_=>none⟩ <| aG cI ⟨.inl bp,false,[],0,λ_=>none⟩ <| aG eE ⟨.inl bF,false,[],0,λ_=>none⟩ <| aG gr ⟨.inl b8,false,[],0,λ_=>none⟩ <| Tu
def dg:Inl:=lA ab fY C0 A0 Tryz.f217
def fh:ad->Option FSig:=aG cT ⟨.inl aV,false,[],0,λ_=>none⟩ <| aG cI ⟨.inl bp,false,[],0,λ_=>none⟩ <| aG eE ⟨.inl bF,false,[],0,λ_=>none⟩ <| aG gr ⟨.inl b8,false,[],0,λ_=>none⟩ <| aG lq ⟨.inl dg,false,[],0,λ_=>none⟩ <| Tu
def fB:Inl:=lA ab fh C0 A0 Tryz.f216
def xu:ad->Option FSig:=aG cT ⟨.inl aV,false,[],0,λ_=>none⟩ <| aG cI ⟨.inl bp,false,[],0,λ_=>none⟩ <| aG eE ⟨.inl bF,false,[],0,λ_=>none⟩ <| aG gr ⟨.inl b8,false,[],0,λ_=>none⟩ <| aG lq ⟨.inl dg,false,[],0,λ_=>none⟩ <| aG nc ⟨.inl fB,false,[],0,λ_=>none⟩ <| Tu
def y7:Ann:={ order:=(λr=>if r=3 then some ([3,4],[0,1],[2,5,6,7]) else if r=7 then some ([],[0,1,2,3,4,5],[]) else if r=12 then some ([],[0,1,2,3,4,5,6,7,8,9,10,11,12,13,14,15,16,17],[18]) else none),loop:=(λr=>if r=10 then ([(10,(.B 4)),(41,.I)],[[(10,.I)],[(2,.I),(3,.I)]]) else ([],[])) }
theorem Fg (a:IV):run ab xu C0 y7 Tryz.f159 [[a]]=kC a:=by kernel_rfl
abbrev JJ:FSig:=⟨.pure,false,[1,1],0,λl=>match l with | [[a]]=>kC a | _=>none⟩
def Zl:ad->Option FSig:=aG Jj JJ Tu
def bV:Inl:=lA ab Zl C0 A0 Tryz.f219
def gC:ad->Option FSig:=aG fS ⟨.inl bV,false,[],0,λ_=>none⟩ <| Zl
def dv:Inl:=lA ab gC C0 A0 Tryz.f213
def gF:ad->Option FSig:=aG fS ⟨.inl bV,false,[],0,λ_=>none⟩ <| aG cI ⟨.inl dv,false,[],0,λ_=>none⟩ <| Zl
def ig:Inl:=lA ab gF C0 A0 Tryz.f220
def vw:ad->Option FSig:=aG fS ⟨.inl bV,false,[],0,λ_=>none⟩ <| aG cI ⟨.inl dv,false,[],0,λ_=>none⟩ <| aG sb ⟨.inl ig,false,[],0,λ_=>none⟩ <| Zl
def xe:Ann:={ order:=(λr=>if r=3 then some ([3,4],[0,1],[2,5,6,7]) else if r=5 then some ([],[0,1,2,3,4,5],[]) else if r=10 then some ([],[0,1,2,3,4,5,6,7,8,9,10],[11,12]) else none),loop:=(λr=>if r=8 then ([(8,(.B 2)),(32,.I)],[[(8,.I)]]) else ([],[])) }
theorem Eh (a:IV):run ab vw C0 xe Tryz.f160 [[a]]=jq a:=by kernel_rfl
abbrev Hs:FSig:=⟨.pure,false,[1,1],0,λl=>match l with | [[a]]=>jq a | _=>none⟩
def aew:ad->Option FSig:=aG Hg Hs Zl
def Da:Ann:={ join:=(λr=>if r=1 then some [33] else if r=7 then some [51] else none) }
theorem JR (a:IV):run ab aew C0 Da Tryz.f94 [[a]]=nU a:=by kernel_rfl
abbrev PZ:FSig:=⟨.pure,false,[5,1],0,λl=>match l with | [[a]]=>nU a | _=>none⟩
def aeM:ad->Option FSig:=aG Pq PZ aew
theorem JW (a:IV):run ab aeM C0 A1 Tryz.f163 [[a]]=nS a:=by kernel_rfl
abbrev Po:FSig:=⟨.pure,true,[1],0,λl=>match l with | [[a]]=>nS a | _=>none⟩
def aes:ad->Option FSig:=aG OB Po aeM
theorem Ki (a b:IV):run ab aes C0 A0 Tryz.f165 [[a],[b]]=kU a b:=by kernel_rfl
abbrev N0:FSig:=⟨.pure,false,[1],0,λl=>match l with | [[a],[b]]=>kU a b | _=>none⟩
def aeJ:ad->Option FSig:=aG Oc N0 aes
theorem Jp (a b:IV):run ab aeJ C0 A0 Tryz.f167 [[a],[b]]=rb a b:=by kernel_rfl
abbrev NU:FSig:=⟨.pure,false,[1],0,λl=>match l with | [[a],[b]]=>rb a b | _=>none⟩
def afy:ad->Option FSig:=aG NR NU aeJ
theorem Jr (a b:IV):run ab afy C0 A0 Tryz.f169 [[a],[b]]=re a b:=by kernel_rfl
abbrev Pv:FSig:=⟨.pure,false,[1],0,λl=>match l with | [[a],[b]]=>re a b | _=>none⟩
def abT:ad->Option FSig:=aG NV Pv afy
def iQ:Ann:={ order:=(λr=>if r=10 then some ([],[0,1,2,3,4,5,6,7,8,9,10,11,12,13,14,15,16,17,18,19,20,21,22,23,24,25,26,27],[28]) else none),loop:=(λr=>if r=8 then ([(1,(.K 1 [.buf 6])),(77,.I)],[[(1,(.K 1 [.buf 6]))]]) else ([],[])) }
def dG:Inl:=lA ab abT C0 iQ Tryz.f162
def jH:ad->Option FSig:=aG mQ ⟨.inl dG,false,[],0,λ_=>none⟩ <| abT
def ko:Inl:=VT ab jH C0 A0 m4 Tryz.f161
def zh:ad->Option FSig:=aG mQ ⟨.inl dG,false,[],0,λ_=>none⟩ <| aG nG ⟨.inl ko,false,[],0,λ_=>none⟩ <| abT
def BL:Ann:={ loop:=(λr=>if r=4 then ([(13,.I)],[[],[(2,.I),(3,.I)]]) else ([],[])) }
theorem HJ (a:IV):run ab zh C0 BL Tryz.f96 [[a]]=lN a:=by kernel_rfl
abbrev MW:FSig:=⟨.pure,false,[1,1],0,λl=>match l with | [[a]]=>lN a | _=>none⟩
def Sr:ad->Option FSig:=aG Lh MW abT
def kE:Ann:={ join:=(λr=>if r=2 then some [19] else none) }
def bk:Inl:=lA ab Sr C0 kE Tryz.f90
def jO:ad->Option FSig:=aG dA ⟨.inl bk,false,[],0,λ_=>none⟩ <| Sr
def kJ:Ann:={ join:=(λr=>if r=2 then some [23] else none) }
def bH:Inl:=lA ab jO C0 kJ Tryz.f91
def jQ:ad->Option FSig:=aG dA ⟨.inl bk,false,[],0,λ_=>none⟩ <| aG eL ⟨.inl bH,false,[],0,λ_=>none⟩ <| Sr
def cq:Inl:=lA ab jQ C0 A0 Tryz.f93
def jL:ad->Option FSig:=aG dA ⟨.inl bk,false,[],0,λ_=>none⟩ <| aG eL ⟨.inl bH,false,[],0,λ_=>none⟩ <| aG gJ ⟨.inl cq,false,[],0,λ_=>none⟩ <| Sr
def cY:Inl:=lA ab jL C0 A0 Tryz.f95
def jN:ad->Option FSig:=aG dA ⟨.inl bk,false,[],0,λ_=>none⟩ <| aG eL ⟨.inl bH,false,[],0,λ_=>none⟩ <| aG gJ ⟨.inl cq,false,[],0,λ_=>none⟩ <| aG kf ⟨.inl cY,false,[],0,λ_=>none⟩ <| Sr
def fe:Inl:=lA ab jN C0 A0 Tryz.f97
def lx:ad->Option FSig:=aG dA ⟨.inl bk,false,[],0,λ_=>none⟩ <| aG eL ⟨.inl bH,false,[],0,λ_=>none⟩ <| aG gJ ⟨.inl cq,false,[],0,λ_=>none⟩ <| aG kf ⟨.inl cY,false,[],0,λ_=>none⟩ <| aG om ⟨.inl fe,false,[],0,λ_=>none⟩ <| Sr
def lW:Inl:=lA ab lx C0 A0 Tryz.f49
def Dt:ad->Option FSig:=aG dA ⟨.inl bk,false,[],0,λ_=>none⟩ <| aG eL ⟨.inl bH,false,[],0,λ_=>none⟩ <| aG gJ ⟨.inl cq,false,[],0,λ_=>none⟩ <| aG kf ⟨.inl cY,false,[],0,λ_=>none⟩ <| aG om ⟨.inl fe,false,[],0,λ_=>none⟩ <| aG wL ⟨.inl lW,false,[],0,λ_=>none⟩ <| Sr
def FI:Ann:={ unroll:=(λr=>if r=4 then 6 else 0) }
theorem Lm (a:IV):run ab Dt C0 FI Tryz.f22 [[a]]=mP a:=by kernel_rfl
abbrev S8:FSig:=⟨.pure,false,[5,1],0,λl=>match l with | [[a]]=>mP a | _=>none⟩
def adz:ad->Option FSig:=aG Sz S8 Sr
theorem zM (f g h i j k l m n o a b c d e:IV):runM ab adz C0 A0 [.buf 5,.buf 6] Tryz.f45 [f,g] [[h,i,j,k,l],[m,n,o,a,b,c,d,e]]=je f g h i j k l m n o a b c d e:=by kernel_rfl
theorem vh (d e f g h i j k l m a b c:IV):run ab adz C0 A0 Tryz.f45 [[.nilp],[d,e,f,g,h],[i,j,k,l,m,a,b,c]]=lh d e f g h i j k l m a b c:=by kernel_rfl
abbrev CC:FSig:=⟨.obj [.buf 5,.buf 6],false,[5,1],0,λl=>match l with | [[f,p],[g,h,i,j,k],[m,n,o,a,b,c,d,e]]=>je f p g h i j k m n o a b c d e | [[f],[g,h,i,j,k],[m,n,o,a,b,c,d,e]]=>EJ f (lh g h i j k m n o a b c d e) | _=>none⟩
def afb:ad->Option FSig:=aG sK CC adz
def C2:Ann:={ join:=(λr=>if r=1 then some [4] else none),scalar:=true }
theorem Jm (a b c d e f g:IV):run ab afb C0 C2 Tryz.f88 [[a],[b,c,d,e,f,g]]=nL a b c d e f g:=by kernel_rfl
abbrev Pn:FSig:=⟨.pure,true,[1],0,λl=>match l with | [[a],[b,c,d,e,f,g]]=>nL a b c d e f g | _=>none⟩
def aeY:ad->Option FSig:=aG OS Pn afb
theorem TN (a b c d e f g:IV):run ab aeY C0 A0 Tryz.f48 [[a],[b,c,d,e,f,g]]=wV a b c d e f g:=by kernel_rfl
abbrev Zc:FSig:=⟨.pure,false,[1,1],0,λl=>match l with | [[a],[b,c,d,e,f,g]]=>wV a b c d e f g | _=>none⟩
def aeI:ad->Option FSig:=aG Z0 Zc aeY
def Np:Ann:={ loop:=(λr=>if r=2 then ([(0,.I),(9,.I)],[[(0,.I)]]) else ([],[])) }
theorem SV (a b:IV):run ab aeI C0 Np Tryz.f16 [[a],[b]]=qC a b:=by kernel_rfl
abbrev XF:FSig:=⟨.pure,false,[1],0,λl=>match l with | [[a],[b]]=>qC a b | _=>none⟩
def ae1:ad->Option FSig:=aG Xv XF aeI
def CZ:Ann:={ order:=(λr=>if r=6 then some ([],[0,1,2,3,4,5,6,7,8,9,10,11,12],[13]) else if r=7 then some ([1],[0,2],[3,4,5]) else none),join:=(λr=>if r=1 then some [7] else none) }
theorem JH (a b c d e f g:IV):run ab ae1 C0 CZ Tryz.f82 [[a,b,c,d,e],[f,g]]=k9 a b c d e f g:=by kernel_rfl
abbrev Pt:FSig:=⟨.pure,false,[5,1],0,λl=>match l with | [[a,b,c,d,e],[f,g]]=>k9 a b c d e f g | _=>none⟩
def adk:ad->Option FSig:=aG On Pt ae1
theorem AF (f g h i j k l m n o a b c d e:IV):runM ab adk C0 A0 [.buf 5,.buf 6] Tryz.f44 [f,g] [[h,i,j,k,l],[m,n,o,a,b,c,d,e]]=gi f g h i j k l m n o a b c d e:=by kernel_rfl
theorem wP (d e f g h i j k l m a b c:IV):run ab adk C0 A0 Tryz.f44 [[.nilp],[d,e,f,g,h],[i,j,k,l,m,a,b,c]]=lK d e f g h i j k l m a b c:=by kernel_rfl
abbrev DU:FSig:=⟨.obj [.buf 5,.buf 6],false,[5,1],0,λl=>match l with | [[f,p],[g,h,i,j,k],[m,n,o,a,b,c,d,e]]=>gi f p g h i j k m n o a b c d e | [[f],[g,h,i,j,k],[m,n,o,a,b,c,d,e]]=>EJ f (lK g h i j k m n o a b c d e) | _=>none⟩
def adF:ad->Option FSig:=aG uv DU adk
def E4:Ann:={ loop:=(λr=>if r=2 then ([(11,.I)],[[],[(6,.I)]]) else ([],[])),scalar:=true }
theorem MT (C:IV->List Nat->List (List IV)->Option (List IV)) (a b c d:IV):run ab adF C E4 Tryz.f83 [[a],[b,c],[d]]=jR C a b c d:=by kernel_rfl
theorem vC (a b c d e f g h:IV):run ab adF C0 A1 Tryz.f84 [[a,b],[c,d,e,f,g,h]]=kD a b c d e f g h:=by kernel_rfl
abbrev J9:FSig:=⟨.pure,true,[1],0,λl=>match l with | [[a,b],[c,d,e,f,g,h]]=>kD a b c d e f g h | _=>none⟩
def aer:ad->Option FSig:=aG oo J9 adF
def y2:ad->Option FSig:=aG xQ ⟨.pure,true,[1],0,λl=>match l with | [[a],[b,c],[d]]=>jR (gK) a b c d | _=>none⟩ <| aer
def z5:Ann:={ order:=(λr=>if r=6 then some ([6],[0,1,2,3,4],[5,7,8,9]) else none) }
theorem Hw (a b c d e f g:IV):run ab y2 (gK) z5 Tryz.f46 [[a],[b,c,d,e,f,g]]=jo a b c d e f g:=by kernel_rfl
abbrev Nz:FSig:=⟨.pure,false,[1,1,1],0,λl=>match l with | [[a],[b,c,d,e,f,g]]=>jo a b c d e f g | _=>none⟩
def ael:ad->Option FSig:=aG LF Nz aer
def IK:Ann:={ join:=(λr=>if r=1 then some [11] else if r=9 then some [57] else none) }
theorem O4 (b c d e f g h i j k a:IV):run ab ael C0 IK Tryz.f25 [[b,c,d,e,f],[g,h,i,j,k,a]]=lP b c d e f g h i j k a:=by kernel_rfl
abbrev Wi:FSig:=⟨.pure,false,[5,1,1],0,λl=>match l with | [[b,c,d,e,f],[g,h,i,j,k,a]]=>lP b c d e f g h i j k a | _=>none⟩
def adP:ad->Option FSig:=aG VX Wi ael
def mA:Ann:={ order:=(λr=>if r=1 then some ([],[0,1,2,3,4,5,6,7,8,9,10,11,12],[]) else if r=3 then some ([12,13],[0,1,2,3,4,5,6,7,8,9,10,11],[14,15,16]) else none),join:=(λr=>if r=1 then some [22] else none) }
theorem yD (f g h i j k l m n o a b c d e:IV):runM ab adP C0 mA [.buf 5,.buf 6] Tryz.f43 [f,g] [[h,i,j,k,l],[m,n,o,a,b,c,d,e]]=df f g h i j k l m n o a b c d e:=by kernel_rfl
theorem tK (d e f g h i j k l m a b c:IV):run ab adP C0 mA Tryz.f43 [[.nilp],[d,e,f,g,h],[i,j,k,l,m,a,b,c]]=j4 d e f g h i j k l m a b c:=by kernel_rfl
abbrev Ap:FSig:=⟨.obj [.buf 5,.buf 6],false,[5,1],0,λl=>match l with | [[f,p],[g,h,i,j,k],[m,n,o,a,b,c,d,e]]=>df f p g h i j k m n o a b c d e | [[f],[g,h,i,j,k],[m,n,o,a,b,c,d,e]]=>EJ f (j4 g h i j k m n o a b c d e) | _=>none⟩
def ae9:ad->Option FSig:=aG rQ Ap adP
def Fb:Ann:={ join:=(λr=>if r=8 then some [38] else none),loop:=(λr=>if r=3 then ([(8,(.B 1)),(17,.I)],[[(8,(.B 1))]]) else ([],[])),scalar:=true }
theorem KN (a b c d:IV):run ab ae9 C0 Fb Tryz.f81 [[a],[b,c],[d]]=pY a b c d:=by kernel_rfl
abbrev Sd:FSig:=⟨.pure,true,[2,1],0,λl=>match l with | [[a],[b,c],[d]]=>pY a b c d | _=>none⟩
def aeP:ad->Option FSig:=aG SU Sd ae9
def tU:Ann:={ order:=(λr=>if r=7 then some ([0],[1,2,3,4,5,6],[7,8,9,10]) else none) }
theorem Aj (f g h i j k l m n o a b c d e:IV):runM ab aeP C0 tU [.buf 5,.buf 6] Tryz.f42 [f,g] [[h,i,j,k,l],[m,n,o,a,b,c,d,e]]=dP f g h i j k l m n o a b c d e:=by kernel_rfl
abbrev DG:FSig:=⟨.obj [.buf 5,.buf 6],false,[5,1],0,λl=>match l with | [[f,g],[h,i,j,k,m],[n,o,p,a,b,c,d,e]]=>dP f g h i j k m n o p a b c d e | _=>none⟩
def ada:ad->Option FSig:=aG uI DG aeP
def pV:Ann:={ order:=(λr=>if r=10 then some ([],[0,1,2,3,4,5,6,7,8],[9]) else none),unroll:=(λr=>if r=5 then 5 else 0) }
theorem Cs (a b c d e f g h i j:IV):runM ab ada C0 pV [.buf 5,.buf 6] Tryz.f12 [a,b] [[c,d,e,f,g,h,i,j]]=aL a b c d e f g h i j:=by kernel_rfl
theorem wQ (a b c d e f g h:IV):run ab ada C0 pV Tryz.f12 [[.nilp],[a,b,c,d,e,f,g,h]]=jg a b c d e f g h:=by kernel_rfl
abbrev EG:FSig:=⟨.obj [.buf 5,.buf 6],false,[1],0,λl=>match l with | [[a,j],[b,c,d,e,f,g,h,i]]=>aL a j b c d e f g h i | [[a],[b,c,d,e,f,g,h,i]]=>EJ a (jg b c d e f g h i) | _=>none⟩
def afv:ad->Option FSig:=aG vq EG ada
theorem Ld (a b c d e:IV):run ab afv C0 A0 Tryz.f24 [[a,b,c,d,e]]=mL a b c d e:=by kernel_rfl
abbrev Ri:FSig:=⟨.pure,false,[1],0,λl=>match l with | [[a,b,c,d,e]]=>mL a b c d e | _=>none⟩
def adl:ad->Option FSig:=aG Sa Ri afv
theorem Cv (a b c:IV):runM ab adl C0 A0 [.buf 5,.buf 6] Tryz.f15 [a,b] [[c]]=eH a b c:=by kernel_rfl
theorem xi (a:IV):run ab adl C0 A0 Tryz.f15 [[.nilp],[a]]=iZ a:=by kernel_rfl
abbrev FW:FSig:=⟨.obj [.buf 5,.buf 6],false,[1],0,λl=>match l with | [[a,c],[b]]=>eH a c b | [[a],[b]]=>EJ a (iZ b) | _=>none⟩
def aec:ad->Option FSig:=aG vO FW adl
def FL:Ann:={ order:=(λr=>if r=6 then some ([],[0,1,2,3,4,5,6,7,8],[]) else none),loop:=(λr=>if r=4 then ([(5,.I)],[[],[(4,.I)]]) else ([],[])),scalar:=true }
def yG (a b:IV):Option (List IV):=run ab aec C0 FL Tryz.f40 [[a],[b]]
abbrev Rq:FSig:=⟨.pure,true,[1],0,λl=>match l with | [[a],[b]]=>yG a b | _=>none⟩
def aaO:ad->Option FSig:=aG RR Rq aec
def rz (b:List IV):Option SR:=
 (aa .lss (nth b 1) (.int .i64 (4:Nat))).bind λd=>
 ae d (λ_=>
 (bU 4 (nth b 1)).bind λe=>
 (eo (.lst [[.int .i64 1,.int .i64 1,.int .i64 0,.int .i64 0,.int .i64 0,.int .i64 1,(.str ⟨#[97]⟩),.flt .f64 0],[.int .i64 2,.int .i64 2,.int .i64 0,.int .i64 0,.int .i64 0,.int .i64 0,(.str ⟨#[]⟩),.flt .f64 0],[.int .i64 4,.int .i64 2,.int .i64 0,.int .i64 0,.int .i64 0,.int .i64 0,(.str ⟨#[]⟩),.flt .f64 0],[.int .i64 1,.int .i64 2,.int .i64 0,.int .i64 0,.int .i64 1,.int .i64 2,(.str ⟨#[]⟩),.flt .f64 0]]) e 0 8).bind λa=>
 (jg (nth a 0) (nth a 1) (nth a 2) (nth a 3) (nth a 4) (nth a 5) (nth a 6) (nth a 7)).bind λf=>
 (bS 1 8 (nth b 0) (.lst [[nth f 0]])).bind λg=>
 (aa .add (nth b 1) (.int .i64 1)).bind λc=>
 some (.next [g,c])) (λ_=>
 some (.done 0 [nth b 0]))
def xz (a:List IV):Option SR:=
 (aa .lss (nth a 3) (.int .i64 (4:Nat))).bind λd=>
 ae d (λ_=>
 (bU 4 (nth a 3)).bind λe=>
 (eo (.lst [[.int .i64 1,.int .i64 1,.int .i64 0,.int .i64 0,.int .i64 0,.int .i64 1,(.str ⟨#[97]⟩),.flt .f64 0],[.int .i64 2,.int .i64 2,.int .i64 0,.int .i64 0,.int .i64 0,.int .i64 0,(.str ⟨#[]⟩),.flt .f64 0],[.int .i64 4,.int .i64 2,.int .i64 0,.int .i64 0,.int .i64 0,.int .i64 0,(.str ⟨#[]⟩),.flt .f64 0],[.int .i64 1,.int .i64 2,.int .i64 0,.int .i64 0,.int .i64 1,.int .i64 2,(.str ⟨#[]⟩),.flt .f64 0]]) e 0 8).bind λb=>
 (aL (nth a 0) (nth a 1) (nth b 0) (nth b 1) (nth b 2) (nth b 3) (nth b 4) (nth b 5) (nth b 6) (nth b 7)).bind λc=>
 (bS 1 8 (nth a 2) (.lst [[(nth (c.drop 2) 0)]])).bind λf=>
 (aa .add (nth a 3) (.int .i64 1)).bind λg=>
 some (.next [nth c 0,nth c 1,f,g])) (λ_=>
 some (.done 0 [nth a 0,nth a 1,nth a 2]))
def o4:Option (List IV):=
 ((aa .lss (.int .i64 2) (.int .i64 1)).bind λu=>
 ae u (λ_=>
 some [.bool true]) (λ_=>
 (aa .gtr (.int .i64 2) (.int .i64 8)).bind λv=>
 some [v])).bind λw=>
 ae (nth w 0) (λ_=>
 (iter rounds (rz) [.lst [],.int .i64 0]).bind λb=>
 fg b.1 [(some [.bool true]).bind λe=>
 ae (nth e 0) (λ_=>
 aw [.bool false]) (λ_=>
 (iZ (.int .i64 2)).bind λf=>
 (AZ (nth f 0) (.int .i64 2)).bind λc=>
 ((bU (cj (nth b.2 0)) (.int .i64 3)).bind λg=>
 (dh (nth b.2 0) g 0).bind λh=>
 (aa .eql h (.int .i64 0)).bind λi=>
 ae i (λ_=>
 ae (nth c 1) (λ_=>
 (yG (nth c 0) (.lst [[.int .i64 2],[.int .i64 1],[.int .i64 0]])).bind λj=>
 some [nth j 0]) (λ_=>
 some [.bool false])) (λ_=>
 some [.bool false])).bind λk=>
 aw [nth k 0])]) (λ_=>
 (lr 88 [.lst [],.int .i64 0,.int .i64 0,.lst [],.lst []] (.int .i64 2) (.int .i64 2)).bind λl=>
 (iter rounds (xz) [l,.lst [],.lst [],.int .i64 0]).bind λa=>
 fg a.1 [((aa .neq (.int .i64 ((cj (nth a.2 2)):Nat)) (.int .i64 4)).bind λm=>
 some [m]).bind λn=>
 ae (nth n 0) (λ_=>
 aw [.bool false]) (λ_=>
 (eH (nth a.2 0) (nth a.2 1) (.int .i64 2)).bind λo=>
 (AZ (nth (o.drop 2) 0) (.int .i64 2)).bind λd=>
 ((bU (cj (nth a.2 2)) (.int .i64 3)).bind λp=>
 (dh (nth a.2 2) p 0).bind λq=>
 (aa .eql q (.int .i64 0)).bind λr=>
 ae r (λ_=>
 ae (nth d 1) (λ_=>
 (yG (nth d 0) (.lst [[.int .i64 2],[.int .i64 1],[.int .i64 0]])).bind λs=>
 some [nth s 0]) (λ_=>
 some [.bool false])) (λ_=>
 some [.bool false])).bind λt=>
 aw [nth t 0])])
def pO:Ann:={ join:=(λr=>if r=1 then some [8] else none) }
def j7:Inl:=lA ab aaO C0 pO Tryz.f10
def o7:ad->Option FSig:=aG oA ⟨.inl j7,false,[],0,λ_=>none⟩ <| aaO
def pI:Ann:={ loop:=(λr=>if r=4 then ([(6,(.O [.buf 5,.buf 6])),(7,(.B 1)),(14,.I)],[[(6,(.O [.buf 5,.buf 6])),(7,(.B 1))]]) else ([],[])),alt:=(λr=>if r=4 then some (6,[(7,(.B 1)),(14,.I)],[[(7,(.B 1))]]) else none) }
def pD:Inl:=lA ab o7 C0 pI Tryz.f27
def Gk:ad->Option FSig:=aG oA ⟨.inl j7,false,[],0,λ_=>none⟩ <| aG u7 ⟨.inl pD,false,[],0,λ_=>none⟩ <| aaO
def I4:Ann:={ join:=(λr=>if r=2 then some [20] else if r=5 then some [0] else none),scalar:=true }
theorem PG:run ab Gk C0 I4 Tryz.f9 []=o4:=by kernel_rfl
abbrev UC:FSig:=⟨.pure,true,[1],0,λl=>match l with | []=>o4 | _=>none⟩
def acL:ad->Option FSig:=aG Va UC aaO
theorem CM (a b:IV):runM ab acL C0 A0 [.buf 5,.buf 6] Tryz.f11 [a,b] []=eG a b:=by kernel_rfl
theorem xD:run ab acL C0 A0 Tryz.f11 [[.nilp]]=jh:=by kernel_rfl
abbrev EW:FSig:=⟨.obj [.buf 5,.buf 6],false,[1],0,λl=>match l with | [[a,b]]=>eG a b | [[a]]=>EJ a (jh) | _=>none⟩
def aex:ad->Option FSig:=aG vR EW acL
def Dy:Ann:={ loop:=(λr=>if r=2 then ([(0,.I),(9,.I)],[[(0,.I)]]) else ([],[])) }
theorem Kh (a b:IV):run ab aex C0 Dy Tryz.f13 [[a],[b]]=iD a b:=by kernel_rfl
abbrev Ot:FSig:=⟨.pure,false,[1],0,λl=>match l with | [[a],[b]]=>iD a b | _=>none⟩
def afg:ad->Option FSig:=aG PD Ot aex
def LP:Ann:={ loop:=(λr=>if r=3 then ([(3,(.O [.sn 123 2,.buf 1 (some 5)])),(17,.I)],[[(3,(.O [.sn 123 2,.buf 1 (some 5)]))]]) else ([],[])),scalar:=true }
theorem S3 (a b c d e f:IV):run ab afg C0 LP Tryz.f61 [[a,b,c,d,e,f]]=tA a b c d e f:=by kernel_rfl
abbrev WG:FSig:=⟨.pure,true,[1],0,λl=>match l with | [[a,b,c,d,e,f]]=>tA a b c d e f | _=>none⟩
def aeG:ad->Option FSig:=aG WU WG afg
def Dv:Ann:={ loop:=(λr=>if r=7 then ([(4,(.O [.sn 123 2,.buf 1 (some 5)])),(18,.I)],[[(4,(.O [.sn 123 2,.buf 1 (some 5)]))]]) else ([],[])),scalar:=true }
theorem Ka (a:IV):run ab aeG C0 Dv Tryz.f29 [[a]]=kY a:=by kernel_rfl
abbrev PC:FSig:=⟨.pure,true,[1,1],0,λl=>match l with | [[a]]=>kY a | _=>none⟩
def ZO:ad->Option FSig:=aG Pj PC aeG
def gY:Ann:={ join:=(λr=>if r=7 then some [5] else none),unroll:=(λr=>if r=4 then 5 else 0) }
def cx:Inl:=lA ab ZO C0 gY Tryz.f135
def iE:ad->Option FSig:=aG fU ⟨.inl cx,false,[],0,λ_=>none⟩ <| ZO
def jD:Ann:={ order:=(λr=>if r=1 then some ([],[0,1,2,3,4,5,6,7,8,9,10,11],[]) else none) }
def dQ:Inl:=lA ab iE C0 jD Tryz.f136
def gD:ad->Option FSig:=aG fU ⟨.inl cx,false,[],0,λ_=>none⟩ <| aG mX ⟨.inl dQ,false,[],0,λ_=>none⟩ <| ZO
def gN:Ann:={ order:=(λr=>if r=14 then some ([],[0,1,2,3,4,5,6,7,8,9,10,11,12,13],[14]) else none),join:=(λr=>if r=15 then some [90] else none) }
def gV:Inl:=lA ab gD C0 gN Tryz.f67
def AH:ad->Option FSig:=aG fU ⟨.inl cx,false,[],0,λ_=>none⟩ <| aG mX ⟨.inl dQ,false,[],0,λ_=>none⟩ <| aG oE ⟨.inl gV,false,[],0,λ_=>none⟩ <| ZO
def Db:Ann:={ order:=(λr=>if r=20 then some ([],[0,1,2,3,4,5,6,7,8,9,10,11,12,13,14],[]) else none),join:=(λr=>if r=20 then some [63] else none),loop:=(λr=>if r=15 then ([(9,(.B 6)),(28,(.K 2 [.imm,.imm])),(51,.I)],[[(9,(.B 6)),(28,(.K 2 [.imm,.imm]))],[(2,.I),(3,.I),(28,(.K 2 [.imm,.imm]))]]) else ([],[])) }
theorem JU (a:IV):run ab AH C0 Db Tryz.f30 [[a]]=k7 a:=by kernel_rfl
abbrev Oz:FSig:=⟨.pure,false,[1,1],0,λl=>match l with | [[a]]=>k7 a | _=>none⟩
def aay:ad->Option FSig:=aG PA Oz ZO
def pL (c:IV) (i:IV) (b:List IV):Option SR:=
 (aa .lss (nth b 1) c).bind λd=>
 ae d (λ_=>
 (aK i (nth b 1) 8).bind λe=>
 (eo i e 0 8).bind λa=>
 (jg (nth a 0) (nth a 1) (nth a 2) (nth a 3) (nth a 4) (nth a 5) (nth a 6) (nth a 7)).bind λf=>
 (bS 1 8 (nth b 0) (.lst [[nth f 0]])).bind λg=>
 (aa .add (nth b 1) (.int .i64 1)).bind λh=>
 some (.next [g,h])) (λ_=>
 some (.done 0 [nth b 0]))
def kK (b:IV) (t:IV) (a:List IV):Option SR:=
 (aC b).bind λc=>
 (aa .lss (nth a 0) c).bind λd=>
 ae d (λ_=>
 ((aK b (nth a 0) 8).bind λe=>
 (dh b e 0).bind λf=>
 (aa .eql f (.int .i64 1)).bind λg=>
 ae g (λ_=>
 (aK b (nth a 0) 8).bind λh=>
 (dh b h 6).bind λi=>
 (dU i).bind λj=>
 (ll .not (nth j 0)).bind λk=>
 ae k (λ_=>
 (bU (cj t) (nth a 0)).bind λl=>
 (dh t l 0).bind λm=>
 (aa .neq m (.int .i64 1)).bind λn=>
 some [n]) (λ_=>
 (aK b (nth a 0) 8).bind λo=>
 (dh b o 6).bind λp=>
 (ft p).bind λq=>
 (aa .gtr q (.int .i64 64)).bind λr=>
 ae r (λ_=>
 (bU (cj t) (nth a 0)).bind λs=>
 (dh t s 0).bind λu=>
 (aa .neq u (.int .i64 1)).bind λv=>
 some [v]) (λ_=>
 some [.bool false]))) (λ_=>
 some [.bool false])).bind λw=>
 ae (nth w 0) (λ_=>
 some (.done 1 [.bool false])) (λ_=>
 (aa .add (nth a 0) (.int .i64 1)).bind λx=>
 some (.next [x]))) (λ_=>
 some (.done 0 []))
def jv (t:IV) (a:List IV):Option SR:=
 (aC t).bind λb=>
 (aa .lss (nth a 0) b).bind λc=>
 ae c (λ_=>
 ((aK t (nth a 0) 6).bind λd=>
 (dh t d 4).bind λe=>
 (dU e).bind λf=>
 (ll .not (nth f 0)).bind λg=>
 ae g (λ_=>
 some [.bool true]) (λ_=>
 (aK t (nth a 0) 6).bind λh=>
 (dh t h 4).bind λi=>
 (ft i).bind λj=>
 (aa .gtr j (.int .i64 64)).bind λk=>
 some [k])).bind λl=>
 ae (nth l 0) (λ_=>
 some (.done 1 [.bool false])) (λ_=>
 (aa .add (nth a 0) (.int .i64 1)).bind λm=>
 some (.next [m]))) (λ_=>
 some (.done 0 []))
def jl (t:IV) (a:List IV):Option SR:=
 (aC t).bind λb=>
 (aa .lss (nth a 0) b).bind λc=>
 ae c (λ_=>
 ((aK t (nth a 0) 4).bind λd=>
 (dh t d 2).bind λe=>
 (dU e).bind λf=>
 (ll .not (nth f 0)).bind λg=>
 ae g (λ_=>
 some [.bool true]) (λ_=>
 (aK t (nth a 0) 4).bind λh=>
 (dh t h 2).bind λi=>
 (ft i).bind λj=>
 (aa .gtr j (.int .i64 64)).bind λk=>
 some [k])).bind λl=>
 ae (nth l 0) (λ_=>
 some (.done 1 [.bool false])) (λ_=>
 (aa .add (nth a 0) (.int .i64 1)).bind λm=>
 some (.next [m]))) (λ_=>
 some (.done 0 []))
def zL (f:IV) (a:List IV):Option SR:=
 (aa .leq (nth a 0) f).bind λc=>
 ae c (λ_=>
 (iZ (nth a 0)).bind λd=>
 (iter rounds (jl (nth d 0)) [.int .i64 0]).bind λb=>
 fg b.1 [(aa .add (nth a 0) (.int .i64 1)).bind λe=>
 some (.next [e]),
 some (.done 1 [nth b.2 0])]) (λ_=>
 some (.done 0 []))
def cH (d:IV) (i:IV) (a:List IV):Option SR:=
 (aa .lss (nth a 3) d).bind λe=>
 ae e (λ_=>
 (aK i (nth a 3) 8).bind λf=>
 (eo i f 0 8).bind λb=>
 (aL (nth a 0) (nth a 1) (nth b 0) (nth b 1) (nth b 2) (nth b 3) (nth b 4) (nth b 5) (nth b 6) (nth b 7)).bind λc=>
 (bS 1 8 (nth a 2) (.lst [[(nth (c.drop 2) 0)]])).bind λg=>
 (aa .add (nth a 3) (.int .i64 1)).bind λh=>
 some (.next [nth c 0,nth c 1,g,h])) (λ_=>
 some (.done 0 [nth a 0,nth a 1,nth a 2]))
def mJ (f:IV) (a:List IV):Option SR:=
 (aa .leq (nth a 2) f).bind λd=>
 ae d (λ_=>
 (eH (nth a 0) (nth a 1) (nth a 2)).bind λb=>
 (iter rounds (jl (nth (b.drop 2) 0)) [.int .i64 0]).bind λc=>
 fg c.1 [(aa .add (nth a 2) (.int .i64 1)).bind λe=>
 some (.next [nth b 0,nth b 1,e]),
 some (.done 1 [nth c.2 0])]) (λ_=>
 some (.done 0 []))
def pJ (e f:IV):Option (List IV):=
 ((kO f (.int .i64 25)).bind λO=>
 (ll .not (nth O 0)).bind λP=>
 ae P (λ_=>
 some [.bool true]) (λ_=>
 (aa .lss e (.int .i64 1)).bind λQ=>
 ae Q (λ_=>
 some [.bool true]) (λ_=>
 (aa .gtr e (.int .i64 8)).bind λR=>
 some [R]))).bind λS=>
 ae (nth S 0) (λ_=>
 (o4).bind λT=>
 aw [nth T 0]) (λ_=>
 ((aa .lss e (.int .i64 1)).bind λU=>
 ae U (λ_=>
 some [.bool true]) (λ_=>
 (aa .gtr e (.int .i64 8)).bind λV=>
 some [V])).bind λW=>
 ae (nth W 0) (λ_=>
 (aC f).bind λx=>
 (iter rounds (pL x f) [.lst [],.int .i64 0]).bind λs=>
 fg s.1 [(some [.bool true]).bind λy=>
 ae (nth y 0) (λ_=>
 aw [.bool false]) (λ_=>
 (iter rounds (kK f (nth s.2 0)) [.int .i64 0]).bind λt=>
 fg t.1 [(jh).bind λz=>
 (iD (.lst []) (nth z 0)).bind λA=>
 (kY (nth A 0)).bind λu=>
 (k7 (nth u 0)).bind λk=>
 (aa .neq (nth u 1) (.int .i64 0)).bind λC=>
 ae C (λ_=>
 aw [.bool false]) (λ_=>
 (aa .neq (nth k 1) (.int .i64 0)).bind λD=>
 ae D (λ_=>
 aw [.bool false]) (λ_=>
 (aC (nth k 0)).bind λE=>
 (jh).bind λF=>
 (aC (nth F 0)).bind λG=>
 (aa .neq E G).bind λH=>
 ae H (λ_=>
 aw [.bool false]) (λ_=>
 (iter rounds (jv (nth k 0)) [.int .i64 0]).bind λv=>
 fg v.1 [(iter rounds (zL e) [.int .i64 1]).bind λw=>
 fg w.1 [(o4).bind λI=>
 aw [nth I 0],
 aw [nth w.2 0]],
 aw [nth v.2 0]]))),
 aw [nth t.2 0]])]) (λ_=>
 (lr 88 [.lst [],.int .i64 0,.int .i64 0,.lst [],.lst []] e e).bind λJ=>
 (aC f).bind λK=>
 (iter rounds (cH K f) [J,.lst [],.lst [],.int .i64 0]).bind λd=>
 fg d.1 [((aC f).bind λL=>
 (aa .neq (.int .i64 ((cj (nth d.2 2)):Nat)) L).bind λM=>
 some [M]).bind λN=>
 ae (nth N 0) (λ_=>
 aw [.bool false]) (λ_=>
 (iter rounds (kK f (nth d.2 2)) [.int .i64 0]).bind λg=>
 fg g.1 [(eG (nth d.2 0) (nth d.2 1)).bind λa=>
 (iD (.lst []) (nth (a.drop 2) 0)).bind λl=>
 (kY (nth l 0)).bind λh=>
 (k7 (nth h 0)).bind λb=>
 (aa .neq (nth h 1) (.int .i64 0)).bind λm=>
 ae m (λ_=>
 aw [.bool false]) (λ_=>
 (aa .neq (nth b 1) (.int .i64 0)).bind λn=>
 ae n (λ_=>
 aw [.bool false]) (λ_=>
 (aC (nth b 0)).bind λo=>
 (eG (nth a 0) (nth a 1)).bind λc=>
 (aC (nth (c.drop 2) 0)).bind λp=>
 (aa .neq o p).bind λq=>
 ae q (λ_=>
 aw [.bool false]) (λ_=>
 (iter rounds (jv (nth b 0)) [.int .i64 0]).bind λi=>
 fg i.1 [(iter rounds (mJ e) [nth c 0,nth c 1,.int .i64 1]).bind λj=>
 fg j.1 [(o4).bind λr=>
 aw [nth r 0],
 aw [nth j.2 0]],
 aw [nth i.2 0]]))),
 aw [nth g.2 0]])]))
def na:Ann:={ join:=(λr=>if r=1 then some [8] else none) }
def gG:Inl:=lA ab aay C0 na Tryz.f10
def ml:ad->Option FSig:=aG oA ⟨.inl gG,false,[],0,λ_=>none⟩ <| aay
def nb:Ann:={ loop:=(λr=>if r=4 then ([(6,(.O [.buf 5,.buf 6])),(7,(.B 1)),(14,.I)],[[(6,(.O [.buf 5,.buf 6])),(7,(.B 1))]]) else ([],[])),alt:=(λr=>if r=4 then some (6,[(7,(.B 1)),(14,.I)],[[(7,(.B 1))]]) else none) }
def m9:Inl:=lA ab ml C0 nb Tryz.f27
def y5:ad->Option FSig:=aG oA ⟨.inl gG,false,[],0,λ_=>none⟩ <| aG u7 ⟨.inl m9,false,[],0,λ_=>none⟩ <| aay
def Bu:Ann:={ join:=(λr=>if r=1 then some [26] else if r=4 then some [42] else if r=9 then some [79] else if r=18 then some [127] else if r=27 then some [157] else none),loop:=(λr=>if r=7 then ([(7,.I)],[[],[(4,.I)]]) else if r=16 then ([(12,.I)],[[],[(4,.I)]]) else if r=21 then ([(5,(.O [.buf 5,.buf 6])),(13,.I)],[[],[(4,.I)]]) else if r=25 then ([(15,.I)],[[],[(4,.I)]]) else ([],[])),alt:=(λr=>if r=21 then some (5,[(13,.I)],[[],[(4,.I)]]) else none),scalar:=true }
theorem Gu (a b:IV):run ab y5 C0 Bu Tryz.f6 [[a],[b]]=pJ a b:=by kernel_rfl
abbrev BM:FSig:=⟨.pure,true,[1],0,λl=>match l with | [[a],[b]]=>pJ a b | _=>none⟩
def ah3:ad->Option FSig:=aG Ae BM aay
end Go.AM
end

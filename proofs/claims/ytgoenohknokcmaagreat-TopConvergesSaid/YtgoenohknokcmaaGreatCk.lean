/- Each function that is reached runs in the abstract machine as printed; the others are what it runs. -/
import Derived.Test.YtgoenohknokcmaaGreatSh
import Derived.Test.YtgoenohknokcmaaGreatProg
open Go.Proofs.Tryz renaming prog->ab
open Go renaming FuncId->ad
set_option linter.unusedVariables false
set_option maxRecDepth 100000
 noncomputable section
namespace Go.AM
open Go.Proofs
def gu:ad->Bool:= λg=>g==zA
def mA:ad->Bool:= λg=>g==JI
abbrev Cv:FSig:=⟨.fresh,false,[1],6,λl=>match l with | [[a]]=>dA a | _=>none⟩
def T1:ad->Option FSig:=aG mP Cv T0
abbrev qT:FSig:=⟨.obj (uM 123 5),false,[1,1],0,sf⟩
def T2:ad->Option FSig:=aG jt qT T1
abbrev vJ:FSig:=⟨.inl (strJ 123 5),false,[],0,λ_=>none⟩
def T3:ad->Option FSig:=aG nq vJ T2
abbrev Dg:FSig:=⟨.fresh,false,[1],4,λl=>match l with | [[a]]=>gg a | _=>none⟩
def T4:ad->Option FSig:=aG nW Dg T3
abbrev Ag:FSig:=⟨.cons,false,[1],6,λl=>match l with | [[a],[b],[c]]=>eh a b c | _=>none⟩
def T5:ad->Option FSig:=aG k7 Ag T4
abbrev Cp:FSig:=⟨.fresh,false,[1],2,λl=>match l with | [[a]]=>eY a | _=>none⟩
def T6:ad->Option FSig:=aG mM Cp T5
abbrev Ah:FSig:=⟨.cons,false,[1],2,λl=>match l with | [[a],[b],[c]]=>de a b c | _=>none⟩
def T7:ad->Option FSig:=aG lO Ah T6
abbrev sy:FSig:=⟨.obj (uM 123 5),false,[1],0,Hp⟩
def T8:ad->Option FSig:=aG kN sy T7
abbrev Et:FSig:=⟨.pure,true,[1],0,λl=>match l with | [[a],[b],[c]]=>sD a b c | _=>none⟩
def T9:ad->Option FSig:=aG xT Et T8
abbrev Cm:FSig:=⟨.cons,false,[1],4,λl=>match l with | [[a],[b],[c]]=>dC a b c | _=>none⟩
def T10:ad->Option FSig:=aG mQ Cm T9
abbrev Cs:FSig:=⟨.inl (growJ 2 24),false,[],0,λ_=>none⟩
def T11:ad->Option FSig:=aG sk Cs T10
theorem OO (a:IV):run ab T11 C0 A1 Tryz.f124 [[a]]=qX a:=by kernel_rfl
abbrev Up:FSig:=⟨.pure,true,[1,1,1,1],0,λl=>match l with | [[a]]=>qX a | _=>none⟩
def T12:ad->Option FSig:=aG V2 Up T11
def E3:Ann:={ join:=(λr=>if r=4 then some [34] else if r=8 then some [56] else none),loop:=(λr=>if r=2 then ([(4,.I),(5,.I)],[[(4,.I),(5,.I)]]) else if r=6 then ([(7,.I),(8,.I),(45,.I)],[[],[]]) else ([],[])),scalar:=true }
theorem MQ (a:IV):run ab T12 C0 E3 Tryz.f57 [[a]]=sI a:=by kernel_rfl
abbrev SH:FSig:=⟨.pure,true,[1,1],0,λl=>match l with | [[a]]=>sI a | _=>none⟩
def T13:ad->Option FSig:=aG Q6 SH T12
theorem Lk (a:IV):run ab T13 C0 A1 Tryz.f28 [[a]]=jI a:=by kernel_rfl
abbrev QU:FSig:=⟨.pure,true,[1],0,λl=>match l with | [[a]]=>jI a | _=>none⟩
def T14:ad->Option FSig:=aG QV QU T13
def Nv:Ann:={ join:=(λr=>if r=1 then some [2] else none),scalar:=true }
theorem S8 (a b c d:IV):run ab T14 C0 Nv Tryz.f70 [[a,b,c,d]]=lu a b c d:=by kernel_rfl
abbrev Li:FSig:=⟨.pure,true,[1],0,λl=>match l with | [[a,b,c,d]]=>lu a b c d | _=>none⟩
def T15:ad->Option FSig:=aG Lv Li T14
abbrev L9:FSig:=⟨.pure,true,[1],0,λl=>match l with | [[a]]=>qe a | _=>none⟩
def T16:ad->Option FSig:=aG Ej L9 T15
def ta:Ann:={ loop:=(λr=>if r=2 then ([(8,.I)],[[],[(4,.I)]]) else ([],[])),scalar:=true }
theorem AZ (a b:IV):run ab T16 C0 ta Tryz.f203 [[a],[b]]=jJ a b:=by kernel_rfl
abbrev Ek:FSig:=⟨.pure,true,[1],0,λl=>match l with | [[a],[b]]=>jJ a b | _=>none⟩
def T17:ad->Option FSig:=aG DF Ek T16
theorem xh (a b:IV):run ab T17 C0 A1 Tryz.f148 [[a],[b]]=dP a b:=by kernel_rfl
abbrev pX:FSig:=⟨.pure,true,[1],0,λl=>match l with | [[a],[b]]=>dP a b | _=>none⟩
def T18:ad->Option FSig:=aG pU pX T17
abbrev Iw:FSig:=⟨.pure,false,[1,1],0,λl=>match l with | [[a],[b]]=>Br a b | _=>none⟩
def T19:ad->Option FSig:=aG Ap Iw T18
theorem R5 (a:IV):run ab T19 C0 A1 Tryz.f236 [[a]]=l6 a:=by kernel_rfl
abbrev Me:FSig:=⟨.pure,true,[1],0,λl=>match l with | [[a]]=>l6 a | _=>none⟩
def T20:ad->Option FSig:=aG Ee Me T19
def Lc:Ann:={ loop:=(λr=>if r=2 then ([(0,.I),(3,(.B 1))],[[(0,.I),(3,(.B 1))]]) else ([],[])),scalar:=true }
theorem QY (a:IV):run ab T20 C0 Lc Tryz.f60 [[a]]=cE a:=by kernel_rfl
abbrev Mt:FSig:=⟨.pure,true,[1],0,λl=>match l with | [[a]]=>cE a | _=>none⟩
def T21:ad->Option FSig:=aG DC Mt T20
abbrev Bg:FSig:=⟨.pure,true,[1],0,λl=>match l with | [[a]]=>gp a | _=>none⟩
def T22:ad->Option FSig:=aG tx Bg T21
def pz:Ann:={ loop:=(λr=>if r=2 then ([(8,.I)],[[],[(4,.I)]]) else ([],[])),scalar:=true }
theorem vX (C:IV->List Nat->List (List IV)->Option (List IV)) (a b:IV):run ab T22 C pz Tryz.f155 [[a],[b]]=bF C a b:=by kernel_rfl
theorem xd (a b c d e:IV):run ab T22 C0 A1 Tryz.f208 [[a,b,c,d],[e]]=lk a b c d e:=by kernel_rfl
abbrev LX:FSig:=⟨.pure,true,[1],0,λl=>match l with | [[a,b,c,d],[e]]=>lk a b c d e | _=>none⟩
def T23:ad->Option FSig:=aG pK LX T22
def C7:ad->Option FSig:=aG fo ⟨.pure,true,[1],0,λl=>match l with | [[a],[b]]=>bF (m0) a b | _=>none⟩ <| T23
theorem KU (a b:IV):run ab C7 (m0) A1 Tryz.f154 [[a],[b]]=o5 a b:=by kernel_rfl
abbrev RS:FSig:=⟨.pure,true,[1,1],0,λl=>match l with | [[a],[b]]=>o5 a b | _=>none⟩
def T24:ad->Option FSig:=aG Ry RS T23
theorem Bt (a b c d e:IV):run ab T24 C0 A1 Tryz.f156 [[a,b,c,d],[e]]=pD a b c d e:=by kernel_rfl
abbrev Sq:FSig:=⟨.pure,true,[1],0,λl=>match l with | [[a,b,c,d],[e]]=>pD a b c d e | _=>none⟩
def T25:ad->Option FSig:=aG sE Sq T24
def IG:ad->Option FSig:=aG fo ⟨.pure,true,[1],0,λl=>match l with | [[a],[b]]=>bF (qY) a b | _=>none⟩ <| T25
theorem Tk (a b c d e:IV):run ab IG (qY) A0 Tryz.f89 [[a],[b,c,d,e]]=sX a b c d e:=by kernel_rfl
abbrev XD:FSig:=⟨.pure,false,[1],0,λl=>match l with | [[a],[b,c,d,e]]=>sX a b c d e | _=>none⟩
def T26:ad->Option FSig:=aG Xy XD T25
def C2:Ann:={ loop:=(λr=>if r=4 then ([(5,.I)],[[],[(4,.I)]]) else ([],[])),scalar:=true }
theorem JJ (a b:IV):run ab T26 C0 C2 Tryz.f8 [[a],[b]]=kx a b:=by kernel_rfl
abbrev OQ:FSig:=⟨.pure,true,[1],0,λl=>match l with | [[a],[b]]=>kx a b | _=>none⟩
def T27:ad->Option FSig:=aG N4 OQ T26
def lW:Ann:={ join:=(λr=>if r=1 then some [20] else none) }
theorem yr (a b c:IV):runM ab T27 C0 lW [.buf 5,.buf 6] Tryz.f20 [a,b] [[c]]=bG a b c:=by kernel_rfl
theorem uf (a:IV):run ab T27 C0 lW Tryz.f20 [[.nilp],[a]]=du a:=by kernel_rfl
abbrev AJ:FSig:=⟨.obj [.buf 5,.buf 6],false,[5,1],0,λl=>match l with | [[a,c],[b]]=>bG a c b | [[a],[b]]=>CV a (du b) | _=>none⟩
def T28:ad->Option FSig:=aG qN AJ T27
def Eu:Ann:={ loop:=(λr=>if r=2 then ([(8,.I)],[[],[(2,.I)]]) else ([],[])),scalar:=true }
theorem Mh (C:IV->List Nat->List (List IV)->Option (List IV)) (a:IV):run ab T28 C Eu Tryz.f109 [[a]]=mB C a:=by kernel_rfl
theorem EN (a:IV):run ab T28 C0 A1 Tryz.f177 [[a]]=jT a:=by kernel_rfl
abbrev I4:FSig:=⟨.pure,true,[1],0,λl=>match l with | [[a]]=>jT a | _=>none⟩
def T29:ad->Option FSig:=aG Jv I4 T28
theorem B6 (a b:IV):run ab T29 C0 A1 Tryz.f111 [[a],[b]]=eD a b:=by kernel_rfl
abbrev FI:FSig:=⟨.pure,true,[1],0,λl=>match l with | [[a],[b]]=>eD a b | _=>none⟩
def T30:ad->Option FSig:=aG Em FI T29
theorem vA (a b:IV):run ab T30 C0 A1 Tryz.f110 [[a],[b]]=j5 a b:=by kernel_rfl
abbrev JD:FSig:=⟨.pure,true,[1],0,λl=>match l with | [[a],[b]]=>j5 a b | _=>none⟩
def T31:ad->Option FSig:=aG jY JD T30
theorem vb (a b:IV):run ab T31 C0 A1 Tryz.f112 [[a],[b]]=jZ a b:=by kernel_rfl
abbrev Jg:FSig:=⟨.pure,true,[1],0,λl=>match l with | [[a],[b]]=>jZ a b | _=>none⟩
def T32:ad->Option FSig:=aG jX Jg T31
def zB:ad->Option FSig:=aG xO ⟨.pure,true,[1],0,λl=>match l with | [[a]]=>mB (ja) a | _=>none⟩ <| T32
theorem Jb (a b c d:IV):run ab zB (ja) A1 Tryz.f52 [[a,b],[c,d]]=fy a b c d:=by kernel_rfl
abbrev OL:FSig:=⟨.pure,true,[1],0,λl=>match l with | [[a,b],[c,d]]=>fy a b c d | _=>none⟩
def T33:ad->Option FSig:=aG Pf OL T32
def ot:Ann:={ loop:=(λr=>if r=2 then ([(8,.I)],[[],[(4,.I)]]) else ([],[])),scalar:=true }
theorem uL (C:IV->List Nat->List (List IV)->Option (List IV)) (a b:IV):run ab T33 C ot Tryz.f191 [[a],[b]]=cw C a b:=by kernel_rfl
def kR (C:IV->List Nat->List (List IV)->Option (List IV)):ad->Option FSig:=aG iW ⟨.pure,true,[1],0,λl=>match l with | [[a],[b]]=>cw C a b | _=>none⟩ <| T33
theorem rR (C:IV->List Nat->List (List IV)->Option (List IV)) (a b:IV):run ab (kR C) C A1 Tryz.f125 [[a],[b]]=cB C a b:=by kernel_rfl
theorem Ou (a b c d e f:IV):run ab T33 C0 A1 Tryz.f71 [[a,b,c,d,e,f]]=oA a b c d e f:=by kernel_rfl
abbrev UB:FSig:=⟨.pure,true,[4],0,λl=>match l with | [[a,b,c,d,e,f]]=>oA a b c d e f | _=>none⟩
def T34:ad->Option FSig:=aG Uc UB T33
def Iy:Ann:={ join:=(λr=>if r=2 then some [2] else none),scalar:=true }
theorem PH (a b c d e f:IV):run ab T34 C0 Iy Tryz.f32 [[a,b,c,d,e,f]]=lr a b c d e f:=by kernel_rfl
abbrev U3:FSig:=⟨.pure,true,[1],0,λl=>match l with | [[a,b,c,d,e,f]]=>lr a b c d e f | _=>none⟩
def T35:ad->Option FSig:=aG Ui U3 T34
theorem yF (a b c d e f:IV):run ab T35 C0 A1 Tryz.f126 [[a,b,c,d,e,f]]=nH a b c d e f:=by kernel_rfl
abbrev OA:FSig:=⟨.pure,true,[1],0,λl=>match l with | [[a,b,c,d,e,f]]=>nH a b c d e f | _=>none⟩
def T36:ad->Option FSig:=aG qB OA T35
def Fw:ad->Option FSig:=aG fR ⟨.pure,true,[1],0,λl=>match l with | [[a],[b]]=>cB (pG) a b | _=>none⟩ <| T36
def Ik:Ann:={ order:=(λr=>if r=4 then some ([],[0,1,2,3,4,5,6,7,8,9,10,11,12],[]) else none),join:=(λr=>if r=6 then some [2] else none),loop:=(λr=>if r=2 then ([(3,.I)],[[],[(2,.I)]]) else ([],[])),scalar:=true }
theorem Oa (a:IV):run ab Fw (pG) Ik Tryz.f58 [[a]]=mh a:=by kernel_rfl
abbrev Um:FSig:=⟨.pure,true,[1],0,λl=>match l with | [[a]]=>mh a | _=>none⟩
def T37:ad->Option FSig:=aG Vc Um T36
def Ip:Ann:={ order:=(λr=>if r=4 then some ([],[0,1,2,3,4,5,6,7,8,9,10,11,12,13,14,15,16,17,18,19,20,21,22,23,24,25,26,27,28,29,30,31,32],[]) else none),join:=(λr=>if r=4 then some [44] else none),loop:=(λr=>if r=2 then ([(7,.I)],[[],[(2,.I)]]) else ([],[])),scalar:=true }
theorem PK (a:IV):run ab T37 C0 Ip Tryz.f100 [[a]]=dF a:=by kernel_rfl
abbrev V9:FSig:=⟨.pure,true,[1],0,λl=>match l with | [[a]]=>dF a | _=>none⟩
def T38:ad->Option FSig:=aG Vw V9 T37
def vW:Ann:={ join:=(λr=>if r=1 then some [1] else none),scalar:=true }
theorem yV (a:IV):run ab T38 C0 vW Tryz.f98 [[a]]=nt a:=by kernel_rfl
abbrev NY:FSig:=⟨.pure,true,[1],0,λl=>match l with | [[a]]=>nt a | _=>none⟩
def T39:ad->Option FSig:=aG nc NY T38
def ox:Ann:={ loop:=(λr=>if r=2 then ([(8,.I)],[[],[(4,.I)]]) else ([],[])),scalar:=true }
theorem uF (C:IV->List Nat->List (List IV)->Option (List IV)) (a b:IV):run ab T39 C ox Tryz.f116 [[a],[b]]=aW C a b:=by kernel_rfl
theorem vh (a b c:IV):run ab T39 C0 A1 Tryz.f178 [[a,b],[c]]=j9 a b c:=by kernel_rfl
abbrev JO:FSig:=⟨.pure,true,[1],0,λl=>match l with | [[a,b],[c]]=>j9 a b c | _=>none⟩
def T40:ad->Option FSig:=aG nS JO T39
def Ae:ad->Option FSig:=aG df ⟨.pure,true,[1],0,λl=>match l with | [[a],[b]]=>aW (lR) a b | _=>none⟩ <| T40
theorem IY (a b:IV):run ab Ae (lR) A1 Tryz.f114 [[a],[b]]=ky a b:=by kernel_rfl
abbrev Oi:FSig:=⟨.pure,true,[1,1],0,λl=>match l with | [[a],[b]]=>ky a b | _=>none⟩
def T41:ad->Option FSig:=aG Oh Oi T40
def wU:Ann:={ loop:=(λr=>if r=2 then ([(0,.I),(9,.I)],[[(0,.I)]]) else ([],[])),scalar:=true }
theorem Dt (a b:IV):run ab T41 C0 wU Tryz.f115 [[a],[b]]=fP a b:=by kernel_rfl
abbrev GG:FSig:=⟨.pure,true,[1],0,λl=>match l with | [[a],[b]]=>fP a b | _=>none⟩
def T42:ad->Option FSig:=aG Hb GG T41
theorem u5 (a b c:IV):run ab T42 C0 A1 Tryz.f117 [[a,b],[c]]=jU a b c:=by kernel_rfl
abbrev I1:FSig:=⟨.pure,true,[1],0,λl=>match l with | [[a,b],[c]]=>jU a b c | _=>none⟩
def T43:ad->Option FSig:=aG nQ I1 T42
def zL:ad->Option FSig:=aG df ⟨.pure,true,[1],0,λl=>match l with | [[a],[b]]=>aW (ln) a b | _=>none⟩ <| T43
def CG:Ann:={ order:=(λr=>if r=4 then some ([],[0,1,2,3,4,5,6,7,8,9,10,11,12],[13]) else none) }
theorem J2 (a b c:IV):run ab zL (ln) CG Tryz.f54 [[a],[b,c]]=kB a b c:=by kernel_rfl
abbrev O4:FSig:=⟨.pure,false,[1],0,λl=>match l with | [[a],[b,c]]=>kB a b c | _=>none⟩
def T44:ad->Option FSig:=aG PF O4 T43
def Nb:Ann:={ loop:=(λr=>if r=3 then ([(3,.I),(8,.I)],[[(3,.I)]]) else ([],[])) }
theorem RA (a:IV):run ab T44 C0 Nb Tryz.f103 [[a]]=uh a:=by kernel_rfl
abbrev Xt:FSig:=⟨.pure,false,[1],0,λl=>match l with | [[a]]=>uh a | _=>none⟩
def T45:ad->Option FSig:=aG W9 Xt T44
def kW (C:IV->List Nat->List (List IV)->Option (List IV)):ad->Option FSig:=aG df ⟨.pure,true,[1],0,λl=>match l with | [[a],[b]]=>aW C a b | _=>none⟩ <| T45
theorem rJ (C:IV->List Nat->List (List IV)->Option (List IV)) (a b:IV):run ab (kW C) C A1 Tryz.f174 [[a],[b]]=cD C a b:=by kernel_rfl
theorem Ok (a b:IV):run ab T45 C0 A1 Tryz.f176 [[a],[b]]=lZ a b:=by kernel_rfl
abbrev UC:FSig:=⟨.pure,true,[1],0,λl=>match l with | [[a],[b]]=>lZ a b | _=>none⟩
def T46:ad->Option FSig:=aG UZ UC T45
def rM:Ann:={ order:=(λr=>if r=1 then some ([],[0,1,2,3,4,5,6,7,8,9],[]) else none),scalar:=true }
theorem uX (a b c d:IV):run ab T46 C0 rM Tryz.f175 [[a,b],[c],[d]]=kn a b c d:=by kernel_rfl
abbrev Je:FSig:=⟨.pure,true,[1],0,λl=>match l with | [[a,b],[c],[d]]=>kn a b c d | _=>none⟩
def T47:ad->Option FSig:=aG nT Je T46
def AV:ad->Option FSig:=aG fS ⟨.pure,true,[1],0,λl=>match l with | [[a],[b]]=>cD (l9) a b | _=>none⟩ <| T47
theorem I0 (a b:IV):run ab AV (l9) A1 Tryz.f102 [[a],[b]]=nk a b:=by kernel_rfl
abbrev NN:FSig:=⟨.pure,true,[1],0,λl=>match l with | [[a],[b]]=>nk a b | _=>none⟩
def T48:ad->Option FSig:=aG OY NN T47
def vF:Ann:={ order:=(λr=>if r=1 then some ([],[0,1,2,3,4,5,6],[]) else none),scalar:=true }
theorem yD (a:IV):run ab T48 C0 vF Tryz.f101 [[a]]=ny a:=by kernel_rfl
abbrev OX:FSig:=⟨.pure,true,[1],0,λl=>match l with | [[a]]=>ny a | _=>none⟩
def T49:ad->Option FSig:=aG nJ OX T48
def C3:Ann:={ order:=(λr=>if r=1 then some ([],[0,1,2,3,4,5,6,7,8,9,10,11,12,13,14,15,16,17,18,19,20,21,22,23,24,25,26,27],[]) else none),join:=(λr=>if r=1 then some [4] else none),scalar:=true }
theorem JN (a b c:IV):run ab T49 C0 C3 Tryz.f105 [[a],[b,c]]=ku a b c:=by kernel_rfl
abbrev Oy:FSig:=⟨.pure,true,[1],0,λl=>match l with | [[a],[b,c]]=>ku a b c | _=>none⟩
def T50:ad->Option FSig:=aG Pc Oy T49
def vH:Ann:={ join:=(λr=>if r=1 then some [1] else none),scalar:=true }
theorem yM (a:IV):run ab T50 C0 vH Tryz.f104 [[a]]=nC a:=by kernel_rfl
abbrev N9:FSig:=⟨.pure,true,[1],0,λl=>match l with | [[a]]=>nC a | _=>none⟩
def T51:ad->Option FSig:=aG mY N9 T50
theorem pV (a b c d e f g h:IV):run ab T51 C0 A1 Tryz.f85 [[a,b],[c,d,e,f,g,h]]=cS a b c d e f g h:=by kernel_rfl
abbrev Cq:FSig:=⟨.pure,true,[1],0,λl=>match l with | [[a,b],[c,d,e,f,g,h]]=>cS a b c d e f g h | _=>none⟩
def T52:ad->Option FSig:=aG iQ Cq T51
def CM:Ann:={ loop:=(λr=>if r=3 then ([(5,(.B 6)),(10,.I)],[[(5,(.B 6))]]) else ([],[])) }
theorem JL (a b c:IV):run ab T52 C0 CM Tryz.f107 [[a],[b,c]]=kF a b c:=by kernel_rfl
abbrev Pk:FSig:=⟨.pure,false,[1],0,λl=>match l with | [[a],[b,c]]=>kF a b c | _=>none⟩
def T53:ad->Option FSig:=aG NI Pk T52
def vK:Ann:={ order:=(λr=>if r=1 then some ([],[0,1,2,3,4,5,6,7,8,9,10],[]) else none),scalar:=true }
theorem yG (a:IV):run ab T53 C0 vK Tryz.f106 [[a]]=nK a:=by kernel_rfl
abbrev Ow:FSig:=⟨.pure,true,[1],0,λl=>match l with | [[a]]=>nK a | _=>none⟩
def T54:ad->Option FSig:=aG nu Ow T53
def wx:Ann:={ loop:=(λr=>if r=3 then ([(3,.M),(12,.I)],[[(3,.M)]]) else if r=8 then ([(3,.M),(23,.I)],[[(3,.M)]]) else ([],[])) }
theorem Dl (a b c d e:IV):run ab T54 C0 wx Tryz.f53 [[a,b,c,d,e]]=fN a b c d e:=by kernel_rfl
abbrev GU:FSig:=⟨.pure,false,[1],0,λl=>match l with | [[a,b,c,d,e]]=>fN a b c d e | _=>none⟩
def T55:ad->Option FSig:=aG He GU T54
theorem yQ (a:IV):run ab T55 C0 A1 Tryz.f108 [[a]]=nL a:=by kernel_rfl
abbrev OB:FSig:=⟨.pure,true,[1],0,λl=>match l with | [[a]]=>nL a | _=>none⟩
def T56:ad->Option FSig:=aG na OB T55
def ID:Ann:={ loop:=(λr=>if r=2 then ([(12,.I)],[[],[(2,.I)]]) else ([],[])),scalar:=true }
theorem O6 (a b c d e:IV):run ab T56 (dX) ID Tryz.f51 [[a,b,c,d,e]]=js a b c d e:=by kernel_rfl
abbrev Vu:FSig:=⟨.pure,true,[1],0,λl=>match l with | [[a,b,c,d,e]]=>js a b c d e | _=>none⟩
def T57:ad->Option FSig:=aG VD Vu T56
def L6:Ann:={ loop:=(λr=>if r=3 then ([(3,(.O [.sn 123 2,.buf 1 (some 5)])),(8,.I)],[[(3,(.O [.sn 123 2,.buf 1 (some 5)]))]]) else ([],[])),scalar:=true }
theorem Sr (C:IV->List Nat->List (List IV)->Option (List IV)) (a:IV):run ab T57 C L6 Tryz.f181 [[a]]=il C a:=by kernel_rfl
theorem gO (a:IV):run ab T57 C0 A1 Tryz.f284 [[a]]=da a:=by kernel_rfl
abbrev DG:FSig:=⟨.pure,true,[1],0,λl=>match l with | [[a]]=>da a | _=>none⟩
def T58:ad->Option FSig:=aG DU DG T57
theorem mT (a:IV):run ab T58 C0 A1 Tryz.f285 [[a]]=eF a:=by kernel_rfl
abbrev EI:FSig:=⟨.pure,true,[1],0,λl=>match l with | [[a]]=>eF a | _=>none⟩
def T59:ad->Option FSig:=aG F4 EI T58
def EW:Ann:={ loop:=(λr=>if r=5 then ([(4,.M),(5,(.B 1)),(6,(.B 1)),(17,.I)],[[(5,(.B 1)),(6,(.B 1))]]) else ([],[])) }
theorem K5 (a:IV):run ab T59 C0 EW Tryz.f238 [[a]]=oS a:=by kernel_rfl
abbrev S3:FSig:=⟨.pure,false,[1,1],0,λl=>match l with | [[a]]=>oS a | _=>none⟩
def T60:ad->Option FSig:=aG Q4 S3 T59
theorem Tn (a:IV):run ab T60 C0 A1 Tryz.f128 [[a]]=ya a:=by kernel_rfl
abbrev WA:FSig:=⟨.pure,true,[1],0,λl=>match l with | [[a]]=>ya a | _=>none⟩
def T61:ad->Option FSig:=aG W8 WA T60
def wX:Ann:={ join:=(λr=>if r=6 then some [26] else none),loop:=(λr=>if r=3 then ([(3,(.B 2)),(9,.I)],[[(3,(.B 2))]]) else ([],[])) }
theorem DP (a:IV):run ab T61 C0 wX Tryz.f237 [[a]]=iZ a:=by kernel_rfl
abbrev Gu:FSig:=⟨.pure,false,[1],0,λl=>match l with | [[a]]=>iZ a | _=>none⟩
def T62:ad->Option FSig:=aG GX Gu T61
def CI:Ann:={ loop:=(λr=>if r=3 then ([(3,(.O [.sn 123 2,.buf 1 (some 5)])),(9,.I)],[[(3,(.O [.sn 123 2,.buf 1 (some 5)]))]]) else ([],[])),scalar:=true }
theorem Jp (a:IV):run ab T62 C0 CI Tryz.f186 [[a]]=kp a:=by kernel_rfl
abbrev PS:FSig:=⟨.pure,true,[1],0,λl=>match l with | [[a]]=>kp a | _=>none⟩
def T63:ad->Option FSig:=aG Pw PS T62
def CW:Ann:={ loop:=(λr=>if r=5 then ([(5,(.O [.sn 123 2,.buf 1 (some 5)])),(20,.I)],[[(5,(.O [.sn 123 2,.buf 1 (some 5)]))]]) else ([],[])),scalar:=true }
theorem JY (a:IV):run ab T63 C0 CW Tryz.f187 [[a]]=kA a:=by kernel_rfl
abbrev PB:FSig:=⟨.pure,true,[1],0,λl=>match l with | [[a]]=>kA a | _=>none⟩
def T64:ad->Option FSig:=aG Pr PB T63
theorem qS (a:IV):run ab T64 C0 A1 Tryz.f286 [[a]]=fZ a:=by kernel_rfl
abbrev Di:FSig:=⟨.pure,true,[1],0,λl=>match l with | [[a]]=>fZ a | _=>none⟩
def T65:ad->Option FSig:=aG D1 Di T64
def ED:Ann:={ join:=(λr=>if r=1 then some [2] else none),scalar:=true }
theorem Mf (a:IV):run ab T65 C0 ED Tryz.f193 [[a]]=fu a:=by kernel_rfl
abbrev QZ:FSig:=⟨.pure,true,[1],0,λl=>match l with | [[a]]=>fu a | _=>none⟩
def T66:ad->Option FSig:=aG RH QZ T65
theorem I3:run ab T66 C0 A1 Tryz.f242 []=np:=by kernel_rfl
abbrev PM:FSig:=⟨.pure,true,[30],0,λl=>match l with | []=>np | _=>none⟩
def T67:ad->Option FSig:=aG Po PM T66
def EB:Ann:={ loop:=(λr=>if r=3 then ([(0,.I),(4,.I),(8,.I)],[[(0,.I),(4,.I)]]) else if r=12 then ([(0,.I),(4,.I)],[[(0,.I),(4,.I)]]) else if r=15 then ([(0,.I),(4,.I)],[[(0,.I),(4,.I)]]) else ([],[])),scalar:=true }
theorem LG (a:IV):run ab T67 C0 EB Tryz.f194 [[a]]=jH a:=by kernel_rfl
abbrev Rc:FSig:=⟨.pure,true,[1,1],0,λl=>match l with | [[a]]=>jH a | _=>none⟩
def T68:ad->Option FSig:=aG Sn Rc T67
theorem N7 (a:IV):run ab T68 C0 A1 Tryz.f130 [[a]]=fF a:=by kernel_rfl
abbrev VE:FSig:=⟨.pure,true,[1],0,λl=>match l with | [[a]]=>fF a | _=>none⟩
def T69:ad->Option FSig:=aG V7 VE T68
def si:Ann:={ loop:=(λr=>if r=2 then ([(8,.I)],[[],[(4,.I)]]) else ([],[])),scalar:=true }
theorem zn (a b:IV):run ab T69 C0 si Tryz.f263 [[a],[b]]=fe a b:=by kernel_rfl
abbrev BX:FSig:=⟨.pure,true,[1],0,λl=>match l with | [[a],[b]]=>fe a b | _=>none⟩
def T70:ad->Option FSig:=aG B2 BX T69
def dY:Inl:=nv ab T70 C0 A0 Tryz.f260
def gI:ad->Option FSig:=aG ik ⟨.inl dY,false,[],0,λ_=>none⟩ <| T70
def iy:Inl:=nv ab gI C0 A0 Tryz.f266
def wq:ad->Option FSig:=aG ik ⟨.inl dY,false,[],0,λ_=>none⟩ <| aG eJ ⟨.inl iy,false,[],0,λ_=>none⟩ <| T70
def yK:Ann:={ order:=(λr=>if r=8 then some ([4,5,6],[0,1,2],[3,7,8]) else none),loop:=(λr=>if r=3 then ([(0,.I),(3,(.B 1)),(4,(.C eJ [some 1]))],[[(3,(.B 1))]]) else ([],[])) }
theorem Ft (a:IV):run ab wq C0 yK Tryz.f255 [[a]]=j7 a:=by kernel_rfl
abbrev I2:FSig:=⟨.pure,false,[1],0,λl=>match l with | [[a]]=>j7 a | _=>none⟩
def T71:ad->Option FSig:=aG J4 I2 T70
def zZ:Ann:={ loop:=(λr=>if r=3 then ([(3,(.O [.sn 123 2,.buf 1 (some 5)])),(9,.I)],[[(3,(.O [.sn 123 2,.buf 1 (some 5)]))]]) else ([],[])),scalar:=true }
theorem Hm (a:IV):run ab T71 C0 zZ Tryz.f239 [[a]]=lg a:=by kernel_rfl
abbrev Lj:FSig:=⟨.pure,true,[1],0,λl=>match l with | [[a]]=>lg a | _=>none⟩
def T72:ad->Option FSig:=aG Mq Lj T71
theorem Nw (a:IV):run ab T72 C0 A1 Tryz.f184 [[a]]=bH a:=by kernel_rfl
abbrev Q0:FSig:=⟨.pure,true,[1],0,λl=>match l with | [[a]]=>bH a | _=>none⟩
def T73:ad->Option FSig:=aG Rs Q0 T72
theorem Lr (a:IV):run ab T73 C0 A1 Tryz.f252 [[a]]=mG a:=by kernel_rfl
abbrev RY:FSig:=⟨.pure,true,[1],0,λl=>match l with | [[a]]=>mG a | _=>none⟩
def T74:ad->Option FSig:=aG Rp RY T73
theorem tw (a b:IV):run ab T74 C0 A1 Tryz.f256 [[a],[b]]=qf a b:=by kernel_rfl
abbrev Gn:FSig:=⟨.pure,true,[1],0,λl=>match l with | [[a],[b]]=>qf a b | _=>none⟩
def T75:ad->Option FSig:=aG fQ Gn T74
def eH:Inl:=nv ab T75 (cX) A0 Tryz.f250
def iK:ad->Option FSig:=aG gY ⟨.inl eH,false,[],0,λ_=>none⟩ <| T75
def jn:Inl:=nv ab iK (cX) A0 Tryz.f262
def yH:ad->Option FSig:=aG gY ⟨.inl eH,false,[],0,λ_=>none⟩ <| aG eL ⟨.inl jn,false,[],0,λ_=>none⟩ <| T75
def zU:Ann:={ loop:=(λr=>if r=4 then ([(3,(.C eL [some 1,some 1])),(4,(.O [.sn 123 2,.buf 1 (some 5)])),(10,.I)],[[(4,(.O [.sn 123 2,.buf 1 (some 5)]))]]) else ([],[])),scalar:=true }
theorem GI (a:IV):run ab yH (cX) zU Tryz.f240 [[a]]=lh a:=by kernel_rfl
abbrev MP:FSig:=⟨.pure,true,[1],0,λl=>match l with | [[a]]=>lh a | _=>none⟩
def T76:ad->Option FSig:=aG LA MP T75
def wR:Ann:={ loop:=(λr=>if r=4 then ([(3,(.B 1)),(4,(.B 1)),(12,.I)],[[(3,(.B 1)),(4,(.B 1))]]) else ([],[])),scalar:=true }
theorem Dj (a:IV):run ab T76 C0 wR Tryz.f188 [[a]]=fO a:=by kernel_rfl
abbrev GO:FSig:=⟨.pure,true,[1],0,λl=>match l with | [[a]]=>fO a | _=>none⟩
def T77:ad->Option FSig:=aG Gz GO T76
theorem qW (a:IV):run ab T77 C0 A1 Tryz.f287 [[a]]=gk a:=by kernel_rfl
abbrev Ef:FSig:=⟨.pure,true,[1],0,λl=>match l with | [[a]]=>gk a | _=>none⟩
def T78:ad->Option FSig:=aG Dk Ef T77
theorem VK (C:IV->List Nat->List (List IV)->Option (List IV)) (y:IV):tN ab T78 C A0 Tryz.f288 (PV×List Ob) [.agg [.imm y]] [] (λp h=>some (p,h))=(Aq "bonsai/snap.bytes" bH C y).bind λr=>some (.imm (nth r 0),[.box .rw [.imm y]]):=
 Eq.trans (b:=(C (GL "bonsai/snap.bytes" y) [1] []).bind λr=>(bH (nth r 0)).bind λa=>some (.imm (nth a 0),[.box .rw [.imm y]])) (by kernel_rfl) (WN "bonsai/snap.bytes" bH C y (R:=PV×List Ob) λv=>some (PV.imm v,[Ob.box Md.rw [PV.imm y]]))
def yL:ad->Option FSig:=aG tG ⟨.pure,true,[1],0,λl=>match l with | [[a]]=>il (gF) a | _=>none⟩ <| T78
def AB:Ann:={ order:=(λr=>if r=7 then some ([5,6,7,8],[0,1,2,3],[4,9,10,11]) else if r=8 then some ([5,6,7,8],[0,1,2,3],[4,9,10,11]) else none),loop:=(λr=>if r=5 then ([(3,(.B 1)),(4,(.B 1)),(5,(.B 1)),(6,(.B 1)),(11,.I)],[[(3,(.B 1)),(4,(.B 1)),(5,(.B 1)),(6,(.B 1))]]) else ([],[])),scalar:=true }
theorem Hw (a:IV):run ab yL (gF) AB Tryz.f182 [[a]]=k8 a:=by kernel_rfl
abbrev Mm:FSig:=⟨.pure,true,[1],0,λl=>match l with | [[a]]=>k8 a | _=>none⟩
def T79:ad->Option FSig:=aG K0 Mm T78
def wh:ad->Option FSig:=aG tG ⟨.pure,true,[1],0,λl=>match l with | [[a]]=>il (fK) a | _=>none⟩ <| T79
def yI:Ann:={ order:=(λr=>if r=5 then some ([5,6,7,8],[0,1,2,3],[4,9,10,11]) else none),loop:=(λr=>if r=3 then ([(3,(.B 1)),(4,(.B 1)),(9,.I)],[[(3,(.B 1)),(4,(.B 1))]]) else ([],[])),scalar:=true }
theorem Fc (a:IV):run ab wh (fK) yI Tryz.f183 [[a]]=kl a:=by kernel_rfl
abbrev Js:FSig:=⟨.pure,true,[1],0,λl=>match l with | [[a]]=>kl a | _=>none⟩
def T80:ad->Option FSig:=aG JC Js T79
def z6:ad->Option FSig:=aG tG ⟨.pure,true,[1],0,λl=>match l with | [[a]]=>il (je) a | _=>none⟩ <| T80
def CH:Ann:={ order:=(λr=>if r=3 then some ([],[0,1,2,3,4,5,6,7,8,9,10,11,12,13,14,15,16,17,18,19,20,21],[]) else none),join:=(λr=>if r=1 then some [25] else none) }
theorem Ji (a b c d e:IV):run ab z6 (je) CH Tryz.f119 [[a,b,c,d,e]]=nf a b c d e:=by kernel_rfl
abbrev Pv:FSig:=⟨.pure,false,[1,1],0,λl=>match l with | [[a,b,c,d,e]]=>nf a b c d e | _=>none⟩
def T81:ad->Option FSig:=aG NQ Pv T80
def AL:Ann:={ order:=(λr=>if r=10 then some ([6,7,8,9,10,11],[0,1,2,3,4],[5,12,13,14]) else if r=11 then some ([5,6,7,8],[0,1,2,3],[4,9,10,11]) else if r=12 then some ([5,6,7,8],[0,1,2,3],[4,9,10,11]) else none),loop:=(λr=>if r=8 then ([(4,(.B 1)),(5,(.B 1)),(6,(.B 1)),(7,(.B 1)),(8,(.B 1)),(9,(.B 1)),(17,.I)],[[(4,(.B 1)),(5,(.B 1)),(6,(.B 1)),(7,(.B 1)),(8,(.B 1)),(9,(.B 1))]]) else ([],[])) }
theorem Gp (a:IV):run ab T81 C0 AL Tryz.f120 [[a]]=lM a:=by kernel_rfl
abbrev Lw:FSig:=⟨.pure,false,[1,1],0,λl=>match l with | [[a]]=>lM a | _=>none⟩
def T82:ad->Option FSig:=aG K4 Lw T81
def pR:Ann:={ loop:=(λr=>if r=3 then ([(3,.I),(11,.I)],[[(3,.I)]]) else if r=11 then ([(6,(.B 2)),(27,.I)],[[(6,(.B 2))]]) else ([],[])) }
theorem wM (a:IV):run ab T82 C0 pR Tryz.f121 [[a]]=dM a:=by kernel_rfl
abbrev zj:FSig:=⟨.pure,false,[1],0,λl=>match l with | [[a]]=>dM a | _=>none⟩
def T83:ad->Option FSig:=aG y8 zj T82
theorem Gg (a b c d e:IV):run ab T83 C0 A0 Tryz.f55 [[a,b,c,d,e]]=py a b c d e:=by kernel_rfl
abbrev M4:FSig:=⟨.pure,false,[1,1],0,λl=>match l with | [[a,b,c,d,e]]=>py a b c d e | _=>none⟩
def T84:ad->Option FSig:=aG KH M4 T83
def Nx:Ann:={ loop:=(λr=>if r=3 then ([(5,.I),(13,.I)],[[(5,.I)]]) else if r=7 then ([(5,.I),(21,.I)],[[(5,.I)]]) else ([],[])),scalar:=true }
theorem Q2 (a b:IV):run ab T84 C0 Nx Tryz.f257 [[a],[b]]=yA a b:=by kernel_rfl
abbrev WG:FSig:=⟨.pure,true,[1],0,λl=>match l with | [[a],[b]]=>yA a b | _=>none⟩
def T85:ad->Option FSig:=aG WL WG T84
theorem UK (a:IV):run ab T85 C0 A1 Tryz.f241 [[a]]=wv a:=by kernel_rfl
abbrev Z0:FSig:=⟨.pure,true,[1],0,λl=>match l with | [[a]]=>wv a | _=>none⟩
def T86:ad->Option FSig:=aG Z3 Z0 T85
def Ga:Ann:={ loop:=(λr=>if r=3 then ([(3,(.B 1)),(8,.I)],[[(3,(.B 1))]]) else ([],[])),scalar:=true }
theorem Np (a:IV):run ab T86 C0 Ga Tryz.f129 [[a]]=o8 a:=by kernel_rfl
abbrev Tc:FSig:=⟨.pure,true,[1],0,λl=>match l with | [[a]]=>o8 a | _=>none⟩
def T87:ad->Option FSig:=aG Sd Tc T86
theorem Hh (a:IV):run ab T87 C0 A1 Tryz.f190 [[a]]=ga a:=by kernel_rfl
abbrev Ky:FSig:=⟨.pure,true,[1],0,λl=>match l with | [[a]]=>ga a | _=>none⟩
def T88:ad->Option FSig:=aG Mk Ky T87
def HV:Ann:={ order:=(λr=>if r=1 then some ([],[0,1,2,3,4,5,6,7,8,9,10,11,12,13,14,15],[]) else none),scalar:=true }
theorem NR (a b:IV):run ab T88 C0 HV Tryz.f123 [[a,b]]=re a b:=by kernel_rfl
abbrev Vf:FSig:=⟨.pure,true,[1],0,λl=>match l with | [[a,b]]=>re a b | _=>none⟩
def T89:ad->Option FSig:=aG Uz Vf T88
def EO:Ann:={ join:=(λr=>if r=1 then some [15] else if r=10 then some [26] else none),loop:=(λr=>if r=8 then ([(6,(.O [.sn 123 2,.buf 1 (some 5)])),(7,.I),(22,.I)],[[(6,(.O [.sn 123 2,.buf 1 (some 5)]))],[(4,.I),(5,.I)]]) else ([],[])),scalar:=true }
theorem Ns (a b:IV):run ab T89 C0 EO Tryz.f56 [[a],[b]]=oW a b:=by kernel_rfl
abbrev Ti:FSig:=⟨.pure,true,[1,1],0,λl=>match l with | [[a],[b]]=>oW a b | _=>none⟩
def T90:ad->Option FSig:=aG Tg Ti T89
theorem Ma (a b c d e:IV):run ab T90 C0 A1 Tryz.f26 [[a,b,c,d,e]]=gW a b c d e:=by kernel_rfl
abbrev SL:FSig:=⟨.pure,true,[1,1],0,λl=>match l with | [[a,b,c,d,e]]=>gW a b c d e | _=>none⟩
def T91:ad->Option FSig:=aG SW SL T90
def ow:Ann:={ join:=(λr=>if r=1 then some [4] else none),scalar:=true }
theorem uK (a b:IV):run ab T91 C0 ow Tryz.f243 [[a],[b]]=ez a b:=by kernel_rfl
abbrev xi:FSig:=⟨.pure,true,[1],0,λl=>match l with | [[a],[b]]=>ez a b | _=>none⟩
def T92:ad->Option FSig:=aG wN xi T91
theorem uH (a b:IV):run ab T92 C0 A1 Tryz.f195 [[a],[b]]=eE a b:=by kernel_rfl
abbrev wm:FSig:=⟨.pure,true,[1,1],0,λl=>match l with | [[a],[b]]=>eE a b | _=>none⟩
def T93:ad->Option FSig:=aG xg wm T92
theorem zg (a b:IV):run ab T93 C0 A1 Tryz.f131 [[a],[b]]=iU a b:=by kernel_rfl
abbrev B9:FSig:=⟨.pure,true,[1,1],0,λl=>match l with | [[a],[b]]=>iU a b | _=>none⟩
def T94:ad->Option FSig:=aG B5 B9 T93
theorem Er (a:IV):run ab T94 C0 A1 Tryz.f63 [[a]]=dD a:=by kernel_rfl
abbrev Jh:FSig:=⟨.pure,true,[1,1],0,λl=>match l with | [[a]]=>dD a | _=>none⟩
def T95:ad->Option FSig:=aG JQ Jh T94
theorem RX (a:IV):runN ab T95 C0 A0 [.imm,.imm] Tryz.f64 [[a]]=cn a:=by kernel_rfl
abbrev XK:FSig:=⟨.mko [.imm,.imm],false,[1],0,λl=>match l with | [[a]]=>cn a | _=>none⟩
def T96:ad->Option FSig:=aG Lg XK T95
theorem NS (a b:IV):run ab T96 C0 A1 Tryz.f134 [[a],[b]]=cm a b:=by kernel_rfl
abbrev VZ:FSig:=⟨.pure,true,[],0,λl=>match l with | [[a],[b]]=>cm a b | _=>none⟩
def T97:ad->Option FSig:=aG TK VZ T96
def dU:Ann:={ join:=(λr=>if r=1 then some [] else none) }
def cu:Inl:=nv ab T97 C0 dU Tryz.f197
def ej:ad->Option FSig:=aG gM ⟨.inl cu,false,[],0,λ_=>none⟩ <| T97
def eu:Ann:={ order:=(λr=>if r=3 then some ([0],[1,2,3,4,5],[6,7,8,9]) else none),join:=(λr=>if r=1 then some [12] else none) }
def ey:Inl:=TA ab ej C0 eu gu Tryz.f132
def sb:ad->Option FSig:=aG gM ⟨.inl cu,false,[],0,λ_=>none⟩ <| aG gh ⟨.inl ey,false,[],0,λ_=>none⟩ <| T97
theorem AO (a b c:IV):runM ab sb C0 A0 [.imm,.imm] Tryz.f138 [a,b] [[c]]=b8 a b c:=by kernel_rfl
abbrev Eh:FSig:=⟨.obj [.imm,.imm],false,[1],0,λl=>match l with | [[a,b],[c]]=>b8 a b c | _=>none⟩
def T98:ad->Option FSig:=aG tX Eh T97
def eA:Ann:={ join:=(λr=>if r=6 then some [] else none),loop:=(λr=>if r=4 then ([(1,(.K 3 [.imm])),(4,.I),(5,.I)],[[(1,(.K 3 [.imm])),(3,.I)]]) else ([],[])) }
def cQ:Inl:=nv ab T98 C0 eA Tryz.f133
def eo:ad->Option FSig:=aG iR ⟨.inl cQ,false,[],0,λ_=>none⟩ <| T98
def fm:Ann:={ order:=(λr=>if r=3 then some ([0],[1,2,3,4,5],[6,7,8,9]) else none),join:=(λr=>if r=1 then some [12] else none) }
def fk:Inl:=TA ab eo C0 fm gu Tryz.f132
def tI:ad->Option FSig:=aG iR ⟨.inl cQ,false,[],0,λ_=>none⟩ <| aG gh ⟨.inl fk,false,[],0,λ_=>none⟩ <| T98
theorem B3 (a b:IV):runM ab tI C0 A0 [.imm,.imm] Tryz.f65 [a,b] []=aA a b:=by kernel_rfl
abbrev EJ:FSig:=⟨.obj [.imm,.imm],false,[1],0,λl=>match l with | [[a,b]]=>aA a b | _=>none⟩
def T99:ad->Option FSig:=aG uO EJ T98
theorem Cj (a:IV):run ab T99 C0 A1 Tryz.f66 [[a]]=kU a:=by kernel_rfl
abbrev Ew:FSig:=⟨.look 2,false,[1],0,λl=>match l with | vs::ws=>(λl=>match l with | [[a]]=>kU a | _=>none) ([.ptr vs 0]::ws) | []=>none⟩
def afa:ad->Option FSig:=aG pB Ew T99
theorem Bn (a:IV):run ab afa C0 A1 Tryz.f142 [[a]]=jQ a:=by kernel_rfl
abbrev D2:FSig:=⟨.look 2,false,[1],0,λl=>match l with | vs::ws=>(λl=>match l with | [[a]]=>jQ a | _=>none) ([.ptr vs 0]::ws) | []=>none⟩
def aer:ad->Option FSig:=aG nY D2 afa
def CX:Ann:={ order:=(λr=>if r=15 then some ([],[0,1,2,3,4,5,6,7,8],[]) else none),scalar:=true }
theorem JH (a:IV):run ab aer C0 CX Tryz.f158 [[a]]=m5 a:=by kernel_rfl
abbrev NM:FSig:=⟨.pure,true,[2,1,1],0,λl=>match l with | [[a]]=>m5 a | _=>none⟩
def ael:ad->Option FSig:=aG NK NM aer
def C9:Ann:={ order:=(λr=>if r=12 then some ([4,5,6,7,8],[0,1,2],[3,9,10,11]) else none),loop:=(λr=>if r=7 then ([(0,.I),(7,(.B 2)),(8,.I)],[[(7,(.B 2))],[(2,.I),(3,.I),(4,.I)]]) else ([],[])) }
theorem Jy (a:IV):run ab ael C0 C9 Tryz.f92 [[a]]=ko a:=by kernel_rfl
abbrev Ph:FSig:=⟨.pure,false,[1,1,1],0,λl=>match l with | [[a]]=>ko a | _=>none⟩
def ae7:ad->Option FSig:=aG OM Ph ael
def uz:Ann:={ join:=(λr=>if r=2 then some [12] else none) }
theorem Bm (a b:IV):runM ab ae7 C0 uz [.imm,.imm] Tryz.f68 [a,b] []=b9 a b:=by kernel_rfl
abbrev Dy:FSig:=⟨.obj [.imm,.imm],false,[1],0,λl=>match l with | [[a,b]]=>b9 a b | _=>none⟩
def T104:ad->Option FSig:=aG th Dy ae7
theorem N8 (a b:IV):runN ab T104 C0 A0 [.imm,.imm,.imm] Tryz.f211 [[a],[b]]=snap_open_s a b:=by kernel_rfl
abbrev S_snap_open:FSig:=⟨.mko [.imm,.imm,.imm],false,[1],0,λl=>match l with | [[a],[b]]=>snap_open_s a b | _=>none⟩
def aeb:ad->Option FSig:=aG n_snap_open S_snap_open T104
def zy:Ann:={ order:=(λr=>if r=4 then some ([],[0,1,2,3,4,5,6,7,8,9],[]) else none),loop:=(λr=>if r=2 then ([(3,.I)],[[],[(2,.I)]]) else ([],[])),scalar:=true }
theorem Gw (a:IV):run ab aeb C0 zy Tryz.f218 [[a]]=lF a:=by kernel_rfl
abbrev MZ:FSig:=⟨.pure,true,[1],0,λl=>match l with | [[a]]=>lF a | _=>none⟩
def aeA:ad->Option FSig:=aG M9 MZ aeb
def Iu:Ann:={ order:=(λr=>if r=8 then some ([],[0,1,2,3,4,5,6,7,8,9,10],[]) else none),scalar:=true }
theorem Pq (a:IV):run ab aeA C0 Iu Tryz.f222 [[a]]=bI a:=by kernel_rfl
abbrev UD:FSig:=⟨.pure,true,[1,1,1],0,λl=>match l with | [[a]]=>bI a | _=>none⟩
def aew:ad->Option FSig:=aG Vm UD aeA
theorem KI (a:IV):run ab aew C0 A1 Tryz.f173 [[a]]=ct a:=by kernel_rfl
abbrev Ro:FSig:=⟨.pure,true,[],0,λl=>match l with | [[a]]=>ct a | _=>none⟩
def ad6:ad->Option FSig:=aG Sw Ro aew
theorem Pp (a:IV):run ab ad6 C0 A1 Tryz.f164 [[a]]=l7 a:=by kernel_rfl
abbrev Ve:FSig:=⟨.pure,true,[1,1],0,λl=>match l with | [[a]]=>l7 a | _=>none⟩
def aeQ:ad->Option FSig:=aG Uy Ve ad6
theorem MV (a b:IV):run ab aeQ C0 A1 Tryz.f265 [[a],[b]]=sJ a b:=by kernel_rfl
abbrev Td:FSig:=⟨.pure,true,[1,1],0,λl=>match l with | [[a],[b]]=>sJ a b | _=>none⟩
def aeK:ad->Option FSig:=aG Sx Td aeQ
theorem LL (a b:IV):run ab aeK C0 A1 Tryz.f264 [[a],[b]]=Ey a b:=by kernel_rfl
abbrev S0:FSig:=⟨.pure,true,[1,1],0,λl=>match l with | [[a],[b]]=>Ey a b | _=>none⟩
def afg:ad->Option FSig:=aG SP S0 aeK
theorem Rx (a b:IV):run ab afg C0 A1 Tryz.f259 [[a],[b]]=qm a b:=by kernel_rfl
abbrev XM:FSig:=⟨.pure,true,[1,1],0,λl=>match l with | [[a],[b]]=>qm a b | _=>none⟩
def aey:ad->Option FSig:=aG Xr XM afg
def qU:Ann:={ order:=(λr=>if r=9 then some ([0],[1,2,3,4,5,6],[7,8,9]) else none),join:=(λr=>if r=4 then some [26] else none),loop:=(λr=>if r=8 then ([(7,(.B 1)),(8,.I)],[[(7,(.B 1))]]) else ([],[])) }
theorem xt (a b:IV):run ab aey C0 qU Tryz.f261 [[a],[b]]=ei a b:=by kernel_rfl
abbrev Aa:FSig:=⟨.pure,false,[1],0,λl=>match l with | [[a],[b]]=>ei a b | _=>none⟩
def abv:ad->Option FSig:=aG Bx Aa aey
def eT:Inl:=nv ab abv C0 A0 Tryz.f260
def iC:ad->Option FSig:=aG ik ⟨.inl eT,false,[],0,λ_=>none⟩ <| abv
def jh:Inl:=nv ab iC C0 A0 Tryz.f266
def y1:ad->Option FSig:=aG ik ⟨.inl eT,false,[],0,λ_=>none⟩ <| aG eJ ⟨.inl jh,false,[],0,λ_=>none⟩ <| abv
def AU:Ann:={ join:=(λr=>if r=1 then some [22] else if r=8 then some [42] else none),loop:=(λr=>if r=6 then ([(6,(.B 1)),(7,(.C eJ [some 1])),(26,.I)],[[(6,(.B 1))],[(4,.I),(5,.I)]]) else ([],[])) }
theorem Hu (a b:IV):run ab y1 C0 AU Tryz.f249 [[a],[b]]=k9 a b:=by kernel_rfl
abbrev KF:FSig:=⟨.pure,false,[1,1],0,λl=>match l with | [[a],[b]]=>k9 a b | _=>none⟩
def aeJ:ad->Option FSig:=aG KK KF abv
def AW:Ann:={ join:=(λr=>if r=13 then some [44] else if r=18 then some [65] else none),loop:=(λr=>if r=8 then ([(6,(.O [.imm,.imm])),(7,(.B 1)),(8,.I)],[[(7,(.B 1)),(8,.I)],[(4,.I),(5,.I)]]) else ([],[])) }
theorem GV (a b:IV):run ab aeJ C0 AW Tryz.f230 [[a],[b]]=lq a b:=by kernel_rfl
abbrev Nz:FSig:=⟨.pure,false,[1,1],0,λl=>match l with | [[a],[b]]=>lq a b | _=>none⟩
def aea:ad->Option FSig:=aG LD Nz aeJ
theorem JU (a b:IV):run ab aea C0 A0 Tryz.f229 [[a],[b]]=qI a b:=by kernel_rfl
abbrev O1:FSig:=⟨.pure,false,[1],0,λl=>match l with | [[a],[b]]=>qI a b | _=>none⟩
def aeo:ad->Option FSig:=aG OD O1 aea
def C8:Ann:={ loop:=(λr=>if r=3 then ([(3,.I),(8,.I)],[[(3,.I)]]) else ([],[])),scalar:=true }
theorem JT (a:IV):run ab aeo C0 C8 Tryz.f232 [[a]]=m7 a:=by kernel_rfl
abbrev Pj:FSig:=⟨.pure,true,[1],0,λl=>match l with | [[a]]=>m7 a | _=>none⟩
def aeG:ad->Option FSig:=aG N6 Pj aeo
def FT:Ann:={ join:=(λr=>if r=1 then some [2] else none),scalar:=true }
theorem Mb (a:IV):run ab aeG C0 FT Tryz.f141 [[a]]=o6 a:=by kernel_rfl
abbrev RI:FSig:=⟨.pure,true,[1],0,λl=>match l with | [[a]]=>o6 a | _=>none⟩
def aeI:ad->Option FSig:=aG Tm RI aeG
def FC:Ann:={ loop:=(λr=>if r=2 then ([(0,.I),(1,.I),(8,.I)],[[(0,.I)]]) else if r=4 then ([(0,.I),(1,.I)],[[(0,.I),(1,.I)]]) else if r=7 then ([(0,.I),(1,.I)],[[(0,.I),(1,.I)]]) else ([],[])),scalar:=true }
theorem KE (a b:IV):run ab aeI C0 FC Tryz.f199 [[a],[b]]=jL a b:=by kernel_rfl
abbrev SV:FSig:=⟨.pure,true,[1],0,λl=>match l with | [[a],[b]]=>jL a b | _=>none⟩
def aeU:ad->Option FSig:=aG RF SV aeI
def Fb:Ann:={ join:=(λr=>if r=4 then some [19] else none),scalar:=true }
theorem KS (a:IV):run ab aeU C0 Fb Tryz.f140 [[a]]=my a:=by kernel_rfl
abbrev RK:FSig:=⟨.pure,true,[1],0,λl=>match l with | [[a]]=>my a | _=>none⟩
def aeT:ad->Option FSig:=aG Re RK aeU
theorem tV (a b:IV):run ab aeT C0 A1 Tryz.f251 [[a],[b]]=qa a b:=by kernel_rfl
abbrev Hf:FSig:=⟨.pure,true,[1],0,λl=>match l with | [[a],[b]]=>qa a b | _=>none⟩
def aaX:ad->Option FSig:=aG fL Hf aeT
def eO:Inl:=nv ab aaX (cY) A0 Tryz.f250
def iD:ad->Option FSig:=aG gY ⟨.inl eO,false,[],0,λ_=>none⟩ <| aaX
def ji:Inl:=nv ab iD (cY) A0 Tryz.f262
def yP:ad->Option FSig:=aG gY ⟨.inl eO,false,[],0,λ_=>none⟩ <| aG eL ⟨.inl ji,false,[],0,λ_=>none⟩ <| aaX
def Ai:Ann:={ loop:=(λr=>if r=9 then ([(6,(.C eL [some 1,some 1])),(7,(.O [.imm,.imm])),(8,(.B 1)),(24,.I)],[[(7,(.O [.imm,.imm])),(8,(.B 1))],[(4,.I),(5,.I)]]) else ([],[])) }
theorem HB (a b:IV):run ab yP (cY) Ai Tryz.f231 [[a],[b]]=lx a b:=by kernel_rfl
abbrev MM:FSig:=⟨.pure,false,[1,1],0,λl=>match l with | [[a],[b]]=>lx a b | _=>none⟩
def ae1:ad->Option FSig:=aG MS MM aaX
theorem JS (a b:IV):run ab ae1 C0 A0 Tryz.f171 [[a],[b]]=kr a b:=by kernel_rfl
abbrev OG:FSig:=⟨.pure,false,[1],0,λl=>match l with | [[a],[b]]=>kr a b | _=>none⟩
def aet:ad->Option FSig:=aG OE OG ae1
theorem NU (a b:IV):run ab aet C0 A1 Tryz.f233 [[a],[b]]=qK a b:=by kernel_rfl
abbrev Uj:FSig:=⟨.pure,true,[1],0,λl=>match l with | [[a],[b]]=>qK a b | _=>none⟩
def abp:ad->Option FSig:=aG TZ Uj aet
def eG:Ann:={ order:=(λr=>if r=8 then some ([],[0,1,2,3,4,5,6],[]) else none),loop:=(λr=>if r=4 then ([(2,(.K 2 [.buf 1])),(6,.I),(30,.I)],[[(2,(.K 2 [.buf 1]))]]) else ([],[])) }
def cK:Inl:=nv ab abp C0 eG Tryz.f228
def gL:ad->Option FSig:=aG iT ⟨.inl cK,false,[],0,λ_=>none⟩ <| abp
def iA:Inl:=TA ab gL C0 A0 mA Tryz.f161
def td:ad->Option FSig:=aG iT ⟨.inl cK,false,[],0,λ_=>none⟩ <| aG nG ⟨.inl iA,false,[],0,λ_=>none⟩ <| abp
theorem B4 (a b:IV):run ab td C0 A0 Tryz.f172 [[a],[b]]=ar a b:=by kernel_rfl
abbrev EC:FSig:=⟨.pure,false,[1,1],0,λl=>match l with | [[a],[b]]=>ar a b | _=>none⟩
def ad7:ad->Option FSig:=aG F9 EC abp
def HS:Ann:={ join:=(λr=>if r=1 then some [19] else if r=7 then some [32] else none),scalar:=true }
theorem On (a b c:IV):run ab ad7 C0 HS Tryz.f137 [[a],[b],[c]]=rj a b c:=by kernel_rfl
abbrev Tz:FSig:=⟨.pure,true,[1,1,1],0,λl=>match l with | [[a],[b],[c]]=>rj a b c | _=>none⟩
def aeF:ad->Option FSig:=aG TF Tz ad7
def KM:Ann:={ order:=(λr=>if r=4 then some ([],[0,1,2,3,4,5,6,7,8,9,10,11,12,13,14,15,16,17],[]) else none),join:=(λr=>if r=4 then some [29] else none),loop:=(λr=>if r=2 then ([(7,.I)],[[],[(2,.I)]]) else ([],[])),scalar:=true }
theorem RE (a:IV):run ab aeF C0 KM Tryz.f247 [[a]]=uv a:=by kernel_rfl
abbrev XH:FSig:=⟨.pure,true,[1],0,λl=>match l with | [[a]]=>uv a | _=>none⟩
def afb:ad->Option FSig:=aG WJ XH aeF
def oZ:Ann:={ order:=(λr=>if r=9 then some ([0],[1,2,3,4,5,6],[7,8,9]) else none),join:=(λr=>if r=4 then some [26] else none),loop:=(λr=>if r=8 then ([(7,(.B 1)),(8,.I)],[[(7,(.B 1))]]) else ([],[])) }
theorem wb (a b:IV):run ab afb C0 oZ Tryz.f248 [[a],[b]]=di a b:=by kernel_rfl
abbrev ye:FSig:=⟨.pure,false,[1],0,λl=>match l with | [[a],[b]]=>di a b | _=>none⟩
def aff:ad->Option FSig:=aG xl ye afb
def CP:Ann:={ join:=(λr=>if r=1 then some [15] else none),loop:=(λr=>if r=5 then ([(6,(.B 1)),(18,.I)],[[(6,(.B 1))],[(4,.I),(5,.I)]]) else ([],[])) }
theorem IZ (a b:IV):run ab aff C0 CP Tryz.f225 [[a],[b]]=m9 a b:=by kernel_rfl
abbrev PR:FSig:=⟨.pure,false,[1,1],0,λl=>match l with | [[a],[b]]=>m9 a b | _=>none⟩
def aeh:ad->Option FSig:=aG Ot PR aff
def C4:Ann:={ join:=(λr=>if r=14 then some [59] else none),loop:=(λr=>if r=8 then ([(6,(.O [.imm,.imm])),(7,(.B 2)),(8,.I)],[[(7,(.B 2)),(8,.I)],[(4,.I),(5,.I)]]) else ([],[])) }
theorem JF (a b:IV):run ab aeh C0 C4 Tryz.f168 [[a],[b]]=kG a b:=by kernel_rfl
abbrev Oz:FSig:=⟨.pure,false,[1,1],0,λl=>match l with | [[a],[b]]=>kG a b | _=>none⟩
def afm:ad->Option FSig:=aG OS Oz aeh
def LS:Ann:={ join:=(λr=>if r=5 then some [26] else if r=15 then some [4] else none),loop:=(λr=>if r=3 then ([(5,.I),(13,.I)],[[(5,.I)],[(4,.I)]]) else if r=11 then ([(8,.M),(35,.I)],[[(8,.M)]]) else ([],[])),scalar:=true }
theorem SI (a b:IV):run ab afm C0 LS Tryz.f226 [[a],[b]]=tl a b:=by kernel_rfl
abbrev WM:FSig:=⟨.pure,true,[1],0,λl=>match l with | [[a],[b]]=>tl a b | _=>none⟩
def aeW:ad->Option FSig:=aG Xz WM afm
def IU:Ann:={ order:=(λr=>if r=5 then some ([],[0,1,2,3,4,5,6,7,8,9,10,11,12,13],[14,15,16]) else none),loop:=(λr=>if r=3 then ([(6,(.B 1)),(14,.I)],[[(6,(.B 1))],[(4,.I),(5,.I)]]) else ([],[])) }
theorem NP (a b:IV):run ab aeW C0 IU Tryz.f227 [[a],[b]]=qZ a b:=by kernel_rfl
abbrev V3:FSig:=⟨.pure,false,[1,1],0,λl=>match l with | [[a],[b]]=>qZ a b | _=>none⟩
def aeZ:ad->Option FSig:=aG TV V3 aeW
def C6:Ann:={ loop:=(λr=>if r=15 then ([(11,(.B 1)),(12,.I),(47,.I)],[[(11,(.B 1)),(12,.I)],[(6,.I),(7,.I)]]) else ([],[])) }
theorem J3 (a b c:IV):run ab aeZ C0 C6 Tryz.f170 [[a],[b],[c]]=bT a b c:=by kernel_rfl
abbrev PN:FSig:=⟨.pure,false,[1,1],0,λl=>match l with | [[a],[b],[c]]=>bT a b c | _=>none⟩
def aeD:ad->Option FSig:=aG PG PN aeZ
theorem R7 (a:IV):run ab aeD C0 A1 Tryz.f246 [[a]]=qq a:=by kernel_rfl
abbrev WQ:FSig:=⟨.pure,true,[1],0,λl=>match l with | [[a]]=>qq a | _=>none⟩
def ac2:ad->Option FSig:=aG X0 WQ aeD
theorem Cd (a b:IV):runM ab ac2 C0 A0 [.imm,.imm] Tryz.f223 [a,b] []=gU a b:=by kernel_rfl
theorem xj:run ab ac2 C0 A0 Tryz.f223 [[.nilp]]=sd:=by kernel_rfl
abbrev E7:FSig:=⟨.obj [.imm,.imm],false,[1],0,λl=>match l with | [[a,b]]=>gU a b | [[a]]=>CV a (sd) | _=>none⟩
def aft:ad->Option FSig:=aG vu E7 ac2
def F8:Ann:={ loop:=(λr=>if r=4 then ([(3,(.B 1)),(4,.I),(9,.I)],[[(3,(.B 1))]]) else ([],[])) }
theorem Ny (a:IV):run ab aft C0 F8 Tryz.f224 [[a]]=pj a:=by kernel_rfl
abbrev Sl:FSig:=⟨.pure,false,[1],0,λl=>match l with | [[a]]=>pj a | _=>none⟩
def aeE:ad->Option FSig:=aG R0 Sl aft
def zE:Ann:={ loop:=(λr=>if r=8 then ([(6,(.O [.imm,.imm])),(7,(.B 1)),(20,.I)],[[(6,(.O [.imm,.imm])),(7,(.B 1))]]) else ([],[])) }
theorem HI (a b:IV):run ab aeE C0 zE Tryz.f166 [[a],[b]]=bo a b:=by kernel_rfl
abbrev K9:FSig:=⟨.pure,false,[1,1],0,λl=>match l with | [[a],[b]]=>bo a b | _=>none⟩
def SN:ad->Option FSig:=aG ML K9 aeE
def aO:Inl:=nv ab SN C0 A0 Tryz.f212
def gG:ad->Option FSig:=aG cT ⟨.inl aO,false,[],0,λ_=>none⟩ <| SN
def bg:Inl:=nv ab gG C0 A0 Tryz.f213
def gq:ad->Option FSig:=aG cT ⟨.inl aO,false,[],0,λ_=>none⟩ <| aG cI ⟨.inl bg,false,[],0,λ_=>none⟩ <| SN
def bu:Inl:=nv ab gq C0 A0 Tryz.f215
def fA:ad->Option FSig:=aG cT ⟨.inl aO,false,[],0,λ_=>none⟩ <| aG cI ⟨.inl bg,false,[],0,λ_=>none⟩ <| aG eC ⟨.inl bu,false,[],0,λ_=>none⟩ <| SN
def cf:Inl:=nv ab fA C0 A0 Tryz.f214
def fW:ad->Option FSig:=aG cT ⟨.inl aO,false,[],0,λ_=>none⟩ <| aG cI ⟨.inl bg,false,[],0,λ_=>none⟩ <| aG eC ⟨.inl bu,false,[],0,λ_=>none⟩ <| aG fT ⟨.inl cf,false,[],0,λ_=>none⟩ <| SN
def dh:Inl:=nv ab fW C0 A0 Tryz.f217
def fg:ad->Option FSig:=aG cT ⟨.inl aO,false,[],0,λ_=>none⟩ <| aG cI ⟨.inl bg,false,[],0,λ_=>none⟩ <| aG eC ⟨.inl bu,false,[],0,λ_=>none⟩ <| aG fT ⟨.inl cf,false,[],0,λ_=>none⟩ <| aG kS ⟨.inl dh,false,[],0,λ_=>none⟩ <| SN
def fD:Inl:=nv ab fg C0 A0 Tryz.f216
def wJ:ad->Option FSig:=aG cT ⟨.inl aO,false,[],0,λ_=>none⟩ <| aG cI ⟨.inl bg,false,[],0,λ_=>none⟩ <| aG eC ⟨.inl bu,false,[],0,λ_=>none⟩ <| aG fT ⟨.inl cf,false,[],0,λ_=>none⟩ <| aG kS ⟨.inl dh,false,[],0,λ_=>none⟩ <| aG mW ⟨.inl fD,false,[],0,λ_=>none⟩ <| SN
def y0:Ann:={ order:=(λr=>if r=3 then some ([3,4],[0,1],[2,5,6,7]) else if r=7 then some ([],[0,1,2,3,4,5],[]) else if r=12 then some ([],[0,1,2,3,4,5,6,7,8,9,10,11,12,13,14,15,16,17],[18]) else none),loop:=(λr=>if r=10 then ([(10,(.B 4)),(41,.I)],[[(10,.I)],[(2,.I),(3,.I)]]) else ([],[])) }
theorem FB (a:IV):run ab wJ C0 y0 Tryz.f159 [[a]]=jV a:=by kernel_rfl
abbrev Jz:FSig:=⟨.pure,false,[1,1],0,λl=>match l with | [[a]]=>jV a | _=>none⟩
def ZJ:ad->Option FSig:=aG JK Jz SN
def bS:Inl:=nv ab ZJ C0 A0 Tryz.f219
def gz:ad->Option FSig:=aG gm ⟨.inl bS,false,[],0,λ_=>none⟩ <| ZJ
def dr:Inl:=nv ab gz C0 A0 Tryz.f213
def gy:ad->Option FSig:=aG gm ⟨.inl bS,false,[],0,λ_=>none⟩ <| aG cI ⟨.inl dr,false,[],0,λ_=>none⟩ <| ZJ
def gP:Inl:=nv ab gy C0 A0 Tryz.f220
def vD:ad->Option FSig:=aG gm ⟨.inl bS,false,[],0,λ_=>none⟩ <| aG cI ⟨.inl dr,false,[],0,λ_=>none⟩ <| aG rO ⟨.inl gP,false,[],0,λ_=>none⟩ <| ZJ
def xe:Ann:={ order:=(λr=>if r=3 then some ([3,4],[0,1],[2,5,6,7]) else if r=5 then some ([],[0,1,2,3,4,5],[]) else if r=10 then some ([],[0,1,2,3,4,5,6,7,8,9,10],[11,12]) else none),loop:=(λr=>if r=8 then ([(8,(.B 2)),(32,.I)],[[(8,.I)]]) else ([],[])) }
theorem DZ (a:IV):run ab vD C0 xe Tryz.f160 [[a]]=jf a:=by kernel_rfl
abbrev Gm:FSig:=⟨.pure,false,[1,1],0,λl=>match l with | [[a]]=>jf a | _=>none⟩
def aej:ad->Option FSig:=aG HE Gm ZJ
def Cx:Ann:={ join:=(λr=>if r=1 then some [33] else if r=7 then some [51] else none) }
theorem Jq (a:IV):run ab aej C0 Cx Tryz.f94 [[a]]=mZ a:=by kernel_rfl
abbrev Px:FSig:=⟨.pure,false,[5,1],0,λl=>match l with | [[a]]=>mZ a | _=>none⟩
def aeq:ad->Option FSig:=aG Py Px aej
theorem Jd (a:IV):run ab aeq C0 A1 Tryz.f163 [[a]]=m4 a:=by kernel_rfl
abbrev Pu:FSig:=⟨.pure,true,[1],0,λl=>match l with | [[a]]=>m4 a | _=>none⟩
def ae8:ad->Option FSig:=aG Pd Pu aeq
theorem Jm (a b:IV):run ab ae8 C0 A0 Tryz.f165 [[a],[b]]=kI a b:=by kernel_rfl
abbrev OT:FSig:=⟨.pure,false,[1],0,λl=>match l with | [[a],[b]]=>kI a b | _=>none⟩
def afe:ad->Option FSig:=aG Pb OT ae8
theorem J6 (a b:IV):run ab afe C0 A0 Tryz.f167 [[a],[b]]=qD a b:=by kernel_rfl
abbrev Oc:FSig:=⟨.pure,false,[1],0,λl=>match l with | [[a],[b]]=>qD a b | _=>none⟩
def aep:ad->Option FSig:=aG PC Oc afe
theorem J0 (a b:IV):run ab aep C0 A0 Tryz.f169 [[a],[b]]=qy a b:=by kernel_rfl
abbrev Ox:FSig:=⟨.pure,false,[1],0,λl=>match l with | [[a],[b]]=>qy a b | _=>none⟩
def aak:ad->Option FSig:=aG Oo Ox aep
def iL:Ann:={ order:=(λr=>if r=10 then some ([],[0,1,2,3,4,5,6,7,8,9,10,11,12,13,14,15,16,17,18,19,20,21,22,23,24,25,26,27],[28]) else none),loop:=(λr=>if r=8 then ([(1,(.K 1 [.buf 6])),(77,.I)],[[(1,(.K 1 [.buf 6]))]]) else ([],[])) }
def dG:Inl:=nv ab aak C0 iL Tryz.f162
def jB:ad->Option FSig:=aG mF ⟨.inl dG,false,[],0,λ_=>none⟩ <| aak
def kb:Inl:=TA ab jB C0 A0 mA Tryz.f161
def yJ:ad->Option FSig:=aG mF ⟨.inl dG,false,[],0,λ_=>none⟩ <| aG nG ⟨.inl kb,false,[],0,λ_=>none⟩ <| aak
def zW:Ann:={ loop:=(λr=>if r=4 then ([(13,.I)],[[],[(2,.I),(3,.I)]]) else ([],[])) }
theorem HD (a:IV):run ab yJ C0 zW Tryz.f96 [[a]]=lA a:=by kernel_rfl
abbrev LJ:FSig:=⟨.pure,false,[1,1],0,λl=>match l with | [[a]]=>lA a | _=>none⟩
def R8:ad->Option FSig:=aG LV LJ aak
def jW:Ann:={ join:=(λr=>if r=2 then some [19] else none) }
def bc:Inl:=nv ab R8 C0 jW Tryz.f90
def jx:ad->Option FSig:=aG dE ⟨.inl bc,false,[],0,λ_=>none⟩ <| R8
def ka:Ann:={ join:=(λr=>if r=2 then some [23] else none) }
def bz:Inl:=nv ab jx C0 ka Tryz.f91
def jv:ad->Option FSig:=aG dE ⟨.inl bc,false,[],0,λ_=>none⟩ <| aG eM ⟨.inl bz,false,[],0,λ_=>none⟩ <| R8
def cj:Inl:=nv ab jv C0 A0 Tryz.f93
def ju:ad->Option FSig:=aG dE ⟨.inl bc,false,[],0,λ_=>none⟩ <| aG eM ⟨.inl bz,false,[],0,λ_=>none⟩ <| aG gC ⟨.inl cj,false,[],0,λ_=>none⟩ <| R8
def cW:Inl:=nv ab ju C0 A0 Tryz.f95
def jz:ad->Option FSig:=aG dE ⟨.inl bc,false,[],0,λ_=>none⟩ <| aG eM ⟨.inl bz,false,[],0,λ_=>none⟩ <| aG gC ⟨.inl cj,false,[],0,λ_=>none⟩ <| aG j4 ⟨.inl cW,false,[],0,λ_=>none⟩ <| R8
def eX:Inl:=nv ab jz C0 A0 Tryz.f97
def kP:ad->Option FSig:=aG dE ⟨.inl bc,false,[],0,λ_=>none⟩ <| aG eM ⟨.inl bz,false,[],0,λ_=>none⟩ <| aG gC ⟨.inl cj,false,[],0,λ_=>none⟩ <| aG j4 ⟨.inl cW,false,[],0,λ_=>none⟩ <| aG nM ⟨.inl eX,false,[],0,λ_=>none⟩ <| R8
def mi:Inl:=nv ab kP C0 A0 Tryz.f49
def CR:ad->Option FSig:=aG dE ⟨.inl bc,false,[],0,λ_=>none⟩ <| aG eM ⟨.inl bz,false,[],0,λ_=>none⟩ <| aG gC ⟨.inl cj,false,[],0,λ_=>none⟩ <| aG j4 ⟨.inl cW,false,[],0,λ_=>none⟩ <| aG nM ⟨.inl eX,false,[],0,λ_=>none⟩ <| aG vQ ⟨.inl mi,false,[],0,λ_=>none⟩ <| R8
def E6:Ann:={ unroll:=(λr=>if r=4 then 6 else 0) }
theorem Mw (a:IV):run ab CR C0 E6 Tryz.f22 [[a]]=mz a:=by kernel_rfl
abbrev Si:FSig:=⟨.pure,false,[5,1],0,λl=>match l with | [[a]]=>mz a | _=>none⟩
def acX:ad->Option FSig:=aG R4 Si R8
theorem y5 (f g h i j k l m n o a b c d e:IV):runM ab acX C0 A0 [.buf 5,.buf 6] Tryz.f45 [f,g] [[h,i,j,k,l],[m,n,o,a,b,c,d,e]]=iO f g h i j k l m n o a b c d e:=by kernel_rfl
theorem uG (d e f g h i j k l m a b c:IV):run ab acX C0 A0 Tryz.f45 [[.nilp],[d,e,f,g,h],[i,j,k,l,m,a,b,c]]=kK d e f g h i j k l m a b c:=by kernel_rfl
abbrev Cr:FSig:=⟨.obj [.buf 5,.buf 6],false,[5,1],0,λl=>match l with | [[f,p],[g,h,i,j,k],[m,n,o,a,b,c,d,e]]=>iO f p g h i j k m n o a b c d e | [[f],[g,h,i,j,k],[m,n,o,a,b,c,d,e]]=>CV f (kK g h i j k m n o a b c d e) | _=>none⟩
def aev:ad->Option FSig:=aG sg Cr acX
def CL:Ann:={ join:=(λr=>if r=1 then some [4] else none),scalar:=true }
theorem Jn (a b c d e f g:IV):run ab aev C0 CL Tryz.f88 [[a],[b,c,d,e,f,g]]=nD a b c d e f g:=by kernel_rfl
abbrev NH:FSig:=⟨.pure,true,[1],0,λl=>match l with | [[a],[b,c,d,e,f,g]]=>nD a b c d e f g | _=>none⟩
def aeM:ad->Option FSig:=aG PI NH aev
theorem Wh (a b c d e f g:IV):run ab aeM C0 A0 Tryz.f48 [[a],[b,c,d,e,f,g]]=wA a b c d e f g:=by kernel_rfl
abbrev ZO:FSig:=⟨.pure,false,[1,1],0,λl=>match l with | [[a],[b,c,d,e,f,g]]=>wA a b c d e f g | _=>none⟩
def ad9:ad->Option FSig:=aG Zu ZO aeM
def Ll:Ann:={ loop:=(λr=>if r=2 then ([(0,.I),(9,.I)],[[(0,.I)]]) else ([],[])) }
theorem SX (a b:IV):run ab ad9 C0 Ll Tryz.f16 [[a],[b]]=lj a b:=by kernel_rfl
abbrev Wx:FSig:=⟨.pure,false,[1],0,λl=>match l with | [[a],[b]]=>lj a b | _=>none⟩
def aen:ad->Option FSig:=aG XC Wx ad9
def CJ:Ann:={ order:=(λr=>if r=6 then some ([],[0,1,2,3,4,5,6,7,8,9,10,11,12],[13]) else if r=7 then some ([1],[0,2],[3,4,5]) else none),join:=(λr=>if r=1 then some [7] else none) }
theorem JG (a b c d e f g:IV):run ab aen C0 CJ Tryz.f82 [[a,b,c,d,e],[f,g]]=kD a b c d e f g:=by kernel_rfl
abbrev NG:FSig:=⟨.pure,false,[5,1],0,λl=>match l with | [[a,b,c,d,e],[f,g]]=>kD a b c d e f g | _=>none⟩
def adv:ad->Option FSig:=aG PJ NG aen
theorem z8 (f g h i j k l m n o a b c d e:IV):runM ab adv C0 A0 [.buf 5,.buf 6] Tryz.f44 [f,g] [[h,i,j,k,l],[m,n,o,a,b,c,d,e]]=gb f g h i j k l m n o a b c d e:=by kernel_rfl
theorem we (d e f g h i j k l m a b c:IV):run ab adv C0 A0 Tryz.f44 [[.nilp],[d,e,f,g,h],[i,j,k,l,m,a,b,c]]=lL d e f g h i j k l m a b c:=by kernel_rfl
abbrev DB:FSig:=⟨.obj [.buf 5,.buf 6],false,[5,1],0,λl=>match l with | [[f,p],[g,h,i,j,k],[m,n,o,a,b,c,d,e]]=>gb f p g h i j k m n o a b c d e | [[f],[g,h,i,j,k],[m,n,o,a,b,c,d,e]]=>CV f (lL g h i j k m n o a b c d e) | _=>none⟩
def adD:ad->Option FSig:=aG uy DB adv
def FO:Ann:={ loop:=(λr=>if r=2 then ([(11,.I)],[[],[(6,.I)]]) else ([],[])),scalar:=true }
theorem NA (C:IV->List Nat->List (List IV)->Option (List IV)) (a b c d:IV):run ab adD C FO Tryz.f83 [[a],[b,c],[d]]=jE C a b c d:=by kernel_rfl
theorem uW (a b c d e f g h:IV):run ab adD C0 A1 Tryz.f84 [[a,b],[c,d,e,f,g,h]]=kc a b c d e f g h:=by kernel_rfl
abbrev JX:FSig:=⟨.pure,true,[1],0,λl=>match l with | [[a,b],[c,d,e,f,g,h]]=>kc a b c d e f g h | _=>none⟩
def ae4:ad->Option FSig:=aG nR JX adD
def yE:ad->Option FSig:=aG yt ⟨.pure,true,[1],0,λl=>match l with | [[a],[b,c],[d]]=>jE (gD) a b c d | _=>none⟩ <| ae4
def zK:Ann:={ order:=(λr=>if r=6 then some ([6],[0,1,2,3,4],[5,7,8,9]) else none) }
theorem GD (a b c d e f g:IV):run ab yE (gD) zK Tryz.f46 [[a],[b,c,d,e,f,g]]=jj a b c d e f g:=by kernel_rfl
abbrev Mc:FSig:=⟨.pure,false,[1,1,1],0,λl=>match l with | [[a],[b,c,d,e,f,g]]=>jj a b c d e f g | _=>none⟩
def ad8:ad->Option FSig:=aG LC Mc ae4
def HY:Ann:={ join:=(λr=>if r=1 then some [11] else if r=9 then some [57] else none) }
theorem PQ (b c d e f g h i j k a:IV):run ab ad8 C0 HY Tryz.f25 [[b,c,d,e,f],[g,h,i,j,k,a]]=kZ b c d e f g h i j k a:=by kernel_rfl
abbrev VX:FSig:=⟨.pure,false,[5,1,1],0,λl=>match l with | [[b,c,d,e,f],[g,h,i,j,k,a]]=>kZ b c d e f g h i j k a | _=>none⟩
def ac3:ad->Option FSig:=aG TJ VX ad8
def lQ:Ann:={ order:=(λr=>if r=1 then some ([],[0,1,2,3,4,5,6,7,8,9,10,11,12],[]) else if r=3 then some ([12,13],[0,1,2,3,4,5,6,7,8,9,10,11],[14,15,16]) else none),join:=(λr=>if r=1 then some [22] else none) }
theorem xx (f g h i j k l m n o a b c d e:IV):runM ab ac3 C0 lQ [.buf 5,.buf 6] Tryz.f43 [f,g] [[h,i,j,k,l],[m,n,o,a,b,c,d,e]]=dg f g h i j k l m n o a b c d e:=by kernel_rfl
theorem tj (d e f g h i j k l m a b c:IV):run ab ac3 C0 lQ Tryz.f43 [[.nilp],[d,e,f,g,h],[i,j,k,l,m,a,b,c]]=jM d e f g h i j k l m a b c:=by kernel_rfl
abbrev A4:FSig:=⟨.obj [.buf 5,.buf 6],false,[5,1],0,λl=>match l with | [[f,p],[g,h,i,j,k],[m,n,o,a,b,c,d,e]]=>dg f p g h i j k m n o a b c d e | [[f],[g,h,i,j,k],[m,n,o,a,b,c,d,e]]=>CV f (jM g h i j k m n o a b c d e) | _=>none⟩
def aeS:ad->Option FSig:=aG qO A4 ac3
def EA:Ann:={ join:=(λr=>if r=8 then some [38] else none),loop:=(λr=>if r=3 then ([(8,(.B 1)),(17,.I)],[[(8,(.B 1))]]) else ([],[])),scalar:=true }
theorem M6 (a b c d:IV):run ab aeS C0 EA Tryz.f81 [[a],[b,c],[d]]=pE a b c d:=by kernel_rfl
abbrev RR:FSig:=⟨.pure,true,[2,1],0,λl=>match l with | [[a],[b,c],[d]]=>pE a b c d | _=>none⟩
def aee:ad->Option FSig:=aG Q7 RR aeS
def uw:Ann:={ order:=(λr=>if r=7 then some ([0],[1,2,3,4,5,6],[7,8,9,10]) else none) }
theorem AG (f g h i j k l m n o a b c d e:IV):runM ab aee C0 uw [.buf 5,.buf 6] Tryz.f42 [f,g] [[h,i,j,k,l],[m,n,o,a,b,c,d,e]]=dS f g h i j k l m n o a b c d e:=by kernel_rfl
abbrev Dh:FSig:=⟨.obj [.buf 5,.buf 6],false,[5,1],0,λl=>match l with | [[f,g],[h,i,j,k,m],[n,o,p,a,b,c,d,e]]=>dS f g h i j k m n o p a b c d e | _=>none⟩
def acp:ad->Option FSig:=aG tc Dh aee
def po:Ann:={ order:=(λr=>if r=10 then some ([],[0,1,2,3,4,5,6,7,8],[9]) else none),unroll:=(λr=>if r=5 then 5 else 0) }
theorem B0 (a b c d e f g h i j:IV):runM ab acp C0 po [.buf 5,.buf 6] Tryz.f12 [a,b] [[c,d,e,f,g,h,i,j]]=az a b c d e f g h i j:=by kernel_rfl
theorem wL (a b c d e f g h:IV):run ab acp C0 po Tryz.f12 [[.nilp],[a,b,c,d,e,f,g,h]]=mR a b c d e f g h:=by kernel_rfl
abbrev EP:FSig:=⟨.obj [.buf 5,.buf 6],false,[1],0,λl=>match l with | [[a,j],[b,c,d,e,f,g,h,i]]=>az a j b c d e f g h i | [[a],[b,c,d,e,f,g,h,i]]=>CV a (mR b c d e f g h i) | _=>none⟩
def afd:ad->Option FSig:=aG vC EP acp
theorem LW (a b c d e:IV):run ab afd C0 A0 Tryz.f24 [[a,b,c,d,e]]=mn a b c d e:=by kernel_rfl
abbrev Sf:FSig:=⟨.pure,false,[1],0,λl=>match l with | [[a,b,c,d,e]]=>mn a b c d e | _=>none⟩
def acW:ad->Option FSig:=aG Sm Sf afd
theorem Cn (a b c:IV):runM ab acW C0 A0 [.buf 5,.buf 6] Tryz.f15 [a,b] [[c]]=bU a b c:=by kernel_rfl
theorem wP (a:IV):run ab acW C0 A0 Tryz.f15 [[.nilp],[a]]=mU a:=by kernel_rfl
abbrev FR:FSig:=⟨.obj [.buf 5,.buf 6],false,[1],0,λl=>match l with | [[a,c],[b]]=>bU a c b | [[a],[b]]=>CV a (mU b) | _=>none⟩
def ae6:ad->Option FSig:=aG vq FR acW
def Gb:Ann:={ order:=(λr=>if r=6 then some ([],[0,1,2,3,4,5,6,7,8],[]) else none),loop:=(λr=>if r=4 then ([(5,.I)],[[],[(4,.I)]]) else ([],[])),scalar:=true }
def xK (a b:IV):Option (List IV):=run ab ae6 C0 Gb Tryz.f40 [[a],[b]]
abbrev SC:FSig:=⟨.pure,true,[1],0,λl=>match l with | [[a],[b]]=>xK a b | _=>none⟩
def aaA:ad->Option FSig:=aG S2 SC ae6
def ra (b:List IV):Option SR:=
 (aa .lss (nth b 1) (.int .i64 (4:Nat))).bind λd=>
 ae d (λ_=>
 (cx 4 (nth b 1)).bind λe=>
 (ff (.lst [[.int .i64 1,.int .i64 1,.int .i64 0,.int .i64 0,.int .i64 0,.int .i64 1,(.str ⟨#[97]⟩),.flt .f64 0],[.int .i64 2,.int .i64 2,.int .i64 0,.int .i64 0,.int .i64 0,.int .i64 0,(.str ⟨#[]⟩),.flt .f64 0],[.int .i64 4,.int .i64 2,.int .i64 0,.int .i64 0,.int .i64 0,.int .i64 0,(.str ⟨#[]⟩),.flt .f64 0],[.int .i64 1,.int .i64 2,.int .i64 0,.int .i64 0,.int .i64 1,.int .i64 2,(.str ⟨#[]⟩),.flt .f64 0]]) e 0 8).bind λa=>
 (mR (nth a 0) (nth a 1) (nth a 2) (nth a 3) (nth a 4) (nth a 5) (nth a 6) (nth a 7)).bind λf=>
 (bX 1 8 (nth b 0) (.lst [[nth f 0]])).bind λg=>
 (aa .add (nth b 1) (.int .i64 1)).bind λc=>
 some (.next [g,c])) (λ_=>
 some (.done 0 [nth b 0]))
def wi (a:List IV):Option SR:=
 (aa .lss (nth a 3) (.int .i64 (4:Nat))).bind λd=>
 ae d (λ_=>
 (cx 4 (nth a 3)).bind λe=>
 (ff (.lst [[.int .i64 1,.int .i64 1,.int .i64 0,.int .i64 0,.int .i64 0,.int .i64 1,(.str ⟨#[97]⟩),.flt .f64 0],[.int .i64 2,.int .i64 2,.int .i64 0,.int .i64 0,.int .i64 0,.int .i64 0,(.str ⟨#[]⟩),.flt .f64 0],[.int .i64 4,.int .i64 2,.int .i64 0,.int .i64 0,.int .i64 0,.int .i64 0,(.str ⟨#[]⟩),.flt .f64 0],[.int .i64 1,.int .i64 2,.int .i64 0,.int .i64 0,.int .i64 1,.int .i64 2,(.str ⟨#[]⟩),.flt .f64 0]]) e 0 8).bind λb=>
 (az (nth a 0) (nth a 1) (nth b 0) (nth b 1) (nth b 2) (nth b 3) (nth b 4) (nth b 5) (nth b 6) (nth b 7)).bind λc=>
 (bX 1 8 (nth a 2) (.lst [[(nth (c.drop 2) 0)]])).bind λf=>
 (aa .add (nth a 3) (.int .i64 1)).bind λg=>
 some (.next [nth c 0,nth c 1,f,g])) (λ_=>
 some (.done 0 [nth a 0,nth a 1,nth a 2]))
def rz:Option (List IV):=
 ((aa .lss (.int .i64 2) (.int .i64 1)).bind λu=>
 ae u (λ_=>
 some [.bool true]) (λ_=>
 (aa .gtr (.int .i64 2) (.int .i64 8)).bind λv=>
 some [v])).bind λw=>
 ae (nth w 0) (λ_=>
 (iter rounds (ra) [.lst [],.int .i64 0]).bind λb=>
 en b.1 [(some [.bool true]).bind λe=>
 ae (nth e 0) (λ_=>
 av [.bool false]) (λ_=>
 (mU (.int .i64 2)).bind λf=>
 (Br (nth f 0) (.int .i64 2)).bind λc=>
 ((cx (cr (nth b.2 0)) (.int .i64 3)).bind λg=>
 (dV (nth b.2 0) g 0).bind λh=>
 (aa .eql h (.int .i64 0)).bind λi=>
 ae i (λ_=>
 ae (nth c 1) (λ_=>
 (xK (nth c 0) (.lst [[.int .i64 2],[.int .i64 1],[.int .i64 0]])).bind λj=>
 some [nth j 0]) (λ_=>
 some [.bool false])) (λ_=>
 some [.bool false])).bind λk=>
 av [nth k 0])]) (λ_=>
 (kQ 88 [.lst [],.int .i64 0,.int .i64 0,.lst [],.lst []] (.int .i64 2) (.int .i64 2)).bind λl=>
 (iter rounds (wi) [l,.lst [],.lst [],.int .i64 0]).bind λa=>
 en a.1 [((aa .neq (.int .i64 ((cr (nth a.2 2)):Nat)) (.int .i64 4)).bind λm=>
 some [m]).bind λn=>
 ae (nth n 0) (λ_=>
 av [.bool false]) (λ_=>
 (bU (nth a.2 0) (nth a.2 1) (.int .i64 2)).bind λo=>
 (Br (nth (o.drop 2) 0) (.int .i64 2)).bind λd=>
 ((cx (cr (nth a.2 2)) (.int .i64 3)).bind λp=>
 (dV (nth a.2 2) p 0).bind λq=>
 (aa .eql q (.int .i64 0)).bind λr=>
 ae r (λ_=>
 ae (nth d 1) (λ_=>
 (xK (nth d 0) (.lst [[.int .i64 2],[.int .i64 1],[.int .i64 0]])).bind λs=>
 some [nth s 0]) (λ_=>
 some [.bool false])) (λ_=>
 some [.bool false])).bind λt=>
 av [nth t 0])])
def oQ:Ann:={ join:=(λr=>if r=1 then some [8] else none) }
def jP:Inl:=nv ab aaA C0 oQ Tryz.f10
def oq:ad->Option FSig:=aG p8 ⟨.inl jP,false,[],0,λ_=>none⟩ <| aaA
def pd:Ann:={ loop:=(λr=>if r=4 then ([(6,(.O [.buf 5,.buf 6])),(7,(.B 1)),(14,.I)],[[(6,(.O [.buf 5,.buf 6])),(7,(.B 1))]]) else ([],[])),alt:=(λr=>if r=4 then some (6,[(7,(.B 1)),(14,.I)],[[(7,(.B 1))]]) else none) }
def oU:Inl:=nv ab oq C0 pd Tryz.f27
def ER:ad->Option FSig:=aG p8 ⟨.inl jP,false,[],0,λ_=>none⟩ <| aG DE ⟨.inl oU,false,[],0,λ_=>none⟩ <| aaA
def HZ:Ann:={ join:=(λr=>if r=2 then some [20] else if r=5 then some [0] else none),scalar:=true }
theorem OH:run ab ER C0 HZ Tryz.f9 []=rz:=by kernel_rfl
abbrev Wc:FSig:=⟨.pure,true,[1],0,λl=>match l with | []=>rz | _=>none⟩
def acu:ad->Option FSig:=aG Uh Wc aaA
theorem Cl (a b:IV):runM ab acu C0 A0 [.buf 5,.buf 6] Tryz.f11 [a,b] []=gK a b:=by kernel_rfl
theorem wg:run ab acu C0 A0 Tryz.f11 [[.nilp]]=r9:=by kernel_rfl
abbrev Fm:FSig:=⟨.obj [.buf 5,.buf 6],false,[1],0,λl=>match l with | [[a,b]]=>gK a b | [[a]]=>CV a (r9) | _=>none⟩
def afi:ad->Option FSig:=aG vf Fm acu
def CQ:Ann:={ loop:=(λr=>if r=2 then ([(0,.I),(9,.I)],[[(0,.I)]]) else ([],[])) }
theorem Ju (a b:IV):run ab afi C0 CQ Tryz.f13 [[a],[b]]=kz a b:=by kernel_rfl
abbrev PA:FSig:=⟨.pure,false,[1],0,λl=>match l with | [[a],[b]]=>kz a b | _=>none⟩
def aei:ad->Option FSig:=aG Oj PA afi
theorem MN:run ab aei C0 A1 Tryz.f205 []=xr:=by kernel_rfl
abbrev S7:FSig:=⟨.pure,true,[1],0,λl=>match l with | []=>xr | _=>none⟩
def afn:ad->Option FSig:=aG Sy S7 aei
def CC:Ann:={ join:=(λr=>if r=1 then some [2] else none),scalar:=true }
theorem I6 (a:IV):run ab afn C0 CC Tryz.f206 [[a]]=ig a:=by kernel_rfl
abbrev NO:FSig:=⟨.pure,true,[1],0,λl=>match l with | [[a]]=>ig a | _=>none⟩
def aeH:ad->Option FSig:=aG ON NO afn
theorem PD:run ab aeH C0 A1 Tryz.f207 []=uU:=by kernel_rfl
abbrev Ut:FSig:=⟨.pure,true,[1],0,λl=>match l with | []=>uU | _=>none⟩
def aeu:ad->Option FSig:=aG Uu Ut aeH
def FA:Ann:={ join:=(λr=>if r=15 then some [35] else none),loop:=(λr=>if r=12 then ([(0,.I),(4,.I)],[[(0,.I),(4,.I)]]) else if r=15 then ([(0,.I),(4,.I)],[[(0,.I),(4,.I)]]) else if r=22 then ([(0,.I),(5,.I)],[[(0,.I)]]) else ([],[])),scalar:=true }
theorem L7 (a:IV):run ab aeu C0 FA Tryz.f152 [[a]]=gX a:=by kernel_rfl
abbrev Rm:FSig:=⟨.pure,true,[1],0,λl=>match l with | [[a]]=>gX a | _=>none⟩
def afv:ad->Option FSig:=aG SU Rm aeu
theorem Nu (a b:IV):run ab afv C0 A1 Tryz.f87 [[a],[b]]=o4 a b:=by kernel_rfl
abbrev Rg:FSig:=⟨.pure,true,[1],0,λl=>match l with | [[a],[b]]=>o4 a b | _=>none⟩
def aeR:ad->Option FSig:=aG RB Rg afv
def Dc:Ann:={ join:=(λr=>if r=1 then some [4] else none),scalar:=true }
theorem JE (a b c d e f g h:IV):run ab aeR C0 Dc Tryz.f47 [[a,b,c,d],[e,f,g,h]]=kC a b c d e f g h:=by kernel_rfl
abbrev Oe:FSig:=⟨.pure,true,[1],0,λl=>match l with | [[a,b,c,d],[e,f,g,h]]=>kC a b c d e f g h | _=>none⟩
def aeB:ad->Option FSig:=aG OU Oe aeR
def Fk:Ann:={ order:=(λr=>if r=6 then some ([],[0,1,2,3,4,5,6,7,8,9],[]) else none),loop:=(λr=>if r=4 then ([(5,.I)],[[],[(4,.I)]]) else ([],[])),scalar:=true }
theorem Mo (a b:IV):run ab aeB C0 Fk Tryz.f14 [[a],[b]]=mJ a b:=by kernel_rfl
abbrev Se:FSig:=⟨.pure,true,[1],0,λl=>match l with | [[a],[b]]=>mJ a b | _=>none⟩
def acK:ad->Option FSig:=aG R6 Se aeB
theorem Ch (a b c:IV):runM ab acK C0 A0 [.buf 5,.buf 6] Tryz.f21 [a,b] [[c]]=dw a b c:=by kernel_rfl
theorem w9 (a:IV):run ab acK C0 A0 Tryz.f21 [[.nilp],[a]]=sq a:=by kernel_rfl
abbrev FW:FSig:=⟨.obj [.buf 5,.buf 6],false,[1,1],0,λl=>match l with | [[a,c],[b]]=>dw a c b | [[a],[b]]=>CV a (sq b) | _=>none⟩
def acv:ad->Option FSig:=aG va FW acK
def dy (c:IV) (a:List IV):Option SR:=
 (aC c).bind λe=>
 (aa .lss (nth a 2) e).bind λf=>
 ae f (λ_=>
 (aP c (nth a 2) 8).bind λg=>
 (dV c g 0).bind λh=>
 (aa .neq h (.int .i64 3)).bind λi=>
 ae i (λ_=>
 (aP c (nth a 2) 8).bind λj=>
 (ff c j 0 8).bind λb=>
 (az (nth a 0) (nth a 1) (nth b 0) (nth b 1) (nth b 2) (nth b 3) (nth b 4) (nth b 5) (nth b 6) (nth b 7)).bind λd=>
 (aa .add (nth a 2) (.int .i64 1)).bind λk=>
 some (.next [nth d 0,nth d 1,k])) (λ_=>
 (aa .add (nth a 2) (.int .i64 1)).bind λl=>
 some (.next [nth a 0,nth a 1,l]))) (λ_=>
 some (.done 0 [nth a 0,nth a 1]))
def cF (c:List IV) (i:IV) (b:List IV) (a:List IV):Option SR:=
 (aC (nth (c.drop 2) 0)).bind λj=>
 (aa .lss (nth a 2) j).bind λk=>
 ae k (λ_=>
 ((aa .gtr i (.int .i64 0)).bind λl=>
 ae l (λ_=>
 (aC (nth (c.drop 2) 0)).bind λm=>
 (aa .lss i m).bind λn=>
 some [n]) (λ_=>
 some [.bool false])).bind λo=>
 ae (nth o 0) (λ_=>
 (aa .add (nth a 2) i).bind λp=>
 (aC (nth (c.drop 2) 0)).bind λq=>
 (aa .rem p q).bind λh=>
 (aa .rem (nth b 2) (.int .i64 2)).bind λr=>
 (aa .eql r (.int .i64 1)).bind λs=>
 ae s (λ_=>
 (aC (nth (c.drop 2) 0)).bind λt=>
 (aa .sub t (.int .i64 1)).bind λu=>
 (aa .sub u h).bind λv=>
 (az (nth a 0) (nth a 1) (.int .i64 2) (nth b 2) (.int .i64 0) v (.int .i64 0) (.int .i64 0) (.str ⟨#[]⟩) (.flt .f64 0)).bind λd=>
 (aa .neq (nth (d.drop 2) 0) (.int .i64 0)).bind λw=>
 ae w (λ_=>
 some (.done 1 [.bool false])) (λ_=>
 (aa .add (nth a 2) (.int .i64 1)).bind λx=>
 some (.next [nth d 0,nth d 1,x]))) (λ_=>
 (az (nth a 0) (nth a 1) (.int .i64 2) (nth b 2) (.int .i64 0) h (.int .i64 0) (.int .i64 0) (.str ⟨#[]⟩) (.flt .f64 0)).bind λe=>
 (aa .neq (nth (e.drop 2) 0) (.int .i64 0)).bind λy=>
 ae y (λ_=>
 some (.done 1 [.bool false])) (λ_=>
 (aa .add (nth a 2) (.int .i64 1)).bind λz=>
 some (.next [nth e 0,nth e 1,z])))) (λ_=>
 (aa .rem (nth b 2) (.int .i64 2)).bind λA=>
 (aa .eql A (.int .i64 1)).bind λC=>
 ae C (λ_=>
 (aC (nth (c.drop 2) 0)).bind λD=>
 (aa .sub D (.int .i64 1)).bind λE=>
 (aa .sub E (nth a 2)).bind λF=>
 (az (nth a 0) (nth a 1) (.int .i64 2) (nth b 2) (.int .i64 0) F (.int .i64 0) (.int .i64 0) (.str ⟨#[]⟩) (.flt .f64 0)).bind λf=>
 (aa .neq (nth (f.drop 2) 0) (.int .i64 0)).bind λG=>
 ae G (λ_=>
 some (.done 1 [.bool false])) (λ_=>
 (aa .add (nth a 2) (.int .i64 1)).bind λH=>
 some (.next [nth f 0,nth f 1,H]))) (λ_=>
 (az (nth a 0) (nth a 1) (.int .i64 2) (nth b 2) (.int .i64 0) (nth a 2) (.int .i64 0) (.int .i64 0) (.str ⟨#[]⟩) (.flt .f64 0)).bind λg=>
 (aa .neq (nth (g.drop 2) 0) (.int .i64 0)).bind λI=>
 ae I (λ_=>
 some (.done 1 [.bool false])) (λ_=>
 (aa .add (nth a 2) (.int .i64 1)).bind λJ=>
 some (.next [nth g 0,nth g 1,J]))))) (λ_=>
 some (.done 0 [nth a 0,nth a 1]))
def eb (f:IV) (c:List IV) (g:IV) (a:List IV):Option SR:=
 (aa .leq (nth a 2) f).bind λd=>
 ae d (λ_=>
 (iter rounds (cF c g a) [nth a 0,nth a 1,.int .i64 0]).bind λb=>
 en b.1 [(aa .add (nth a 2) (.int .i64 1)).bind λe=>
 some (.next [nth b.2 0,nth b.2 1,e]),
 some (.done 1 [nth b.2 0])]) (λ_=>
 some (.done 0 [nth a 0,nth a 1]))
def gV (l:IV) (e:List IV) (a:List IV):Option SR:=
 (aa .leq (nth a 2) l).bind λf=>
 ae f (λ_=>
 (dw (nth a 0) (nth a 1) (nth a 2)).bind λb=>
 (aa .neq (nth (b.drop 2) 1) (.int .i64 0)).bind λg=>
 ae g (λ_=>
 some (.done 1 [.bool false])) (λ_=>
 (aa .neq (nth (e.drop 2) 0) (nth (b.drop 2) 0)).bind λh=>
 ae h (λ_=>
 some (.done 1 [.bool false])) (λ_=>
 (bU (nth b 0) (nth b 1) (.int .i64 1)).bind λc=>
 (bU (nth c 0) (nth c 1) (nth a 2)).bind λd=>
 (mJ (nth (c.drop 2) 0) (nth (d.drop 2) 0)).bind λi=>
 (ly .not (nth i 0)).bind λj=>
 ae j (λ_=>
 some (.done 1 [.bool false])) (λ_=>
 (aa .add (nth a 2) (.int .i64 1)).bind λk=>
 some (.next [nth d 0,nth d 1,k]))))) (λ_=>
 some (.done 0 [nth a 0,nth a 1]))
def jN (d m n:IV):Option (List IV):=
 ((kx m (.int .i64 25)).bind λo=>
 (ly .not (nth o 0)).bind λp=>
 ae p (λ_=>
 some [.bool true]) (λ_=>
 (aa .lss d (.int .i64 1)).bind λq=>
 ae q (λ_=>
 some [.bool true]) (λ_=>
 (aa .gtr d (.int .i64 8)).bind λr=>
 some [r]))).bind λs=>
 ae (nth s 0) (λ_=>
 (rz).bind λt=>
 av [nth t 0]) (λ_=>
 ((aa .lss d (.int .i64 1)).bind λu=>
 ae u (λ_=>
 some [.bool true]) (λ_=>
 (aa .gtr d (.int .i64 8)).bind λv=>
 some [v])).bind λw=>
 ae (nth w 0) (λ_=>
 av [.bool false]) (λ_=>
 (kQ 88 [.lst [],.int .i64 0,.int .i64 0,.lst [],.lst []] d d).bind λg=>
 (iter rounds (dy m) [g,.lst [],.int .i64 0]).bind λe=>
 en e.1 [(gK (nth e.2 0) (nth e.2 1)).bind λa=>
 (iter rounds (eb d a n) [nth a 0,nth a 1,.int .i64 1]).bind λb=>
 en b.1 [(dw (nth b.2 0) (nth b.2 1) (.int .i64 1)).bind λf=>
 (iter rounds (gV d f) [nth f 0,nth f 1,.int .i64 2]).bind λc=>
 en c.1 [(bU (nth c.2 0) (nth c.2 1) (.int .i64 1)).bind λh=>
 (kz (.lst []) (nth (a.drop 2) 0)).bind λi=>
 (lj (.lst []) (nth i 0)).bind λj=>
 (mJ (nth (h.drop 2) 0) (nth j 0)).bind λk=>
 ae (nth k 0) (λ_=>
 (rz).bind λl=>
 av [nth l 0]) (λ_=>
 av [.bool false]),
 av [nth c.2 0]],
 av [nth b.2 0]]]))
def jy:Ann:={ join:=(λr=>if r=1 then some [8] else none) }
def jw:Inl:=nv ab acv C0 jy Tryz.f10
def se:ad->Option FSig:=aG p8 ⟨.inl jw,false,[],0,λ_=>none⟩ <| acv
def ue:Ann:={ join:=(λr=>if r=1 then some [28] else if r=19 then some [73] else none),loop:=(λr=>if r=7 then ([(7,(.O [.buf 5,.buf 6])),(8,.I)],[[(7,(.O [.buf 5,.buf 6]))]]) else if r=13 then ([(7,(.O [.buf 5,.buf 6])),(10,.I)],[[(7,(.O [.buf 5,.buf 6]))],[(6,.I)]]) else if r=16 then ([(7,(.O [.buf 5,.buf 6])),(11,.I)],[[(7,(.O [.buf 5,.buf 6]))],[(6,.I)]]) else if r=27 then ([(7,(.O [.buf 5,.buf 6])),(15,.I)],[[(7,(.O [.buf 5,.buf 6]))],[(6,.I)]]) else ([],[])),scalar:=true }
theorem Bi (a b c:IV):run ab se C0 ue Tryz.f5 [[a],[b],[c]]=jN a b c:=by kernel_rfl
abbrev sV:FSig:=⟨.pure,true,[1],0,λl=>match l with | [[a],[b],[c]]=>jN a b c | _=>none⟩
def ai1:ad->Option FSig:=aG tD sV acv
end Go.AM
end

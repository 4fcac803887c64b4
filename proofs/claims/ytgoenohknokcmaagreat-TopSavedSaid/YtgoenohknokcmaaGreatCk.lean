/- Each function that is reached runs in the abstract machine as printed; the others are what it runs. -/
import Derived.Test.YtgoenohknokcmaaGreatSh
import Derived.Test.YtgoenohknokcmaaGreatProg
open Go.Proofs.Tryz renaming prog->ab
open Go renaming FuncId->ad
set_option linter.unusedVariables false
set_option maxRecDepth 100000
 noncomputable section
namespace Go.AM
open Go.Proofs
def gr:ad->Bool:= λg=>g==BC
def mm:ad->Bool:= λg=>g==JL
abbrev CI:FSig:=⟨.fresh,false,[1],6,λl=>match l with | [[a]]=>fh a | _=>none⟩
def T1:ad->Option FSig:=aG m0 CI T0
abbrev rC:FSig:=⟨.obj (uT 123 5),false,[1,1],0,sB⟩
def T2:ad->Option FSig:=aG jx rC T1
abbrev vT:FSig:=⟨.inl (strJ 123 5),false,[],0,λ_=>none⟩
def T3:ad->Option FSig:=aG nB vT T2
abbrev DA:FSig:=⟨.fresh,false,[1],4,λl=>match l with | [[a]]=>fW a | _=>none⟩
def T4:ad->Option FSig:=aG oh DA T3
abbrev BO:FSig:=⟨.cons,false,[1],6,λl=>match l with | [[a],[b],[c]]=>ef a b c | _=>none⟩
def T5:ad->Option FSig:=aG lj BO T4
abbrev Cl:FSig:=⟨.fresh,false,[1],2,λl=>match l with | [[a]]=>fe a | _=>none⟩
def T6:ad->Option FSig:=aG mR Cl T5
abbrev zG:FSig:=⟨.cons,false,[1],2,λl=>match l with | [[a],[b],[c]]=>dg a b c | _=>none⟩
def T7:ad->Option FSig:=aG lu zG T6
abbrev sQ:FSig:=⟨.obj (uT 123 5),false,[1],0,GB⟩
def T8:ad->Option FSig:=aG kU sQ T7
abbrev F5:FSig:=⟨.pure,true,[1],0,λl=>match l with | [[a],[b],[c]]=>sU a b c | _=>none⟩
def T9:ad->Option FSig:=aG yh F5 T8
abbrev Cs:FSig:=⟨.cons,false,[1],4,λl=>match l with | [[a],[b],[c]]=>dy a b c | _=>none⟩
def T10:ad->Option FSig:=aG mU Cs T9
abbrev Cv:FSig:=⟨.inl (growJ 2 24),false,[],0,λ_=>none⟩
def T11:ad->Option FSig:=aG sD Cv T10
theorem Py (a0:IV):run ab T11 C0 A1 Tryz.f124 [[a0]]=qW a0:=by kernel_rfl
abbrev Wt:FSig:=⟨.pure,true,[1,1,1,1],0,λl=>match l with | [[a]]=>qW a | _=>none⟩
def T12:ad->Option FSig:=aG UN Wt T11
def F4:Ann:={ join:=(λr=>if r=4 then some [34] else if r=8 then some [56] else none),loop:=(λr=>if r=2 then ([(4,.I),(5,.I)],[[(4,.I),(5,.I)]]) else if r=6 then ([(7,.I),(8,.I),(45,.I)],[[],[]]) else ([],[])),scalar:=true }
theorem K1 (a0:IV):run ab T12 C0 F4 Tryz.f57 [[a0]]=sL a0:=by kernel_rfl
abbrev Sf:FSig:=⟨.pure,true,[1,1],0,λl=>match l with | [[a]]=>sL a | _=>none⟩
def T13:ad->Option FSig:=aG S3 Sf T12
theorem LI (a0:IV):run ab T13 C0 A1 Tryz.f28 [[a0]]=jE a0:=by kernel_rfl
abbrev Sq:FSig:=⟨.pure,true,[1],0,λl=>match l with | [[a]]=>jE a | _=>none⟩
def T14:ad->Option FSig:=aG Sx Sq T13
def MC:Ann:={ join:=(λr=>if r=1 then some [2] else none),scalar:=true }
theorem Rs (a0 a b a3:IV):run ab T14 C0 MC Tryz.f70 [[a0,a,b,a3]]=lY a0 a b a3:=by kernel_rfl
abbrev Np:FSig:=⟨.pure,true,[1],0,λl=>match l with | [[a,b,c,d]]=>lY a b c d | _=>none⟩
def T15:ad->Option FSig:=aG M6 Np T14
abbrev MY:FSig:=⟨.pure,true,[1],0,λl=>match l with | [[a]]=>qH a | _=>none⟩
def T16:ad->Option FSig:=aG En MY T15
def tV:Ann:={ loop:=(λr=>if r=2 then ([(8,.I)],[[],[(4,.I)]]) else ([],[])),scalar:=true }
theorem AX (a0 a:IV):run ab T16 C0 tV Tryz.f203 [[a0],[a]]=jD a0 a:=by kernel_rfl
abbrev Ek:FSig:=⟨.pure,true,[1],0,λl=>match l with | [[a],[b]]=>jD a b | _=>none⟩
def T17:ad->Option FSig:=aG D6 Ek T16
theorem xa (a0 a:IV):run ab T17 C0 A1 Tryz.f148 [[a0],[a]]=dM a0 a:=by kernel_rfl
abbrev p8:FSig:=⟨.pure,true,[1],0,λl=>match l with | [[a],[b]]=>dM a b | _=>none⟩
def T18:ad->Option FSig:=aG p6 p8 T17
abbrev Iy:FSig:=⟨.pure,false,[1,1],0,λl=>match l with | [[a],[b]]=>AQ a b | _=>none⟩
def T19:ad->Option FSig:=aG AF Iy T18
theorem SO (a0:IV):run ab T19 C0 A1 Tryz.f236 [[a0]]=l6 a0:=by kernel_rfl
abbrev Mn:FSig:=⟨.pure,true,[1],0,λl=>match l with | [[a]]=>l6 a | _=>none⟩
def T20:ad->Option FSig:=aG Ew Mn T19
def NO:Ann:={ loop:=(λr=>if r=2 then ([(0,.I),(3,(.B 1))],[[(0,.I),(3,(.B 1))]]) else ([],[])),scalar:=true }
theorem SG (a0:IV):run ab T20 C0 NO Tryz.f60 [[a0]]=cE a0:=by kernel_rfl
abbrev Ll:FSig:=⟨.pure,true,[1],0,λl=>match l with | [[a]]=>cE a | _=>none⟩
def T21:ad->Option FSig:=aG D5 Ll T20
abbrev BI:FSig:=⟨.pure,true,[1],0,λl=>match l with | [[a]]=>fQ a | _=>none⟩
def T22:ad->Option FSig:=aG tI BI T21
def o6:Ann:={ loop:=(λr=>if r=2 then ([(8,.I)],[[],[(4,.I)]]) else ([],[])),scalar:=true }
theorem vY (C:IV->List Nat->List (List IV)->Option (List IV)) (a0 a:IV):run ab T22 C o6 Tryz.f155 [[a0],[a]]=bF C a0 a:=by kernel_rfl
theorem xj (a0 a b a3 a4:IV):run ab T22 C0 A1 Tryz.f208 [[a0,a,b,a3],[a4]]=kX a0 a b a3 a4:=by kernel_rfl
abbrev MS:FSig:=⟨.pure,true,[1],0,λl=>match l with | [[a,b,c,d],[e]]=>kX a b c d e | _=>none⟩
def T23:ad->Option FSig:=aG o5 MS T22
def Di:ad->Option FSig:=aG fm ⟨.pure,true,[1],0,λl=>match l with | [[a],[b]]=>bF (nb) a b | _=>none⟩ <| T23
theorem LR (a0 a:IV):run ab Di (nb) A1 Tryz.f154 [[a0],[a]]=pN a0 a:=by kernel_rfl
abbrev RJ:FSig:=⟨.pure,true,[1,1],0,λl=>match l with | [[a],[b]]=>pN a b | _=>none⟩
def T24:ad->Option FSig:=aG Tx RJ T23
theorem AJ (a0 a b a3 a4:IV):run ab T24 C0 A1 Tryz.f156 [[a0,a,b,a3],[a4]]=py a0 a b a3 a4:=by kernel_rfl
abbrev SD:FSig:=⟨.pure,true,[1],0,λl=>match l with | [[a,b,c,d],[e]]=>py a b c d e | _=>none⟩
def T25:ad->Option FSig:=aG sW SD T24
def I6:ad->Option FSig:=aG fm ⟨.pure,true,[1],0,λl=>match l with | [[a],[b]]=>bF (rL) a b | _=>none⟩ <| T25
theorem TR (a0 a b a3 a4:IV):run ab I6 (rL) A0 Tryz.f89 [[a0],[a,b,a3,a4]]=tT a0 a b a3 a4:=by kernel_rfl
abbrev Xu:FSig:=⟨.pure,false,[1],0,λl=>match l with | [[a],[b,c,d,e]]=>tT a b c d e | _=>none⟩
def T26:ad->Option FSig:=aG Xc Xu T25
def C5:Ann:={ loop:=(λr=>if r=4 then ([(5,.I)],[[],[(4,.I)]]) else ([],[])),scalar:=true }
theorem Kc (a0 a:IV):run ab T26 C0 C5 Tryz.f8 [[a0],[a]]=kr a0 a:=by kernel_rfl
abbrev PA:FSig:=⟨.pure,true,[1],0,λl=>match l with | [[a],[b]]=>kr a b | _=>none⟩
def T27:ad->Option FSig:=aG OY PA T26
def lK:Ann:={ join:=(λr=>if r=1 then some [20] else none) }
theorem yz (a0 a b:IV):runM ab T27 C0 lK [.buf 5,.buf 6] Tryz.f20 [a0,a] [[b]]=bk a0 a b:=by kernel_rfl
theorem uu (a0:IV):run ab T27 C0 lK Tryz.f20 [[.nilp],[a0]]=dt a0:=by kernel_rfl
abbrev Bu:FSig:=⟨.obj [.buf 5,.buf 6],false,[5,1],0,λl=>match l with | [[a,c],[b]]=>bk a c b | [[a],[b]]=>Dm a (dt b) | _=>none⟩
def T28:ad->Option FSig:=aG rF Bu T27
def Fc:Ann:={ loop:=(λr=>if r=2 then ([(8,.I)],[[],[(2,.I)]]) else ([],[])),scalar:=true }
theorem NR (C:IV->List Nat->List (List IV)->Option (List IV)) (a0:IV):run ab T28 C Fc Tryz.f109 [[a0]]=my C a0:=by kernel_rfl
theorem EN (a0:IV):run ab T28 C0 A1 Tryz.f177 [[a0]]=kb a0:=by kernel_rfl
abbrev JG:FSig:=⟨.pure,true,[1],0,λl=>match l with | [[a]]=>kb a | _=>none⟩
def T29:ad->Option FSig:=aG J5 JG T28
theorem Cn (a0 a:IV):run ab T29 C0 A1 Tryz.f111 [[a0],[a]]=eC a0 a:=by kernel_rfl
abbrev EA:FSig:=⟨.pure,true,[1],0,λl=>match l with | [[a],[b]]=>eC a b | _=>none⟩
def T30:ad->Option FSig:=aG EP EA T29
theorem vH (a0 a:IV):run ab T30 C0 A1 Tryz.f110 [[a0],[a]]=kl a0 a:=by kernel_rfl
abbrev Jo:FSig:=⟨.pure,true,[1],0,λl=>match l with | [[a],[b]]=>kl a b | _=>none⟩
def T31:ad->Option FSig:=aG j8 Jo T30
theorem vJ (a0 a:IV):run ab T31 C0 A1 Tryz.f112 [[a0],[a]]=kc a0 a:=by kernel_rfl
abbrev J3:FSig:=⟨.pure,true,[1],0,λl=>match l with | [[a],[b]]=>kc a b | _=>none⟩
def T32:ad->Option FSig:=aG jW J3 T31
def Al:ad->Option FSig:=aG xA ⟨.pure,true,[1],0,λl=>match l with | [[a]]=>my (iW) a | _=>none⟩ <| T32
theorem Jk (a0 a b a3:IV):run ab Al (iW) A1 Tryz.f52 [[a0,a],[b,a3]]=fw a0 a b a3:=by kernel_rfl
abbrev OU:FSig:=⟨.pure,true,[1],0,λl=>match l with | [[a,b],[c,d]]=>fw a b c d | _=>none⟩
def T33:ad->Option FSig:=aG N6 OU T32
def oD:Ann:={ loop:=(λr=>if r=2 then ([(8,.I)],[[],[(4,.I)]]) else ([],[])),scalar:=true }
theorem uK (C:IV->List Nat->List (List IV)->Option (List IV)) (a0 a:IV):run ab T33 C oD Tryz.f191 [[a0],[a]]=cz C a0 a:=by kernel_rfl
def kK (C:IV->List Nat->List (List IV)->Option (List IV)):ad->Option FSig:=aG iX ⟨.pure,true,[1],0,λl=>match l with | [[a],[b]]=>cz C a b | _=>none⟩ <| T33
theorem rO (C:IV->List Nat->List (List IV)->Option (List IV)) (a0 a:IV):run ab (kK C) C A1 Tryz.f125 [[a0],[a]]=cF C a0 a:=by kernel_rfl
theorem PR (a0 a b a3 a4 c:IV):run ab T33 C0 A1 Tryz.f71 [[a0,a,b,a3,a4,c]]=oy a0 a b a3 a4 c:=by kernel_rfl
abbrev UL:FSig:=⟨.pure,true,[4],0,λl=>match l with | [[a,b,c,d,e,f]]=>oy a b c d e f | _=>none⟩
def T34:ad->Option FSig:=aG UO UL T33
def I1:Ann:={ join:=(λr=>if r=2 then some [2] else none),scalar:=true }
theorem PI (a0 a b a3 a4 c:IV):run ab T34 C0 I1 Tryz.f32 [[a0,a,b,a3,a4,c]]=ll a0 a b a3 a4 c:=by kernel_rfl
abbrev Ux:FSig:=⟨.pure,true,[1],0,λl=>match l with | [[a,b,c,d,e,f]]=>ll a b c d e f | _=>none⟩
def T35:ad->Option FSig:=aG V3 Ux T34
theorem y2 (a0 a b a3 a4 c:IV):run ab T35 C0 A1 Tryz.f126 [[a0,a,b,a3,a4,c]]=m4 a0 a b a3 a4 c:=by kernel_rfl
abbrev Pq:FSig:=⟨.pure,true,[1],0,λl=>match l with | [[a,b,c,d,e,f]]=>m4 a b c d e f | _=>none⟩
def T36:ad->Option FSig:=aG qK Pq T35
def EO:ad->Option FSig:=aG gl ⟨.pure,true,[1],0,λl=>match l with | [[a],[b]]=>cF (pG) a b | _=>none⟩ <| T36
def It:Ann:={ order:=(λr=>if r=4 then some ([],[0,1,2,3,4,5,6,7,8,9,10,11,12],[]) else none),join:=(λr=>if r=6 then some [2] else none),loop:=(λr=>if r=2 then ([(3,.I)],[[],[(2,.I)]]) else ([],[])),scalar:=true }
theorem Qc (a0:IV):run ab EO (pG) It Tryz.f58 [[a0]]=ma a0:=by kernel_rfl
abbrev Wq:FSig:=⟨.pure,true,[1],0,λl=>match l with | [[a]]=>ma a | _=>none⟩
def T37:ad->Option FSig:=aG WT Wq T36
def Ja:Ann:={ order:=(λr=>if r=4 then some ([],[0,1,2,3,4,5,6,7,8,9,10,11,12,13,14,15,16,17,18,19,20,21,22,23,24,25,26,27,28,29,30,31,32],[]) else none),join:=(λr=>if r=4 then some [44] else none),loop:=(λr=>if r=2 then ([(7,.I)],[[],[(2,.I)]]) else ([],[])),scalar:=true }
theorem Po (a0:IV):run ab T37 C0 Ja Tryz.f100 [[a0]]=dB a0:=by kernel_rfl
abbrev VE:FSig:=⟨.pure,true,[1],0,λl=>match l with | [[a]]=>dB a | _=>none⟩
def T38:ad->Option FSig:=aG VK VE T37
def wo:Ann:={ join:=(λr=>if r=1 then some [1] else none),scalar:=true }
theorem y4 (a0:IV):run ab T38 C0 wo Tryz.f98 [[a0]]=m9 a0:=by kernel_rfl
abbrev Oh:FSig:=⟨.pure,true,[1],0,λl=>match l with | [[a]]=>m9 a | _=>none⟩
def T39:ad->Option FSig:=aG nL Oh T38
def oA:Ann:={ loop:=(λr=>if r=2 then ([(8,.I)],[[],[(4,.I)]]) else ([],[])),scalar:=true }
theorem uO (C:IV->List Nat->List (List IV)->Option (List IV)) (a0 a:IV):run ab T39 C oA Tryz.f116 [[a0],[a]]=aV C a0 a:=by kernel_rfl
theorem vf (a0 a b:IV):run ab T39 C0 A1 Tryz.f178 [[a0,a],[b]]=jS a0 a b:=by kernel_rfl
abbrev JO:FSig:=⟨.pure,true,[1],0,λl=>match l with | [[a,b],[c]]=>jS a b c | _=>none⟩
def T40:ad->Option FSig:=aG nO JO T39
def BK:ad->Option FSig:=aG dh ⟨.pure,true,[1],0,λl=>match l with | [[a],[b]]=>aV (k8) a b | _=>none⟩ <| T40
theorem Kl (a0 a:IV):run ab BK (k8) A1 Tryz.f114 [[a0],[a]]=kG a0 a:=by kernel_rfl
abbrev PB:FSig:=⟨.pure,true,[1,1],0,λl=>match l with | [[a],[b]]=>kG a b | _=>none⟩
def T41:ad->Option FSig:=aG OV PB T40
def wV:Ann:={ loop:=(λr=>if r=2 then ([(0,.I),(9,.I)],[[(0,.I)]]) else ([],[])),scalar:=true }
theorem Dv (a0 a:IV):run ab T41 C0 wV Tryz.f115 [[a0],[a]]=fK a0 a:=by kernel_rfl
abbrev Hz:FSig:=⟨.pure,true,[1],0,λl=>match l with | [[a],[b]]=>fK a b | _=>none⟩
def T42:ad->Option FSig:=aG GS Hz T41
theorem vG (a0 a b:IV):run ab T42 C0 A1 Tryz.f117 [[a0,a],[b]]=j9 a0 a b:=by kernel_rfl
abbrev JP:FSig:=⟨.pure,true,[1],0,λl=>match l with | [[a,b],[c]]=>j9 a b c | _=>none⟩
def T43:ad->Option FSig:=aG nT JP T42
def AU:ad->Option FSig:=aG dh ⟨.pure,true,[1],0,λl=>match l with | [[a],[b]]=>aV (lG) a b | _=>none⟩ <| T43
def C2:Ann:={ order:=(λr=>if r=4 then some ([],[0,1,2,3,4,5,6,7,8,9,10,11,12],[13]) else none) }
theorem Jy (a0 a b:IV):run ab AU (lG) C2 Tryz.f54 [[a0],[a,b]]=kC a0 a b:=by kernel_rfl
abbrev O3:FSig:=⟨.pure,false,[1],0,λl=>match l with | [[a],[b,c]]=>kC a b c | _=>none⟩
def T44:ad->Option FSig:=aG Pj O3 T43
def Nh:Ann:={ loop:=(λr=>if r=3 then ([(3,.I),(8,.I)],[[(3,.I)]]) else ([],[])) }
theorem Rm (a0:IV):run ab T44 C0 Nh Tryz.f103 [[a0]]=tm a0:=by kernel_rfl
abbrev XV:FSig:=⟨.pure,false,[1],0,λl=>match l with | [[a]]=>tm a | _=>none⟩
def T45:ad->Option FSig:=aG XC XV T44
def kL (C:IV->List Nat->List (List IV)->Option (List IV)):ad->Option FSig:=aG dh ⟨.pure,true,[1],0,λl=>match l with | [[a],[b]]=>aV C a b | _=>none⟩ <| T45
theorem rQ (C:IV->List Nat->List (List IV)->Option (List IV)) (a0 a:IV):run ab (kL C) C A1 Tryz.f174 [[a0],[a]]=cD C a0 a:=by kernel_rfl
theorem PU (a0 a:IV):run ab T45 C0 A1 Tryz.f176 [[a0],[a]]=lC a0 a:=by kernel_rfl
abbrev WQ:FSig:=⟨.pure,true,[1],0,λl=>match l with | [[a],[b]]=>lC a b | _=>none⟩
def T46:ad->Option FSig:=aG WB WQ T45
def rR:Ann:={ order:=(λr=>if r=1 then some ([],[0,1,2,3,4,5,6,7,8,9],[]) else none),scalar:=true }
theorem uY (a0 a b a3:IV):run ab T46 C0 rR Tryz.f175 [[a0,a],[b],[a3]]=j6 a0 a b a3:=by kernel_rfl
abbrev Jw:FSig:=⟨.pure,true,[1],0,λl=>match l with | [[a,b],[c],[d]]=>j6 a b c d | _=>none⟩
def T47:ad->Option FSig:=aG nU Jw T46
def Af:ad->Option FSig:=aG fR ⟨.pure,true,[1],0,λl=>match l with | [[a],[b]]=>cD (lR) a b | _=>none⟩ <| T47
theorem JC (a0 a:IV):run ab Af (lR) A1 Tryz.f102 [[a0],[a]]=nJ a0 a:=by kernel_rfl
abbrev Og:FSig:=⟨.pure,true,[1],0,λl=>match l with | [[a],[b]]=>nJ a b | _=>none⟩
def T48:ad->Option FSig:=aG N9 Og T47
def wq:Ann:={ order:=(λr=>if r=1 then some ([],[0,1,2,3,4,5,6],[]) else none),scalar:=true }
theorem yO (a0:IV):run ab T48 C0 wq Tryz.f101 [[a0]]=nj a0:=by kernel_rfl
abbrev Pe:FSig:=⟨.pure,true,[1],0,λl=>match l with | [[a]]=>nj a | _=>none⟩
def T49:ad->Option FSig:=aG nN Pe T48
def CK:Ann:={ order:=(λr=>if r=1 then some ([],[0,1,2,3,4,5,6,7,8,9,10,11,12,13,14,15,16,17,18,19,20,21,22,23,24,25,26,27],[]) else none),join:=(λr=>if r=1 then some [4] else none),scalar:=true }
theorem JE (a0 a b:IV):run ab T49 C0 CK Tryz.f105 [[a0],[a,b]]=kx a0 a b:=by kernel_rfl
abbrev OA:FSig:=⟨.pure,true,[1],0,λl=>match l with | [[a],[b,c]]=>kx a b c | _=>none⟩
def T50:ad->Option FSig:=aG PM OA T49
def wk:Ann:={ join:=(λr=>if r=1 then some [1] else none),scalar:=true }
theorem yT (a0:IV):run ab T50 C0 wk Tryz.f104 [[a0]]=nv a0:=by kernel_rfl
abbrev Pf:FSig:=⟨.pure,true,[1],0,λl=>match l with | [[a]]=>nv a | _=>none⟩
def T51:ad->Option FSig:=aG nf Pf T50
theorem p9 (a0 a b a3 a4 c d e:IV):run ab T51 C0 A1 Tryz.f85 [[a0,a],[b,a3,a4,c,d,e]]=cT a0 a b a3 a4 c d e:=by kernel_rfl
abbrev CE:FSig:=⟨.pure,true,[1],0,λl=>match l with | [[a,b],[c,d,e,f,g,h]]=>cT a b c d e f g h | _=>none⟩
def T52:ad->Option FSig:=aG iO CE T51
def Da:Ann:={ loop:=(λr=>if r=3 then ([(5,(.B 6)),(10,.I)],[[(5,(.B 6))]]) else ([],[])) }
theorem Js (a0 a b:IV):run ab T52 C0 Da Tryz.f107 [[a0],[a,b]]=ko a0 a b:=by kernel_rfl
abbrev Ov:FSig:=⟨.pure,false,[1],0,λl=>match l with | [[a],[b,c]]=>ko a b c | _=>none⟩
def T53:ad->Option FSig:=aG PY Ov T52
def vZ:Ann:={ order:=(λr=>if r=1 then some ([],[0,1,2,3,4,5,6,7,8,9,10],[]) else none),scalar:=true }
theorem yW (a0:IV):run ab T53 C0 vZ Tryz.f106 [[a0]]=na a0:=by kernel_rfl
abbrev Pt:FSig:=⟨.pure,true,[1],0,λl=>match l with | [[a]]=>na a | _=>none⟩
def T54:ad->Option FSig:=aG nx Pt T53
def wW:Ann:={ loop:=(λr=>if r=3 then ([(3,.M),(12,.I)],[[(3,.M)]]) else if r=8 then ([(3,.M),(23,.I)],[[(3,.M)]]) else ([],[])) }
theorem DQ (a0 a b a3 a4:IV):run ab T54 C0 wW Tryz.f53 [[a0,a,b,a3,a4]]=fI a0 a b a3 a4:=by kernel_rfl
abbrev H2:FSig:=⟨.pure,false,[1],0,λl=>match l with | [[a,b,c,d,e]]=>fI a b c d e | _=>none⟩
def T55:ad->Option FSig:=aG HN H2 T54
theorem y9 (a0:IV):run ab T55 C0 A1 Tryz.f108 [[a0]]=nk a0:=by kernel_rfl
abbrev P4:FSig:=⟨.pure,true,[1],0,λl=>match l with | [[a]]=>nk a | _=>none⟩
def T56:ad->Option FSig:=aG nr P4 T55
def IQ:Ann:={ loop:=(λr=>if r=2 then ([(12,.I)],[[],[(2,.I)]]) else ([],[])),scalar:=true }
theorem Ok (a0 a b a3 a4:IV):run ab T56 (dX) IQ Tryz.f51 [[a0,a,b,a3,a4]]=ju a0 a b a3 a4:=by kernel_rfl
abbrev U8:FSig:=⟨.pure,true,[1],0,λl=>match l with | [[a,b,c,d,e]]=>ju a b c d e | _=>none⟩
def T57:ad->Option FSig:=aG Vr U8 T56
def LU:Ann:={ loop:=(λr=>if r=3 then ([(3,(.O [.sn 123 2,.buf 1 (some 5)])),(8,.I)],[[(3,(.O [.sn 123 2,.buf 1 (some 5)]))]]) else ([],[])),scalar:=true }
theorem Ry (C:IV->List Nat->List (List IV)->Option (List IV)) (a0:IV):run ab T57 C LU Tryz.f181 [[a0]]=il C a0:=by kernel_rfl
theorem gJ (a0:IV):run ab T57 C0 A1 Tryz.f284 [[a0]]=dc a0:=by kernel_rfl
abbrev Er:FSig:=⟨.pure,true,[1],0,λl=>match l with | [[a]]=>dc a | _=>none⟩
def T58:ad->Option FSig:=aG D9 Er T57
theorem mZ (a0:IV):run ab T58 C0 A1 Tryz.f285 [[a0]]=ey a0:=by kernel_rfl
abbrev Gr:FSig:=⟨.pure,true,[1],0,λl=>match l with | [[a]]=>ey a | _=>none⟩
def T59:ad->Option FSig:=aG FH Gr T58
def Gn:Ann:={ loop:=(λr=>if r=5 then ([(4,.M),(5,(.B 1)),(6,(.B 1)),(17,.I)],[[(5,(.B 1)),(6,(.B 1))]]) else ([],[])) }
theorem Nc (a0:IV):run ab T59 C0 Gn Tryz.f238 [[a0]]=pa a0:=by kernel_rfl
abbrev S6:FSig:=⟨.pure,false,[1,1],0,λl=>match l with | [[a]]=>pa a | _=>none⟩
def T60:ad->Option FSig:=aG Sk S6 T59
theorem SI (a0:IV):run ab T60 C0 A1 Tryz.f128 [[a0]]=yc a0:=by kernel_rfl
abbrev Ym:FSig:=⟨.pure,true,[1],0,λl=>match l with | [[a]]=>yc a | _=>none⟩
def T61:ad->Option FSig:=aG XM Ym T60
def wH:Ann:={ join:=(λr=>if r=6 then some [26] else none),loop:=(λr=>if r=3 then ([(3,(.B 2)),(9,.I)],[[(3,(.B 2))]]) else ([],[])) }
theorem DF (a0:IV):run ab T61 C0 wH Tryz.f237 [[a0]]=jh a0:=by kernel_rfl
abbrev HY:FSig:=⟨.pure,false,[1],0,λl=>match l with | [[a]]=>jh a | _=>none⟩
def T62:ad->Option FSig:=aG GK HY T61
def CW:Ann:={ loop:=(λr=>if r=3 then ([(3,(.O [.sn 123 2,.buf 1 (some 5)])),(9,.I)],[[(3,(.O [.sn 123 2,.buf 1 (some 5)]))]]) else ([],[])),scalar:=true }
theorem JI (a0:IV):run ab T62 C0 CW Tryz.f186 [[a0]]=ky a0:=by kernel_rfl
abbrev OM:FSig:=⟨.pure,true,[1],0,λl=>match l with | [[a]]=>ky a | _=>none⟩
def T63:ad->Option FSig:=aG OD OM T62
def CN:Ann:={ loop:=(λr=>if r=5 then ([(5,(.O [.sn 123 2,.buf 1 (some 5)])),(20,.I)],[[(5,(.O [.sn 123 2,.buf 1 (some 5)]))]]) else ([],[])),scalar:=true }
theorem JD (a0:IV):run ab T63 C0 CN Tryz.f187 [[a0]]=kD a0:=by kernel_rfl
abbrev Pp:FSig:=⟨.pure,true,[1],0,λl=>match l with | [[a]]=>kD a | _=>none⟩
def T64:ad->Option FSig:=aG N3 Pp T63
theorem re (a0:IV):run ab T64 C0 A1 Tryz.f286 [[a0]]=gi a0:=by kernel_rfl
abbrev Em:FSig:=⟨.pure,true,[1],0,λl=>match l with | [[a]]=>gi a | _=>none⟩
def T65:ad->Option FSig:=aG D3 Em T64
def EY:Ann:={ join:=(λr=>if r=1 then some [2] else none),scalar:=true }
theorem Lu (a0:IV):run ab T65 C0 EY Tryz.f193 [[a0]]=fp a0:=by kernel_rfl
abbrev RQ:FSig:=⟨.pure,true,[1],0,λl=>match l with | [[a]]=>fp a | _=>none⟩
def T66:ad->Option FSig:=aG RF RQ T65
theorem Kh:run ab T66 C0 A1 Tryz.f242 []=nq:=by kernel_rfl
abbrev O8:FSig:=⟨.pure,true,[30],0,λl=>match l with | []=>nq | _=>none⟩
def T67:ad->Option FSig:=aG Pc O8 T66
def FC:Ann:={ loop:=(λr=>if r=3 then ([(0,.I),(4,.I),(8,.I)],[[(0,.I),(4,.I)]]) else if r=12 then ([(0,.I),(4,.I)],[[(0,.I),(4,.I)]]) else if r=15 then ([(0,.I),(4,.I)],[[(0,.I),(4,.I)]]) else ([],[])),scalar:=true }
theorem KX (a0:IV):run ab T67 C0 FC Tryz.f194 [[a0]]=jP a0:=by kernel_rfl
abbrev Rx:FSig:=⟨.pure,true,[1,1],0,λl=>match l with | [[a]]=>jP a | _=>none⟩
def T68:ad->Option FSig:=aG Ss Rx T67
theorem P6 (a0:IV):run ab T68 C0 A1 Tryz.f130 [[a0]]=fA a0:=by kernel_rfl
abbrev WA:FSig:=⟨.pure,true,[1],0,λl=>match l with | [[a]]=>fA a | _=>none⟩
def T69:ad->Option FSig:=aG Wr WA T68
def sE:Ann:={ loop:=(λr=>if r=2 then ([(8,.I)],[[],[(4,.I)]]) else ([],[])),scalar:=true }
theorem zh (a0 a:IV):run ab T69 C0 sE Tryz.f263 [[a0],[a]]=ff a0 a:=by kernel_rfl
abbrev Cw:FSig:=⟨.pure,true,[1],0,λl=>match l with | [[a],[b]]=>ff a b | _=>none⟩
def T70:ad->Option FSig:=aG Ce Cw T69
def eb:Inl:=mD ab T70 C0 A0 Tryz.f260
def gV:ad->Option FSig:=aG iw ⟨.inl eb,false,[],0,λ_=>none⟩ <| T70
def iA:Inl:=mD ab gV C0 A0 Tryz.f266
def wJ:ad->Option FSig:=aG iw ⟨.inl eb,false,[],0,λ_=>none⟩ <| aG eG ⟨.inl iA,false,[],0,λ_=>none⟩ <| T70
def yV:Ann:={ order:=(λr=>if r=8 then some ([4,5,6],[0,1,2],[3,7,8]) else none),loop:=(λr=>if r=3 then ([(0,.I),(3,(.B 1)),(4,(.C eG [some 1]))],[[(3,(.B 1))]]) else ([],[])) }
theorem FA (a0:IV):run ab wJ C0 yV Tryz.f255 [[a0]]=jT a0:=by kernel_rfl
abbrev JB:FSig:=⟨.pure,false,[1],0,λl=>match l with | [[a]]=>jT a | _=>none⟩
def T71:ad->Option FSig:=aG Jq JB T70
def Aa:Ann:={ loop:=(λr=>if r=3 then ([(3,(.O [.sn 123 2,.buf 1 (some 5)])),(9,.I)],[[(3,(.O [.sn 123 2,.buf 1 (some 5)]))]]) else ([],[])),scalar:=true }
theorem HT (a0:IV):run ab T71 C0 Aa Tryz.f239 [[a0]]=mi a0:=by kernel_rfl
abbrev LW:FSig:=⟨.pure,true,[1],0,λl=>match l with | [[a]]=>mi a | _=>none⟩
def T72:ad->Option FSig:=aG My LW T71
theorem LM (a0:IV):run ab T72 C0 A1 Tryz.f184 [[a0]]=bJ a0:=by kernel_rfl
abbrev Rp:FSig:=⟨.pure,true,[1],0,λl=>match l with | [[a]]=>bJ a | _=>none⟩
def T73:ad->Option FSig:=aG Te Rp T72
theorem M0 (a0:IV):run ab T73 C0 A1 Tryz.f252 [[a0]]=mF a0:=by kernel_rfl
abbrev SZ:FSig:=⟨.pure,true,[1],0,λl=>match l with | [[a]]=>mF a | _=>none⟩
def T74:ad->Option FSig:=aG Sw SZ T73
theorem ua (a0 a:IV):run ab T74 C0 A1 Tryz.f256 [[a0],[a]]=qf a0 a:=by kernel_rfl
abbrev HQ:FSig:=⟨.pure,true,[1],0,λl=>match l with | [[a],[b]]=>qf a b | _=>none⟩
def T75:ad->Option FSig:=aG fJ HQ T74
def eM:Inl:=mD ab T75 (da) A0 Tryz.f250
def iK:ad->Option FSig:=aG iu ⟨.inl eM,false,[],0,λ_=>none⟩ <| T75
def jl:Inl:=mD ab iK (da) A0 Tryz.f262
def yS:ad->Option FSig:=aG iu ⟨.inl eM,false,[],0,λ_=>none⟩ <| aG eO ⟨.inl jl,false,[],0,λ_=>none⟩ <| T75
def AN:Ann:={ loop:=(λr=>if r=4 then ([(3,(.C eO [some 1,some 1])),(4,(.O [.sn 123 2,.buf 1 (some 5)])),(10,.I)],[[(4,(.O [.sn 123 2,.buf 1 (some 5)]))]]) else ([],[])),scalar:=true }
theorem H4 (a0:IV):run ab yS (da) AN Tryz.f240 [[a0]]=lF a0:=by kernel_rfl
abbrev NC:FSig:=⟨.pure,true,[1],0,λl=>match l with | [[a]]=>lF a | _=>none⟩
def T76:ad->Option FSig:=aG KS NC T75
def wE:Ann:={ loop:=(λr=>if r=4 then ([(3,(.B 1)),(4,(.B 1)),(12,.I)],[[(3,(.B 1)),(4,(.B 1))]]) else ([],[])),scalar:=true }
theorem DI (a0:IV):run ab T76 C0 wE Tryz.f188 [[a0]]=fP a0:=by kernel_rfl
abbrev GJ:FSig:=⟨.pure,true,[1],0,λl=>match l with | [[a]]=>fP a | _=>none⟩
def T77:ad->Option FSig:=aG Hn GJ T76
theorem qX (a0:IV):run ab T77 C0 A1 Tryz.f287 [[a0]]=fZ a0:=by kernel_rfl
abbrev Ef:FSig:=⟨.pure,true,[1],0,λl=>match l with | [[a]]=>fZ a | _=>none⟩
def T78:ad->Option FSig:=aG Eb Ef T77
theorem VV (C:IV->List Nat->List (List IV)->Option (List IV)) (y:IV):th ab T78 C A0 Tryz.f288 (PV×List Ob) [.agg [.imm y]] [] (λp h=>some (p,h))=(Bm "bonsai/snap.bytes" bJ C y).bind λr=>some (.imm (nth r 0),[.box .rw [.imm y]]):=
 Eq.trans (b:=(C (GL "bonsai/snap.bytes" y) [1] []).bind λr=>(bJ (nth r 0)).bind λa=>some (.imm (nth a 0),[.box .rw [.imm y]])) (by kernel_rfl) (Yu "bonsai/snap.bytes" bJ C y (R:=PV×List Ob) λv=>some (PV.imm v,[Ob.box Md.rw [PV.imm y]]))
def zb:ad->Option FSig:=aG uF ⟨.pure,true,[1],0,λl=>match l with | [[a]]=>il (gC) a | _=>none⟩ <| T78
def Aj:Ann:={ order:=(λr=>if r=7 then some ([5,6,7,8],[0,1,2,3],[4,9,10,11]) else if r=8 then some ([5,6,7,8],[0,1,2,3],[4,9,10,11]) else none),loop:=(λr=>if r=5 then ([(3,(.B 1)),(4,(.B 1)),(5,(.B 1)),(6,(.B 1)),(11,.I)],[[(3,(.B 1)),(4,(.B 1)),(5,(.B 1)),(6,(.B 1))]]) else ([],[])),scalar:=true }
theorem H0 (a0:IV):run ab zb (gC) Aj Tryz.f182 [[a0]]=lp a0:=by kernel_rfl
abbrev Nj:FSig:=⟨.pure,true,[1],0,λl=>match l with | [[a]]=>lp a | _=>none⟩
def T79:ad->Option FSig:=aG LY Nj T78
def wX:ad->Option FSig:=aG uF ⟨.pure,true,[1],0,λl=>match l with | [[a]]=>il (fM) a | _=>none⟩ <| T79
def za:Ann:={ order:=(λr=>if r=5 then some ([5,6,7,8],[0,1,2,3],[4,9,10,11]) else none),loop:=(λr=>if r=3 then ([(3,(.B 1)),(4,(.B 1)),(9,.I)],[[(3,(.B 1)),(4,(.B 1))]]) else ([],[])),scalar:=true }
theorem F2 (a0:IV):run ab wX (fM) za Tryz.f183 [[a0]]=jZ a0:=by kernel_rfl
abbrev JV:FSig:=⟨.pure,true,[1],0,λl=>match l with | [[a]]=>jZ a | _=>none⟩
def T80:ad->Option FSig:=aG JQ JV T79
def zX:ad->Option FSig:=aG uF ⟨.pure,true,[1],0,λl=>match l with | [[a]]=>il (jq) a | _=>none⟩ <| T80
def Dp:Ann:={ order:=(λr=>if r=3 then some ([],[0,1,2,3,4,5,6,7,8,9,10,11,12,13,14,15,16,17,18,19,20,21],[]) else none),join:=(λr=>if r=1 then some [25] else none) }
theorem JF (a0 a b a3 a4:IV):run ab zX (jq) Dp Tryz.f119 [[a0,a,b,a3,a4]]=nw a0 a b a3 a4:=by kernel_rfl
abbrev P3:FSig:=⟨.pure,false,[1,1],0,λl=>match l with | [[a,b,c,d,e]]=>nw a b c d e | _=>none⟩
def T81:ad->Option FSig:=aG PW P3 T80
def zM:Ann:={ order:=(λr=>if r=10 then some ([6,7,8,9,10,11],[0,1,2,3,4],[5,12,13,14]) else if r=11 then some ([5,6,7,8],[0,1,2,3],[4,9,10,11]) else if r=12 then some ([5,6,7,8],[0,1,2,3],[4,9,10,11]) else none),loop:=(λr=>if r=8 then ([(4,(.B 1)),(5,(.B 1)),(6,(.B 1)),(7,(.B 1)),(8,(.B 1)),(9,(.B 1)),(17,.I)],[[(4,(.B 1)),(5,(.B 1)),(6,(.B 1)),(7,(.B 1)),(8,(.B 1)),(9,(.B 1))]]) else ([],[])) }
theorem HV (a0:IV):run ab T81 C0 zM Tryz.f120 [[a0]]=lr a0:=by kernel_rfl
abbrev Ly:FSig:=⟨.pure,false,[1,1],0,λl=>match l with | [[a]]=>lr a | _=>none⟩
def T82:ad->Option FSig:=aG K5 Ly T81
def p7:Ann:={ loop:=(λr=>if r=3 then ([(3,.I),(11,.I)],[[(3,.I)]]) else if r=11 then ([(6,(.B 2)),(27,.I)],[[(6,(.B 2))]]) else ([],[])) }
theorem wC (a0:IV):run ab T82 C0 p7 Tryz.f121 [[a0]]=dK a0:=by kernel_rfl
abbrev zo:FSig:=⟨.pure,false,[1],0,λl=>match l with | [[a]]=>dK a | _=>none⟩
def T83:ad->Option FSig:=aG zk zo T82
theorem HI (a0 a b a3 a4:IV):run ab T83 C0 A0 Tryz.f55 [[a0,a,b,a3,a4]]=pg a0 a b a3 a4:=by kernel_rfl
abbrev No:FSig:=⟨.pure,false,[1,1],0,λl=>match l with | [[a,b,c,d,e]]=>pg a b c d e | _=>none⟩
def T84:ad->Option FSig:=aG M7 No T83
def Lr:Ann:={ loop:=(λr=>if r=3 then ([(5,.I),(13,.I)],[[(5,.I)]]) else if r=7 then ([(5,.I),(21,.I)],[[(5,.I)]]) else ([],[])),scalar:=true }
theorem S2 (a0 a:IV):run ab T84 C0 Lr Tryz.f257 [[a0],[a]]=xE a0 a:=by kernel_rfl
abbrev Xx:FSig:=⟨.pure,true,[1],0,λl=>match l with | [[a],[b]]=>xE a b | _=>none⟩
def T85:ad->Option FSig:=aG Yp Xx T84
theorem U1 (a0:IV):run ab T85 C0 A1 Tryz.f241 [[a0]]=wK a0:=by kernel_rfl
abbrev Zp:FSig:=⟨.pure,true,[1],0,λl=>match l with | [[a]]=>wK a | _=>none⟩
def T86:ad->Option FSig:=aG Z7 Zp T85
def Fz:Ann:={ loop:=(λr=>if r=3 then ([(3,(.B 1)),(8,.I)],[[(3,(.B 1))]]) else ([],[])),scalar:=true }
theorem LK (a0:IV):run ab T86 C0 Fz Tryz.f129 [[a0]]=pB a0:=by kernel_rfl
abbrev Tm:FSig:=⟨.pure,true,[1],0,λl=>match l with | [[a]]=>pB a | _=>none⟩
def T87:ad->Option FSig:=aG TS Tm T86
theorem HC (a0:IV):run ab T87 C0 A1 Tryz.f190 [[a0]]=gn a0:=by kernel_rfl
abbrev Lj:FSig:=⟨.pure,true,[1],0,λl=>match l with | [[a]]=>gn a | _=>none⟩
def T88:ad->Option FSig:=aG MN Lj T87
def Iv:Ann:={ order:=(λr=>if r=1 then some ([],[0,1,2,3,4,5,6,7,8,9,10,11,12,13,14,15],[]) else none),scalar:=true }
theorem N0 (a0 a:IV):run ab T88 C0 Iv Tryz.f123 [[a0,a]]=rE a0 a:=by kernel_rfl
abbrev WZ:FSig:=⟨.pure,true,[1],0,λl=>match l with | [[a,b]]=>rE a b | _=>none⟩
def T89:ad->Option FSig:=aG VX WZ T88
def FN:Ann:={ join:=(λr=>if r=1 then some [15] else if r=10 then some [26] else none),loop:=(λr=>if r=8 then ([(6,(.O [.sn 123 2,.buf 1 (some 5)])),(7,.I),(22,.I)],[[(6,(.O [.sn 123 2,.buf 1 (some 5)]))],[(4,.I),(5,.I)]]) else ([],[])),scalar:=true }
theorem Nz (a0 a:IV):run ab T89 C0 FN Tryz.f56 [[a0],[a]]=pz a0 a:=by kernel_rfl
abbrev TP:FSig:=⟨.pure,true,[1,1],0,λl=>match l with | [[a],[b]]=>pz a b | _=>none⟩
def T90:ad->Option FSig:=aG RC TP T89
theorem Ln (a0 a b a3 a4:IV):run ab T90 C0 A1 Tryz.f26 [[a0,a,b,a3,a4]]=dV a0 a b a3 a4:=by kernel_rfl
abbrev TK:FSig:=⟨.pure,true,[1,1],0,λl=>match l with | [[a,b,c,d,e]]=>dV a b c d e | _=>none⟩
def T91:ad->Option FSig:=aG Rr TK T90
def ov:Ann:={ join:=(λr=>if r=1 then some [4] else none),scalar:=true }
theorem uV (a0 a:IV):run ab T91 C0 ov Tryz.f243 [[a0],[a]]=er a0 a:=by kernel_rfl
abbrev xk:FSig:=⟨.pure,true,[1],0,λl=>match l with | [[a],[b]]=>er a b | _=>none⟩
def T92:ad->Option FSig:=aG wN xk T91
theorem uN (a0 a:IV):run ab T92 C0 A1 Tryz.f195 [[a0],[a]]=eD a0 a:=by kernel_rfl
abbrev xo:FSig:=⟨.pure,true,[1,1],0,λl=>match l with | [[a],[b]]=>eD a b | _=>none⟩
def T93:ad->Option FSig:=aG xe xo T92
theorem zF (a0 a:IV):run ab T93 C0 A1 Tryz.f131 [[a0],[a]]=iR a0 a:=by kernel_rfl
abbrev Cf:FSig:=⟨.pure,true,[1,1],0,λl=>match l with | [[a],[b]]=>iR a b | _=>none⟩
def T94:ad->Option FSig:=aG Ch Cf T93
theorem E6 (a0:IV):run ab T94 C0 A1 Tryz.f63 [[a0]]=dA a0:=by kernel_rfl
abbrev JS:FSig:=⟨.pure,true,[1,1],0,λl=>match l with | [[a]]=>dA a | _=>none⟩
def T95:ad->Option FSig:=aG J1 JS T94
theorem R0 (a0:IV):runN ab T95 C0 A0 [.imm,.imm] Tryz.f64 [[a0]]=cq a0:=by kernel_rfl
abbrev Xh:FSig:=⟨.mko [.imm,.imm],false,[1],0,λl=>match l with | [[a]]=>cq a | _=>none⟩
def T96:ad->Option FSig:=aG LC Xh T95
theorem Od (a0 a:IV):run ab T96 C0 A1 Tryz.f134 [[a0],[a]]=cj a0 a:=by kernel_rfl
abbrev UQ:FSig:=⟨.pure,true,[],0,λl=>match l with | [[a],[b]]=>cj a b | _=>none⟩
def T97:ad->Option FSig:=aG WU UQ T96
def dT:Ann:={ join:=(λr=>if r=1 then some [] else none) }
def cy:Inl:=mD ab T97 C0 dT Tryz.f197
def ei:ad->Option FSig:=aG gP ⟨.inl cy,false,[],0,λ_=>none⟩ <| T97
def eo:Ann:={ order:=(λr=>if r=3 then some ([0],[1,2,3,4,5],[6,7,8,9]) else none),join:=(λr=>if r=1 then some [12] else none) }
def en:Inl:=UG ab ei C0 eo gr Tryz.f132
def sH:ad->Option FSig:=aG gP ⟨.inl cy,false,[],0,λ_=>none⟩ <| aG fT ⟨.inl en,false,[],0,λ_=>none⟩ <| T97
theorem AO (a0 a b:IV):runM ab sH C0 A0 [.imm,.imm] Tryz.f138 [a0,a] [[b]]=b9 a0 a b:=by kernel_rfl
abbrev DH:FSig:=⟨.obj [.imm,.imm],false,[1],0,λl=>match l with | [[a,b],[c]]=>b9 a b c | _=>none⟩
def T98:ad->Option FSig:=aG um DH T97
def ej:Ann:={ join:=(λr=>if r=6 then some [] else none),loop:=(λr=>if r=4 then ([(1,(.K 3 [.imm])),(4,.I),(5,.I)],[[(1,(.K 3 [.imm])),(3,.I)]]) else ([],[])) }
def cM:Inl:=mD ab T98 C0 ej Tryz.f133
def ez:ad->Option FSig:=aG iU ⟨.inl cM,false,[],0,λ_=>none⟩ <| T98
def eY:Ann:={ order:=(λr=>if r=3 then some ([0],[1,2,3,4,5],[6,7,8,9]) else none),join:=(λr=>if r=1 then some [12] else none) }
def eX:Inl:=UG ab ez C0 eY gr Tryz.f132
def uG:ad->Option FSig:=aG iU ⟨.inl cM,false,[],0,λ_=>none⟩ <| aG fT ⟨.inl eX,false,[],0,λ_=>none⟩ <| T98
theorem Ct (a0 a:IV):runM ab uG C0 A0 [.imm,.imm] Tryz.f65 [a0,a] []=aD a0 a:=by kernel_rfl
abbrev Fy:FSig:=⟨.obj [.imm,.imm],false,[1],0,λl=>match l with | [[a,b]]=>aD a b | _=>none⟩
def T99:ad->Option FSig:=aG vD Fy T98
theorem Cj (a0:IV):run ab T99 C0 A1 Tryz.f66 [[a0]]=kT a0:=by kernel_rfl
abbrev F0:FSig:=⟨.look 2,false,[1],0,λl=>match l with | vs::ws=>(λl=>match l with | [[a]]=>kT a | _=>none) ([.ptr vs 0]::ws) | []=>none⟩
def aeP:ad->Option FSig:=aG oQ F0 T99
theorem Bf (a0:IV):run ab aeP C0 A1 Tryz.f142 [[a0]]=jC a0:=by kernel_rfl
abbrev DY:FSig:=⟨.look 2,false,[1],0,λl=>match l with | vs::ws=>(λl=>match l with | [[a]]=>jC a | _=>none) ([.ptr vs 0]::ws) | []=>none⟩
def aeZ:ad->Option FSig:=aG oe DY aeP
def CL:Ann:={ order:=(λr=>if r=15 then some ([],[0,1,2,3,4,5,6,7,8],[]) else none),scalar:=true }
theorem Jh (a0:IV):run ab aeZ C0 CL Tryz.f158 [[a0]]=nh a0:=by kernel_rfl
abbrev PT:FSig:=⟨.pure,true,[2,1,1],0,λl=>match l with | [[a]]=>nh a | _=>none⟩
def afu:ad->Option FSig:=aG Pd PT aeZ
def CM:Ann:={ order:=(λr=>if r=12 then some ([4,5,6,7,8],[0,1,2],[3,9,10,11]) else none),loop:=(λr=>if r=7 then ([(0,.I),(7,(.B 2)),(8,.I)],[[(7,(.B 2))],[(2,.I),(3,.I),(4,.I)]]) else ([],[])) }
theorem Ka (a0:IV):run ab afu C0 CM Tryz.f92 [[a0]]=kz a0:=by kernel_rfl
abbrev OH:FSig:=⟨.pure,false,[1,1,1],0,λl=>match l with | [[a]]=>kz a | _=>none⟩
def afV:ad->Option FSig:=aG OW OH afu
def tj:Ann:={ join:=(λr=>if r=2 then some [12] else none) }
theorem Ag (a0 a:IV):runM ab afV C0 tj [.imm,.imm] Tryz.f68 [a0,a] []=bX a0 a:=by kernel_rfl
abbrev DR:FSig:=⟨.obj [.imm,.imm],false,[1],0,λl=>match l with | [[a,b]]=>bX a b | _=>none⟩
def T104:ad->Option FSig:=aG td DR afV
theorem Pw (a0 a:IV):runN ab T104 C0 A0 [.imm,.imm,.imm] Tryz.f211 [[a0],[a]]=snap_open_s a0 a:=by kernel_rfl
abbrev S_snap_open:FSig:=⟨.mko [.imm,.imm,.imm],false,[1],0,λl=>match l with | [[a],[b]]=>snap_open_s a b | _=>none⟩
def aew:ad->Option FSig:=aG n_snap_open S_snap_open T104
def A4:Ann:={ order:=(λr=>if r=4 then some ([],[0,1,2,3,4,5,6,7,8,9],[]) else none),loop:=(λr=>if r=2 then ([(3,.I)],[[],[(2,.I)]]) else ([],[])),scalar:=true }
theorem HE (a0:IV):run ab aew C0 A4 Tryz.f218 [[a0]]=mh a0:=by kernel_rfl
abbrev Lv:FSig:=⟨.pure,true,[1],0,λl=>match l with | [[a]]=>mh a | _=>none⟩
def afv:ad->Option FSig:=aG L8 Lv aew
def IH:Ann:={ order:=(λr=>if r=8 then some ([],[0,1,2,3,4,5,6,7,8,9,10],[]) else none),scalar:=true }
theorem OG (a0:IV):run ab afv C0 IH Tryz.f222 [[a0]]=bG a0:=by kernel_rfl
abbrev VN:FSig:=⟨.pure,true,[1,1,1],0,λl=>match l with | [[a]]=>bG a | _=>none⟩
def afs:ad->Option FSig:=aG WY VN afv
theorem LA (a0:IV):run ab afs C0 A1 Tryz.f173 [[a0]]=cu a0:=by kernel_rfl
abbrev Rj:FSig:=⟨.pure,true,[],0,λl=>match l with | [[a]]=>cu a | _=>none⟩
def afg:ad->Option FSig:=aG TD Rj afs
theorem Oi (a0:IV):run ab afg C0 A1 Tryz.f164 [[a0]]=lO a0:=by kernel_rfl
abbrev W4:FSig:=⟨.pure,true,[1,1],0,λl=>match l with | [[a]]=>lO a | _=>none⟩
def aeM:ad->Option FSig:=aG VP W4 afg
theorem MU (a0 a:IV):run ab aeM C0 A1 Tryz.f265 [[a0],[a]]=sK a0 a:=by kernel_rfl
abbrev Ty:FSig:=⟨.pure,true,[1,1],0,λl=>match l with | [[a],[b]]=>sK a b | _=>none⟩
def afU:ad->Option FSig:=aG RH Ty aeM
theorem Nl (a0 a:IV):run ab afU C0 A1 Tryz.f264 [[a0],[a]]=Fg a0 a:=by kernel_rfl
abbrev TX:FSig:=⟨.pure,true,[1,1],0,λl=>match l with | [[a],[b]]=>Fg a b | _=>none⟩
def aeR:ad->Option FSig:=aG S4 TX afU
theorem RZ (a0 a:IV):run ab aeR C0 A1 Tryz.f259 [[a0],[a]]=qm a0 a:=by kernel_rfl
abbrev YA:FSig:=⟨.pure,true,[1,1],0,λl=>match l with | [[a],[b]]=>qm a b | _=>none⟩
def af1:ad->Option FSig:=aG X2 YA aeR
def rB:Ann:={ order:=(λr=>if r=9 then some ([0],[1,2,3,4,5,6],[7,8,9]) else none),join:=(λr=>if r=4 then some [26] else none),loop:=(λr=>if r=8 then ([(7,(.B 1)),(8,.I)],[[(7,(.B 1))]]) else ([],[])) }
theorem yb (a0 a:IV):run ab af1 C0 rB Tryz.f261 [[a0],[a]]=eh a0 a:=by kernel_rfl
abbrev Ak:FSig:=⟨.pure,false,[1],0,λl=>match l with | [[a],[b]]=>eh a b | _=>none⟩
def acn:ad->Option FSig:=aG A6 Ak af1
def eT:Inl:=mD ab acn C0 A0 Tryz.f260
def iL:ad->Option FSig:=aG iw ⟨.inl eT,false,[],0,λ_=>none⟩ <| acn
def ji:Inl:=mD ab iL C0 A0 Tryz.f266
def y1:ad->Option FSig:=aG iw ⟨.inl eT,false,[],0,λ_=>none⟩ <| aG eG ⟨.inl ji,false,[],0,λ_=>none⟩ <| acn
def Bd:Ann:={ join:=(λr=>if r=1 then some [22] else if r=8 then some [42] else none),loop:=(λr=>if r=6 then ([(6,(.B 1)),(7,(.C eG [some 1])),(26,.I)],[[(6,(.B 1))],[(4,.I),(5,.I)]]) else ([],[])) }
theorem HJ (a0 a:IV):run ab y1 C0 Bd Tryz.f249 [[a0],[a]]=ln a0 a:=by kernel_rfl
abbrev LJ:FSig:=⟨.pure,false,[1,1],0,λl=>match l with | [[a],[b]]=>ln a b | _=>none⟩
def afp:ad->Option FSig:=aG K2 LJ acn
def BN:Ann:={ join:=(λr=>if r=13 then some [44] else if r=18 then some [65] else none),loop:=(λr=>if r=8 then ([(6,(.O [.imm,.imm])),(7,(.B 1)),(8,.I)],[[(7,(.B 1)),(8,.I)],[(4,.I),(5,.I)]]) else ([],[])) }
theorem GH (a0 a:IV):run ab afp C0 BN Tryz.f230 [[a0],[a]]=mg a0 a:=by kernel_rfl
abbrev Lh:FSig:=⟨.pure,false,[1,1],0,λl=>match l with | [[a],[b]]=>mg a b | _=>none⟩
def afO:ad->Option FSig:=aG K9 Lh afp
theorem J8 (a0 a:IV):run ab afO C0 A0 Tryz.f229 [[a0],[a]]=qS a0 a:=by kernel_rfl
abbrev PS:FSig:=⟨.pure,false,[1],0,λl=>match l with | [[a],[b]]=>qS a b | _=>none⟩
def aeJ:ad->Option FSig:=aG OZ PS afO
def Dt:Ann:={ loop:=(λr=>if r=3 then ([(3,.I),(8,.I)],[[(3,.I)]]) else ([],[])),scalar:=true }
theorem Ki (a0:IV):run ab aeJ C0 Dt Tryz.f232 [[a0]]=nt a0:=by kernel_rfl
abbrev Oy:FSig:=⟨.pure,true,[1],0,λl=>match l with | [[a]]=>nt a | _=>none⟩
def afe:ad->Option FSig:=aG Oj Oy aeJ
def F9:Ann:={ join:=(λr=>if r=1 then some [2] else none),scalar:=true }
theorem L0 (a0:IV):run ab afe C0 F9 Tryz.f141 [[a0]]=po a0:=by kernel_rfl
abbrev RR:FSig:=⟨.pure,true,[1],0,λl=>match l with | [[a]]=>po a | _=>none⟩
def ae8:ad->Option FSig:=aG Tu RR afe
def Gs:Ann:={ loop:=(λr=>if r=2 then ([(0,.I),(1,.I),(8,.I)],[[(0,.I)]]) else if r=4 then ([(0,.I),(1,.I)],[[(0,.I),(1,.I)]]) else if r=7 then ([(0,.I),(1,.I)],[[(0,.I),(1,.I)]]) else ([],[])),scalar:=true }
theorem NF (a0 a:IV):run ab ae8 C0 Gs Tryz.f199 [[a0],[a]]=jQ a0 a:=by kernel_rfl
abbrev SY:FSig:=⟨.pure,true,[1],0,λl=>match l with | [[a],[b]]=>jQ a b | _=>none⟩
def afy:ad->Option FSig:=aG TI SY ae8
def Fw:Ann:={ join:=(λr=>if r=4 then some [19] else none),scalar:=true }
theorem Nu (a0:IV):run ab afy C0 Fw Tryz.f140 [[a0]]=mE a0:=by kernel_rfl
abbrev RA:FSig:=⟨.pure,true,[1],0,λl=>match l with | [[a]]=>mE a | _=>none⟩
def aeQ:ad->Option FSig:=aG TQ RA afy
theorem ur (a0 a:IV):run ab aeQ C0 A1 Tryz.f251 [[a0],[a]]=qg a0 a:=by kernel_rfl
abbrev He:FSig:=⟨.pure,true,[1],0,λl=>match l with | [[a],[b]]=>qg a b | _=>none⟩
def aa9:ad->Option FSig:=aG fO He aeQ
def eF:Inl:=mD ab aa9 (cZ) A0 Tryz.f250
def iE:ad->Option FSig:=aG iu ⟨.inl eF,false,[],0,λ_=>none⟩ <| aa9
def jj:Inl:=mD ab iE (cZ) A0 Tryz.f262
def y8:ad->Option FSig:=aG iu ⟨.inl eF,false,[],0,λ_=>none⟩ <| aG eO ⟨.inl jj,false,[],0,λ_=>none⟩ <| aa9
def AZ:Ann:={ loop:=(λr=>if r=9 then ([(6,(.C eO [some 1,some 1])),(7,(.O [.imm,.imm])),(8,(.B 1)),(24,.I)],[[(7,(.O [.imm,.imm])),(8,(.B 1))],[(4,.I),(5,.I)]]) else ([],[])) }
theorem HF (a0 a:IV):run ab y8 (cZ) AZ Tryz.f231 [[a0],[a]]=lL a0 a:=by kernel_rfl
abbrev Mh:FSig:=⟨.pure,false,[1,1],0,λl=>match l with | [[a],[b]]=>lL a b | _=>none⟩
def afa:ad->Option FSig:=aG NL Mh aa9
theorem Kn (a0 a:IV):run ab afa C0 A0 Tryz.f171 [[a0],[a]]=kp a0 a:=by kernel_rfl
abbrev O7:FSig:=⟨.pure,false,[1],0,λl=>match l with | [[a],[b]]=>kp a b | _=>none⟩
def aeN:ad->Option FSig:=aG PC O7 afa
theorem Pn (a0 a:IV):run ab aeN C0 A1 Tryz.f233 [[a0],[a]]=rf a0 a:=by kernel_rfl
abbrev Wy:FSig:=⟨.pure,true,[1],0,λl=>match l with | [[a],[b]]=>rf a b | _=>none⟩
def abE:ad->Option FSig:=aG Uc Wy aeN
def ep:Ann:={ order:=(λr=>if r=8 then some ([],[0,1,2,3,4,5,6],[]) else none),loop:=(λr=>if r=4 then ([(2,(.K 2 [.buf 1])),(6,.I),(30,.I)],[[(2,(.K 2 [.buf 1]))]]) else ([],[])) }
def cP:Inl:=mD ab abE C0 ep Tryz.f228
def gH:ad->Option FSig:=aG iP ⟨.inl cP,false,[],0,λ_=>none⟩ <| abE
def iI:Inl:=UG ab gH C0 A0 mm Tryz.f161
def uC:ad->Option FSig:=aG iP ⟨.inl cP,false,[],0,λ_=>none⟩ <| aG np ⟨.inl iI,false,[],0,λ_=>none⟩ <| abE
theorem Cm (a0 a:IV):run ab uC C0 A0 Tryz.f172 [[a0],[a]]=ar a0 a:=by kernel_rfl
abbrev E9:FSig:=⟨.pure,false,[1,1],0,λl=>match l with | [[a],[b]]=>ar a b | _=>none⟩
def aex:ad->Option FSig:=aG EF E9 abE
def I4:Ann:={ join:=(λr=>if r=1 then some [19] else if r=7 then some [32] else none),scalar:=true }
theorem OS (a0 a b:IV):run ab aex C0 I4 Tryz.f137 [[a0],[a],[b]]=ra a0 a b:=by kernel_rfl
abbrev V7:FSig:=⟨.pure,true,[1,1,1],0,λl=>match l with | [[a],[b],[c]]=>ra a b c | _=>none⟩
def afL:ad->Option FSig:=aG UB V7 aex
def NH:Ann:={ order:=(λr=>if r=4 then some ([],[0,1,2,3,4,5,6,7,8,9,10,11,12,13,14,15,16,17],[]) else none),join:=(λr=>if r=4 then some [29] else none),loop:=(λr=>if r=2 then ([(7,.I)],[[],[(2,.I)]]) else ([],[])),scalar:=true }
theorem SB (a0:IV):run ab afL C0 NH Tryz.f247 [[a0]]=tH a0:=by kernel_rfl
abbrev X4:FSig:=⟨.pure,true,[1],0,λl=>match l with | [[a]]=>tH a | _=>none⟩
def aeO:ad->Option FSig:=aG Xo X4 afL
def oU:Ann:={ order:=(λr=>if r=9 then some ([0],[1,2,3,4,5,6],[7,8,9]) else none),join:=(λr=>if r=4 then some [26] else none),loop:=(λr=>if r=8 then ([(7,(.B 1)),(8,.I)],[[(7,(.B 1))]]) else ([],[])) }
theorem wb (a0 a:IV):run ab aeO C0 oU Tryz.f248 [[a0],[a]]=dv a0 a:=by kernel_rfl
abbrev xx:FSig:=⟨.pure,false,[1],0,λl=>match l with | [[a],[b]]=>dv a b | _=>none⟩
def afh:ad->Option FSig:=aG yB xx aeO
def Dk:Ann:={ join:=(λr=>if r=1 then some [15] else none),loop:=(λr=>if r=5 then ([(6,(.B 1)),(18,.I)],[[(6,(.B 1))],[(4,.I),(5,.I)]]) else ([],[])) }
theorem Kq (a0 a:IV):run ab afh C0 Dk Tryz.f225 [[a0],[a]]=nC a0 a:=by kernel_rfl
abbrev PQ:FSig:=⟨.pure,false,[1,1],0,λl=>match l with | [[a],[b]]=>nC a b | _=>none⟩
def aeS:ad->Option FSig:=aG Pg PQ afh
def CX:Ann:={ join:=(λr=>if r=14 then some [59] else none),loop:=(λr=>if r=8 then ([(6,(.O [.imm,.imm])),(7,(.B 2)),(8,.I)],[[(7,(.B 2)),(8,.I)],[(4,.I),(5,.I)]]) else ([],[])) }
theorem Kk (a0 a:IV):run ab aeS C0 CX Tryz.f168 [[a0],[a]]=kE a0 a:=by kernel_rfl
abbrev O2:FSig:=⟨.pure,false,[1,1],0,λl=>match l with | [[a],[b]]=>kE a b | _=>none⟩
def aeC:ad->Option FSig:=aG Pm O2 aeS
def L4:Ann:={ join:=(λr=>if r=5 then some [26] else if r=15 then some [4] else none),loop:=(λr=>if r=3 then ([(5,.I),(13,.I)],[[(5,.I)],[(4,.I)]]) else if r=11 then ([(8,.M),(35,.I)],[[(8,.M)]]) else ([],[])),scalar:=true }
theorem RB (a0 a:IV):run ab aeC C0 L4 Tryz.f226 [[a0],[a]]=tJ a0 a:=by kernel_rfl
abbrev Yn:FSig:=⟨.pure,true,[1],0,λl=>match l with | [[a],[b]]=>tJ a b | _=>none⟩
def ae9:ad->Option FSig:=aG Yk Yn aeC
def IX:Ann:={ order:=(λr=>if r=5 then some ([],[0,1,2,3,4,5,6,7,8,9,10,11,12,13],[14,15,16]) else none),loop:=(λr=>if r=3 then ([(6,(.B 1)),(14,.I)],[[(6,(.B 1))],[(4,.I),(5,.I)]]) else ([],[])) }
theorem PX (a0 a:IV):run ab ae9 C0 IX Tryz.f227 [[a0],[a]]=rM a0 a:=by kernel_rfl
abbrev W5:FSig:=⟨.pure,false,[1,1],0,λl=>match l with | [[a],[b]]=>rM a b | _=>none⟩
def afH:ad->Option FSig:=aG Wv W5 ae9
def CO:Ann:={ loop:=(λr=>if r=15 then ([(11,(.B 1)),(12,.I),(47,.I)],[[(11,(.B 1)),(12,.I)],[(6,.I),(7,.I)]]) else ([],[])) }
theorem JW (a0 a b:IV):run ab afH C0 CO Tryz.f170 [[a0],[a],[b]]=bV a0 a b:=by kernel_rfl
abbrev N8:FSig:=⟨.pure,false,[1,1],0,λl=>match l with | [[a],[b],[c]]=>bV a b c | _=>none⟩
def ae0:ad->Option FSig:=aG Ot N8 afH
theorem SC (a0:IV):run ab ae0 C0 A1 Tryz.f246 [[a0]]=qD a0:=by kernel_rfl
abbrev XJ:FSig:=⟨.pure,true,[1],0,λl=>match l with | [[a]]=>qD a | _=>none⟩
def aeb:ad->Option FSig:=aG XY XJ ae0
theorem CF (a0 a:IV):runM ab aeb C0 A0 [.imm,.imm] Tryz.f223 [a0,a] []=gW a0 a:=by kernel_rfl
theorem wM:run ab aeb C0 A0 Tryz.f223 [[.nilp]]=sF:=by kernel_rfl
abbrev ED:FSig:=⟨.obj [.imm,.imm],false,[1],0,λl=>match l with | [[a,b]]=>gW a b | [[a]]=>Dm a (sF) | _=>none⟩
def afB:ad->Option FSig:=aG vh ED aeb
def FY:Ann:={ loop:=(λr=>if r=4 then ([(3,(.B 1)),(4,.I),(9,.I)],[[(3,(.B 1))]]) else ([],[])) }
theorem Mk (a0:IV):run ab afB C0 FY Tryz.f224 [[a0]]=pb a0:=by kernel_rfl
abbrev Rh:FSig:=⟨.pure,false,[1],0,λl=>match l with | [[a]]=>pb a | _=>none⟩
def aet:ad->Option FSig:=aG RU Rh afB
def Ab:Ann:={ loop:=(λr=>if r=8 then ([(6,(.O [.imm,.imm])),(7,(.B 1)),(20,.I)],[[(6,(.O [.imm,.imm])),(7,(.B 1))]]) else ([],[])) }
theorem GZ (a0 a:IV):run ab aet C0 Ab Tryz.f166 [[a0],[a]]=bp a0 a:=by kernel_rfl
abbrev Li:FSig:=⟨.pure,false,[1,1],0,λl=>match l with | [[a],[b]]=>bp a b | _=>none⟩
def R2:ad->Option FSig:=aG Ng Li aet
def aO:Inl:=mD ab R2 C0 A0 Tryz.f212
def gQ:ad->Option FSig:=aG cU ⟨.inl aO,false,[],0,λ_=>none⟩ <| R2
def bj:Inl:=mD ab gQ C0 A0 Tryz.f213
def gb:ad->Option FSig:=aG cU ⟨.inl aO,false,[],0,λ_=>none⟩ <| aG cK ⟨.inl bj,false,[],0,λ_=>none⟩ <| R2
def bz:Inl:=mD ab gb C0 A0 Tryz.f215
def fx:ad->Option FSig:=aG cU ⟨.inl aO,false,[],0,λ_=>none⟩ <| aG cK ⟨.inl bj,false,[],0,λ_=>none⟩ <| aG eA ⟨.inl bz,false,[],0,λ_=>none⟩ <| R2
def bZ:Inl:=mD ab fx C0 A0 Tryz.f214
def fX:ad->Option FSig:=aG cU ⟨.inl aO,false,[],0,λ_=>none⟩ <| aG cK ⟨.inl bj,false,[],0,λ_=>none⟩ <| aG eA ⟨.inl bz,false,[],0,λ_=>none⟩ <| aG gk ⟨.inl bZ,false,[],0,λ_=>none⟩ <| R2
def dj:Inl:=mD ab fX C0 A0 Tryz.f217
def fj:ad->Option FSig:=aG cU ⟨.inl aO,false,[],0,λ_=>none⟩ <| aG cK ⟨.inl bj,false,[],0,λ_=>none⟩ <| aG eA ⟨.inl bz,false,[],0,λ_=>none⟩ <| aG gk ⟨.inl bZ,false,[],0,λ_=>none⟩ <| aG kS ⟨.inl dj,false,[],0,λ_=>none⟩ <| R2
def fD:Inl:=mD ab fj C0 A0 Tryz.f216
def wA:ad->Option FSig:=aG cU ⟨.inl aO,false,[],0,λ_=>none⟩ <| aG cK ⟨.inl bj,false,[],0,λ_=>none⟩ <| aG eA ⟨.inl bz,false,[],0,λ_=>none⟩ <| aG gk ⟨.inl bZ,false,[],0,λ_=>none⟩ <| aG kS ⟨.inl dj,false,[],0,λ_=>none⟩ <| aG mW ⟨.inl fD,false,[],0,λ_=>none⟩ <| R2
def ze:Ann:={ order:=(λr=>if r=3 then some ([3,4],[0,1],[2,5,6,7]) else if r=7 then some ([],[0,1,2,3,4,5],[]) else if r=12 then some ([],[0,1,2,3,4,5,6,7,8,9,10,11,12,13,14,15,16,17],[18]) else none),loop:=(λr=>if r=10 then ([(10,(.B 4)),(41,.I)],[[(10,.I)],[(2,.I),(3,.I)]]) else ([],[])) }
theorem Gd (a0:IV):run ab wA C0 ze Tryz.f159 [[a0]]=kj a0:=by kernel_rfl
abbrev JX:FSig:=⟨.pure,false,[1,1],0,λl=>match l with | [[a]]=>kj a | _=>none⟩
def ZH:ad->Option FSig:=aG Ji JX R2
def bW:Inl:=mD ab ZH C0 A0 Tryz.f219
def gx:ad->Option FSig:=aG gm ⟨.inl bW,false,[],0,λ_=>none⟩ <| ZH
def dr:Inl:=mD ab gx C0 A0 Tryz.f213
def gy:ad->Option FSig:=aG gm ⟨.inl bW,false,[],0,λ_=>none⟩ <| aG cK ⟨.inl dr,false,[],0,λ_=>none⟩ <| ZH
def gM:Inl:=mD ab gy C0 A0 Tryz.f220
def vA:ad->Option FSig:=aG gm ⟨.inl bW,false,[],0,λ_=>none⟩ <| aG cK ⟨.inl dr,false,[],0,λ_=>none⟩ <| aG sd ⟨.inl gM,false,[],0,λ_=>none⟩ <| ZH
def xb:Ann:={ order:=(λr=>if r=3 then some ([3,4],[0,1],[2,5,6,7]) else if r=5 then some ([],[0,1,2,3,4,5],[]) else if r=10 then some ([],[0,1,2,3,4,5,6,7,8,9,10],[11,12]) else none),loop:=(λr=>if r=8 then ([(8,(.B 2)),(32,.I)],[[(8,.I)]]) else ([],[])) }
theorem DD (a0:IV):run ab vA C0 xb Tryz.f160 [[a0]]=je a0:=by kernel_rfl
abbrev GP:FSig:=⟨.pure,false,[1,1],0,λl=>match l with | [[a]]=>je a | _=>none⟩
def afY:ad->Option FSig:=aG Gw GP ZH
def C8:Ann:={ join:=(λr=>if r=1 then some [33] else if r=7 then some [51] else none) }
theorem Jg (a0:IV):run ab afY C0 C8 Tryz.f94 [[a0]]=nu a0:=by kernel_rfl
abbrev ON:FSig:=⟨.pure,false,[5,1],0,λl=>match l with | [[a]]=>nu a | _=>none⟩
def afx:ad->Option FSig:=aG PH ON afY
theorem Km (a0:IV):run ab afx C0 A1 Tryz.f163 [[a0]]=m5 a0:=by kernel_rfl
abbrev Pu:FSig:=⟨.pure,true,[1],0,λl=>match l with | [[a]]=>m5 a | _=>none⟩
def aeL:ad->Option FSig:=aG Oo Pu afx
theorem Jt (a0 a:IV):run ab aeL C0 A0 Tryz.f165 [[a0],[a]]=ku a0 a:=by kernel_rfl
abbrev PK:FSig:=⟨.pure,false,[1],0,λl=>match l with | [[a],[b]]=>ku a b | _=>none⟩
def afQ:ad->Option FSig:=aG Pr PK aeL
theorem JK (a0 a:IV):run ab afQ C0 A0 Tryz.f167 [[a0],[a]]=qV a0 a:=by kernel_rfl
abbrev Ou:FSig:=⟨.pure,false,[1],0,λl=>match l with | [[a],[b]]=>qV a b | _=>none⟩
def ae3:ad->Option FSig:=aG P0 Ou afQ
theorem J7 (a0 a:IV):run ab ae3 C0 A0 Tryz.f169 [[a0],[a]]=qJ a0 a:=by kernel_rfl
abbrev Pz:FSig:=⟨.pure,false,[1],0,λl=>match l with | [[a],[b]]=>qJ a b | _=>none⟩
def aa3:ad->Option FSig:=aG OX Pz ae3
def iJ:Ann:={ order:=(λr=>if r=10 then some ([],[0,1,2,3,4,5,6,7,8,9,10,11,12,13,14,15,16,17,18,19,20,21,22,23,24,25,26,27],[28]) else none),loop:=(λr=>if r=8 then ([(1,(.K 1 [.buf 6])),(77,.I)],[[(1,(.K 1 [.buf 6]))]]) else ([],[])) }
def dG:Inl:=mD ab aa3 C0 iJ Tryz.f162
def js:ad->Option FSig:=aG mz ⟨.inl dG,false,[],0,λ_=>none⟩ <| aa3
def jU:Inl:=UG ab js C0 A0 mm Tryz.f161
def y0:ad->Option FSig:=aG mz ⟨.inl dG,false,[],0,λ_=>none⟩ <| aG np ⟨.inl jU,false,[],0,λ_=>none⟩ <| aa3
def Bc:Ann:={ loop:=(λr=>if r=4 then ([(13,.I)],[[],[(2,.I),(3,.I)]]) else ([],[])) }
theorem Hf (a0:IV):run ab y0 C0 Bc Tryz.f96 [[a0]]=mf a0:=by kernel_rfl
abbrev MW:FSig:=⟨.pure,false,[1,1],0,λl=>match l with | [[a]]=>mf a | _=>none⟩
def Sl:ad->Option FSig:=aG Nm MW aa3
def jX:Ann:={ join:=(λr=>if r=2 then some [19] else none) }
def bc:Inl:=mD ab Sl C0 jX Tryz.f90
def jv:ad->Option FSig:=aG dC ⟨.inl bc,false,[],0,λ_=>none⟩ <| Sl
def kg:Ann:={ join:=(λr=>if r=2 then some [23] else none) }
def bE:Inl:=mD ab jv C0 kg Tryz.f91
def jy:ad->Option FSig:=aG dC ⟨.inl bc,false,[],0,λ_=>none⟩ <| aG eH ⟨.inl bE,false,[],0,λ_=>none⟩ <| Sl
def cf:Inl:=mD ab jy C0 A0 Tryz.f93
def jw:ad->Option FSig:=aG dC ⟨.inl bc,false,[],0,λ_=>none⟩ <| aG eH ⟨.inl bE,false,[],0,λ_=>none⟩ <| aG gF ⟨.inl cf,false,[],0,λ_=>none⟩ <| Sl
def cY:Inl:=mD ab jw C0 A0 Tryz.f95
def jt:ad->Option FSig:=aG dC ⟨.inl bc,false,[],0,λ_=>none⟩ <| aG eH ⟨.inl bE,false,[],0,λ_=>none⟩ <| aG gF ⟨.inl cf,false,[],0,λ_=>none⟩ <| aG jV ⟨.inl cY,false,[],0,λ_=>none⟩ <| Sl
def eJ:Inl:=mD ab jt C0 A0 Tryz.f97
def kO:ad->Option FSig:=aG dC ⟨.inl bc,false,[],0,λ_=>none⟩ <| aG eH ⟨.inl bE,false,[],0,λ_=>none⟩ <| aG gF ⟨.inl cf,false,[],0,λ_=>none⟩ <| aG jV ⟨.inl cY,false,[],0,λ_=>none⟩ <| aG nY ⟨.inl eJ,false,[],0,λ_=>none⟩ <| Sl
def lA:Inl:=mD ab kO C0 A0 Tryz.f49
def Dh:ad->Option FSig:=aG dC ⟨.inl bc,false,[],0,λ_=>none⟩ <| aG eH ⟨.inl bE,false,[],0,λ_=>none⟩ <| aG gF ⟨.inl cf,false,[],0,λ_=>none⟩ <| aG jV ⟨.inl cY,false,[],0,λ_=>none⟩ <| aG nY ⟨.inl eJ,false,[],0,λ_=>none⟩ <| aG vV ⟨.inl lA,false,[],0,λ_=>none⟩ <| Sl
def FZ:Ann:={ unroll:=(λr=>if r=4 then 6 else 0) }
theorem KN (a0:IV):run ab Dh C0 FZ Tryz.f22 [[a0]]=jI a0:=by kernel_rfl
abbrev Tf:FSig:=⟨.pure,false,[5,1],0,λl=>match l with | [[a]]=>jI a | _=>none⟩
def adO:ad->Option FSig:=aG TG Tf Sl
theorem zi (a0 f g a3 a4 h i j k a9 a b c d e:IV):runM ab adO C0 A0 [.buf 5,.buf 6] Tryz.f45 [a0,f] [[g,a3,a4,h,i],[j,k,a9,a,b,c,d,e]]=iV a0 f g a3 a4 h i j k a9 a b c d e:=by kernel_rfl
theorem uL (a0 d e a3 a4 f g h i a9 a b c:IV):run ab adO C0 A0 Tryz.f45 [[.nilp],[a0,d,e,a3,a4],[f,g,h,i,a9,a,b,c]]=kH a0 d e a3 a4 f g h i a9 a b c:=by kernel_rfl
abbrev CD:FSig:=⟨.obj [.buf 5,.buf 6],false,[5,1],0,λl=>match l with | [[f,p],[g,h,i,j,k],[m,n,o,a,b,c,d,e]]=>iV f p g h i j k m n o a b c d e | [[f],[g,h,i,j,k],[m,n,o,a,b,c,d,e]]=>Dm f (kH g h i j k m n o a b c d e) | _=>none⟩
def afA:ad->Option FSig:=aG sA CD adO
def CU:Ann:={ join:=(λr=>if r=1 then some [4] else none),scalar:=true }
theorem JU (a0 a b a3 a4 c d:IV):run ab afA C0 CU Tryz.f88 [[a0],[a,b,a3,a4,c,d]]=m6 a0 a b a3 a4 c d:=by kernel_rfl
abbrev P5:FSig:=⟨.pure,true,[1],0,λl=>match l with | [[a],[b,c,d,e,f,g]]=>m6 a b c d e f g | _=>none⟩
def afK:ad->Option FSig:=aG Qa P5 afA
theorem V5 (a0 a b a3 a4 c d:IV):run ab afK C0 A0 Tryz.f48 [[a0],[a,b,a3,a4,c,d]]=wv a0 a b a3 a4 c d:=by kernel_rfl
abbrev ZJ:FSig:=⟨.pure,false,[1,1],0,λl=>match l with | [[a],[b,c,d,e,f,g]]=>wv a b c d e f g | _=>none⟩
def afZ:ad->Option FSig:=aG aaD ZJ afK
def Nk:Ann:={ loop:=(λr=>if r=2 then ([(0,.I),(9,.I)],[[(0,.I)]]) else ([],[])) }
theorem Tl (a0 a:IV):run ab afZ C0 Nk Tryz.f16 [[a0],[a]]=qv a0 a:=by kernel_rfl
abbrev XL:FSig:=⟨.pure,false,[1],0,λl=>match l with | [[a],[b]]=>qv a b | _=>none⟩
def afF:ad->Option FSig:=aG XW XL afZ
def Dq:Ann:={ order:=(λr=>if r=6 then some ([],[0,1,2,3,4,5,6,7,8,9,10,11,12],[13]) else if r=7 then some ([1],[0,2],[3,4,5]) else none),join:=(λr=>if r=1 then some [7] else none) }
theorem JR (a0 a b a3 a4 c d:IV):run ab afF C0 Dq Tryz.f82 [[a0,a,b,a3,a4],[c,d]]=kB a0 a b a3 a4 c d:=by kernel_rfl
abbrev OO:FSig:=⟨.pure,false,[5,1],0,λl=>match l with | [[a,b,c,d,e],[f,g]]=>kB a b c d e f g | _=>none⟩
def aea:ad->Option FSig:=aG OQ OO afF
theorem Bz (a0 f g a3 a4 h i j k a9 a b c d e:IV):runM ab aea C0 A0 [.buf 5,.buf 6] Tryz.f44 [a0,f] [[g,a3,a4,h,i],[j,k,a9,a,b,c,d,e]]=fS a0 f g a3 a4 h i j k a9 a b c d e:=by kernel_rfl
theorem wm (a0 d e a3 a4 f g h i a9 a b c:IV):run ab aea C0 A0 Tryz.f44 [[.nilp],[a0,d,e,a3,a4],[f,g,h,i,a9,a,b,c]]=lk a0 d e a3 a4 f g h i a9 a b c:=by kernel_rfl
abbrev DT:FSig:=⟨.obj [.buf 5,.buf 6],false,[5,1],0,λl=>match l with | [[f,p],[g,h,i,j,k],[m,n,o,a,b,c,d,e]]=>fS f p g h i j k m n o a b c d e | [[f],[g,h,i,j,k],[m,n,o,a,b,c,d,e]]=>Dm f (lk g h i j k m n o a b c d e) | _=>none⟩
def adL:ad->Option FSig:=aG tq DT aea
def EL:Ann:={ loop:=(λr=>if r=2 then ([(11,.I)],[[],[(6,.I)]]) else ([],[])),scalar:=true }
theorem Lm (C:IV->List Nat->List (List IV)->Option (List IV)) (a0 a b a3:IV):run ab adL C EL Tryz.f83 [[a0],[a,b],[a3]]=jJ C a0 a b a3:=by kernel_rfl
theorem vd (a0 a b a3 a4 c d e:IV):run ab adL C0 A1 Tryz.f84 [[a0,a],[b,a3,a4,c,d,e]]=kf a0 a b a3 a4 c d e:=by kernel_rfl
abbrev Ju:FSig:=⟨.pure,true,[1],0,λl=>match l with | [[a,b],[c,d,e,f,g,h]]=>kf a b c d e f g h | _=>none⟩
def afo:ad->Option FSig:=aG nP Ju adL
def zc:ad->Option FSig:=aG xD ⟨.pure,true,[1],0,λl=>match l with | [[a],[b,c],[d]]=>jJ (gD) a b c d | _=>none⟩ <| afo
def zU:Ann:={ order:=(λr=>if r=6 then some ([6],[0,1,2,3,4],[5,7,8,9]) else none) }
theorem H5 (a0 a b a3 a4 c d:IV):run ab zc (gD) zU Tryz.f46 [[a0],[a,b,a3,a4,c,d]]=lH a0 a b a3 a4 c d:=by kernel_rfl
abbrev Nq:FSig:=⟨.pure,false,[1,1,1],0,λl=>match l with | [[a],[b,c,d,e,f,g]]=>lH a b c d e f g | _=>none⟩
def af2:ad->Option FSig:=aG M1 Nq afo
def IU:Ann:={ join:=(λr=>if r=1 then some [11] else if r=9 then some [57] else none) }
theorem N5 (a0 b c a3 a4 d e f g a9 a:IV):run ab af2 C0 IU Tryz.f25 [[a0,b,c,a3,a4],[d,e,f,g,a9,a]]=gU a0 b c a3 a4 d e f g a9 a:=by kernel_rfl
abbrev WG:FSig:=⟨.pure,false,[5,1,1],0,λl=>match l with | [[b,c,d,e,f],[g,h,i,j,k,a]]=>gU b c d e f g h i j k a | _=>none⟩
def adV:ad->Option FSig:=aG UA WG af2
def ml:Ann:={ order:=(λr=>if r=1 then some ([],[0,1,2,3,4,5,6,7,8,9,10,11,12],[]) else if r=3 then some ([12,13],[0,1,2,3,4,5,6,7,8,9,10,11],[14,15,16]) else none),join:=(λr=>if r=1 then some [22] else none) }
theorem yJ (a0 f g a3 a4 h i j k a9 a b c d e:IV):runM ab adV C0 ml [.buf 5,.buf 6] Tryz.f43 [a0,f] [[g,a3,a4,h,i],[j,k,a9,a,b,c,d,e]]=de a0 f g a3 a4 h i j k a9 a b c d e:=by kernel_rfl
theorem tF (a0 d e a3 a4 f g h i a9 a b c:IV):run ab adV C0 ml Tryz.f43 [[.nilp],[a0,d,e,a3,a4],[f,g,h,i,a9,a,b,c]]=jR a0 d e a3 a4 f g h i a9 a b c:=by kernel_rfl
abbrev Ao:FSig:=⟨.obj [.buf 5,.buf 6],false,[5,1],0,λl=>match l with | [[f,p],[g,h,i,j,k],[m,n,o,a,b,c,d,e]]=>de f p g h i j k m n o a b c d e | [[f],[g,h,i,j,k],[m,n,o,a,b,c,d,e]]=>Dm f (jR g h i j k m n o a b c d e) | _=>none⟩
def aeG:ad->Option FSig:=aG rH Ao adV
def Gp:Ann:={ join:=(λr=>if r=8 then some [38] else none),loop:=(λr=>if r=3 then ([(8,(.B 1)),(17,.I)],[[(8,(.B 1))]]) else ([],[])),scalar:=true }
theorem Ny (a0 a b a3:IV):run ab aeG C0 Gp Tryz.f81 [[a0],[a,b],[a3]]=pJ a0 a b a3:=by kernel_rfl
abbrev SM:FSig:=⟨.pure,true,[2,1],0,λl=>match l with | [[a],[b,c],[d]]=>pJ a b c d | _=>none⟩
def afC:ad->Option FSig:=aG RT SM aeG
def tQ:Ann:={ order:=(λr=>if r=7 then some ([0],[1,2,3,4,5,6],[7,8,9,10]) else none) }
theorem Bi (a0 f g a3 a4 h i j k a9 a b c d e:IV):runM ab afC C0 tQ [.buf 5,.buf 6] Tryz.f42 [a0,f] [[g,a3,a4,h,i],[j,k,a9,a,b,c,d,e]]=dR a0 f g a3 a4 h i j k a9 a b c d e:=by kernel_rfl
abbrev Ea:FSig:=⟨.obj [.buf 5,.buf 6],false,[5,1],0,λl=>match l with | [[f,g],[h,i,j,k,m],[n,o,p,a,b,c,d,e]]=>dR f g h i j k m n o p a b c d e | _=>none⟩
def adi:ad->Option FSig:=aG uo Ea afC
def oX:Ann:={ order:=(λr=>if r=10 then some ([],[0,1,2,3,4,5,6,7,8],[9]) else none),unroll:=(λr=>if r=5 then 5 else 0) }
theorem CC (a0 a b a3 a4 c d e f a9:IV):runM ab adi C0 oX [.buf 5,.buf 6] Tryz.f12 [a0,a] [[b,a3,a4,c,d,e,f,a9]]=aL a0 a b a3 a4 c d e f a9:=by kernel_rfl
theorem wG (a0 a b a3 a4 c d e:IV):run ab adi C0 oX Tryz.f12 [[.nilp],[a0,a,b,a3,a4,c,d,e]]=fg a0 a b a3 a4 c d e:=by kernel_rfl
abbrev FX:FSig:=⟨.obj [.buf 5,.buf 6],false,[1],0,λl=>match l with | [[a,j],[b,c,d,e,f,g,h,i]]=>aL a j b c d e f g h i | [[a],[b,c,d,e,f,g,h,i]]=>Dm a (fg b c d e f g h i) | _=>none⟩
def aeE:ad->Option FSig:=aG vq FX adi
theorem Nv (a0 a b a3 a4:IV):run ab aeE C0 A0 Tryz.f24 [[a0,a,b,a3,a4]]=fk a0 a b a3 a4:=by kernel_rfl
abbrev R4:FSig:=⟨.pure,false,[1],0,λl=>match l with | [[a,b,c,d,e]]=>fk a b c d e | _=>none⟩
def ade:ad->Option FSig:=aG Tt R4 aeE
theorem Cg (a0 a b:IV):runM ab ade C0 A0 [.buf 5,.buf 6] Tryz.f15 [a0,a] [[b]]=eu a0 a b:=by kernel_rfl
theorem xh (a0:IV):run ab ade C0 A0 Tryz.f15 [[.nilp],[a0]]=mY a0:=by kernel_rfl
abbrev Ff:FSig:=⟨.obj [.buf 5,.buf 6],false,[1],0,λl=>match l with | [[a,c],[b]]=>eu a c b | [[a],[b]]=>Dm a (mY b) | _=>none⟩
def afi:ad->Option FSig:=aG vn Ff ade
def FE:Ann:={ order:=(λr=>if r=6 then some ([],[0,1,2,3,4,5,6,7,8],[]) else none),loop:=(λr=>if r=4 then ([(5,.I)],[[],[(4,.I)]]) else ([],[])),scalar:=true }
def ym (a0 a:IV):Option (List IV):=run ab afi C0 FE Tryz.f40 [[a0],[a]]
abbrev Td:FSig:=⟨.pure,true,[1],0,λl=>match l with | [[a],[b]]=>ym a b | _=>none⟩
def aaP:ad->Option FSig:=aG Sz Td afi
def rb (v4:List IV):Option SR:=
 (aa .lss (nth v4 1) (.int .i64 (4:Nat))).bind λb=>
 ae b (λ_=>
 (cA 4 (nth v4 1)).bind λv6=>
 (dN (.lst [[.int .i64 1,.int .i64 1,.int .i64 0,.int .i64 0,.int .i64 0,.int .i64 1,(.str ⟨#[97]⟩),.flt .f64 0],[.int .i64 2,.int .i64 2,.int .i64 0,.int .i64 0,.int .i64 0,.int .i64 0,(.str ⟨#[]⟩),.flt .f64 0],[.int .i64 4,.int .i64 2,.int .i64 0,.int .i64 0,.int .i64 0,.int .i64 0,(.str ⟨#[]⟩),.flt .f64 0],[.int .i64 1,.int .i64 2,.int .i64 0,.int .i64 0,.int .i64 1,.int .i64 2,(.str ⟨#[]⟩),.flt .f64 0]]) v6 0 8).bind λa=>
 (fg (nth a 0) (nth a 1) (nth a 2) (nth a 3) (nth a 4) (nth a 5) (nth a 6) (nth a 7)).bind λc=>
 (bU 1 8 (nth v4 0) (.lst [[nth c 0]])).bind λv9=>
 (aa .add (nth v4 1) (.int .i64 1)).bind λv10=>
 some (.next [v9,v10])) (λ_=>
 some (.done 0 [nth v4 0]))
def wy (a:List IV):Option SR:=
 (aa .lss (nth a 3) (.int .i64 (4:Nat))).bind λv22=>
 ae v22 (λ_=>
 (cA 4 (nth a 3)).bind λv23=>
 (dN (.lst [[.int .i64 1,.int .i64 1,.int .i64 0,.int .i64 0,.int .i64 0,.int .i64 1,(.str ⟨#[97]⟩),.flt .f64 0],[.int .i64 2,.int .i64 2,.int .i64 0,.int .i64 0,.int .i64 0,.int .i64 0,(.str ⟨#[]⟩),.flt .f64 0],[.int .i64 4,.int .i64 2,.int .i64 0,.int .i64 0,.int .i64 0,.int .i64 0,(.str ⟨#[]⟩),.flt .f64 0],[.int .i64 1,.int .i64 2,.int .i64 0,.int .i64 0,.int .i64 1,.int .i64 2,(.str ⟨#[]⟩),.flt .f64 0]]) v23 0 8).bind λv24=>
 (aL (nth a 0) (nth a 1) (nth v24 0) (nth v24 1) (nth v24 2) (nth v24 3) (nth v24 4) (nth v24 5) (nth v24 6) (nth v24 7)).bind λb=>
 (bU 1 8 (nth a 2) (.lst [[(nth (b.drop 2) 0)]])).bind λv26=>
 (aa .add (nth a 3) (.int .i64 1)).bind λv27=>
 some (.next [nth b 0,nth b 1,v26,v27])) (λ_=>
 some (.done 0 [nth a 0,nth a 1,nth a 2]))
def lQ:Option (List IV):=
 ((aa .lss (.int .i64 2) (.int .i64 1)).bind λv1=>
 ae v1 (λ_=>
 some [.bool true]) (λ_=>
 (aa .gtr (.int .i64 2) (.int .i64 8)).bind λv2=>
 some [v2])).bind λv3=>
 ae (nth v3 0) (λ_=>
 (iter rounds (rb) [.lst [],.int .i64 0]).bind λv11=>
 dY v11.1 [(some [.bool true]).bind λc=>
 ae (nth c 0) (λ_=>
 av [.bool false]) (λ_=>
 (mY (.int .i64 2)).bind λd=>
 (AQ (nth d 0) (.int .i64 2)).bind λa=>
 ((cA (cn (nth v11.2 0)) (.int .i64 3)).bind λe=>
 (dU (nth v11.2 0) e 0).bind λf=>
 (aa .eql f (.int .i64 0)).bind λg=>
 ae g (λ_=>
 ae (nth a 1) (λ_=>
 (ym (nth a 0) (.lst [[.int .i64 2],[.int .i64 1],[.int .i64 0]])).bind λh=>
 some [nth h 0]) (λ_=>
 some [.bool false])) (λ_=>
 some [.bool false])).bind λi=>
 av [nth i 0])]) (λ_=>
 (kM 88 [.lst [],.int .i64 0,.int .i64 0,.lst [],.lst []] (.int .i64 2) (.int .i64 2)).bind λv20=>
 (iter rounds (wy) [v20,.lst [],.lst [],.int .i64 0]).bind λv28=>
 dY v28.1 [((aa .neq (.int .i64 ((cn (nth v28.2 2)):Nat)) (.int .i64 4)).bind λj=>
 some [j]).bind λv30=>
 ae (nth v30 0) (λ_=>
 av [.bool false]) (λ_=>
 (eu (nth v28.2 0) (nth v28.2 1) (.int .i64 2)).bind λk=>
 (AQ (nth (k.drop 2) 0) (.int .i64 2)).bind λb=>
 ((cA (cn (nth v28.2 2)) (.int .i64 3)).bind λv33=>
 (dU (nth v28.2 2) v33 0).bind λl=>
 (aa .eql l (.int .i64 0)).bind λm=>
 ae m (λ_=>
 ae (nth b 1) (λ_=>
 (ym (nth b 0) (.lst [[.int .i64 2],[.int .i64 1],[.int .i64 0]])).bind λn=>
 some [nth n 0]) (λ_=>
 some [.bool false])) (λ_=>
 some [.bool false])).bind λo=>
 av [nth o 0])])
def pH:Ann:={ join:=(λr=>if r=1 then some [8] else none) }
def jK:Inl:=mD ab aaP C0 pH Tryz.f10
def ox:ad->Option FSig:=aG lI ⟨.inl jK,false,[],0,λ_=>none⟩ <| aaP
def pF:Ann:={ loop:=(λr=>if r=4 then ([(6,(.O [.buf 5,.buf 6])),(7,(.B 1)),(14,.I)],[[(6,(.O [.buf 5,.buf 6])),(7,(.B 1))]]) else ([],[])),alt:=(λr=>if r=4 then some (6,[(7,(.B 1)),(14,.I)],[[(7,(.B 1))]]) else none) }
def oW:Inl:=mD ab ox C0 pF Tryz.f27
def E3:ad->Option FSig:=aG lI ⟨.inl jK,false,[],0,λ_=>none⟩ <| aG qw ⟨.inl oW,false,[],0,λ_=>none⟩ <| aaP
def I3:Ann:={ join:=(λr=>if r=2 then some [20] else if r=5 then some [0] else none),scalar:=true }
theorem O4:run ab E3 C0 I3 Tryz.f9 []=lQ:=by kernel_rfl
abbrev Vi:FSig:=⟨.pure,true,[1],0,λl=>match l with | []=>lQ | _=>none⟩
def afN:ad->Option FSig:=aG Ul Vi aaP
theorem Lq:run ab afN C0 A1 Tryz.f205 []=yv:=by kernel_rfl
abbrev Su:FSig:=⟨.pure,true,[1],0,λl=>match l with | []=>yv | _=>none⟩
def afX:ad->Option FSig:=aG Tv Su afN
def Dl:Ann:={ join:=(λr=>if r=1 then some [2] else none),scalar:=true }
theorem Jz (a0:IV):run ab afX C0 Dl Tryz.f206 [[a0]]=ik a0:=by kernel_rfl
abbrev Om:FSig:=⟨.pure,true,[1],0,λl=>match l with | [[a]]=>ik a | _=>none⟩
def afj:ad->Option FSig:=aG Ph Om afX
theorem NZ:run ab afj C0 A1 Tryz.f207 []=vp:=by kernel_rfl
abbrev Vj:FSig:=⟨.pure,true,[1],0,λl=>match l with | []=>vp | _=>none⟩
def aeI:ad->Option FSig:=aG Vm Vj afj
def Fq:Ann:={ join:=(λr=>if r=15 then some [35] else none),loop:=(λr=>if r=12 then ([(0,.I),(4,.I)],[[(0,.I),(4,.I)]]) else if r=15 then ([(0,.I),(4,.I)],[[(0,.I),(4,.I)]]) else if r=22 then ([(0,.I),(5,.I)],[[(0,.I)]]) else ([],[])),scalar:=true }
theorem Mf (a0:IV):run ab aeI C0 Fq Tryz.f152 [[a0]]=gL a0:=by kernel_rfl
abbrev Rl:FSig:=⟨.pure,true,[1],0,λl=>match l with | [[a]]=>gL a | _=>none⟩
def afJ:ad->Option FSig:=aG Rq Rl aeI
theorem Na (a0 a:IV):run ab afJ C0 A1 Tryz.f87 [[a0],[a]]=pC a0 a:=by kernel_rfl
abbrev Si:FSig:=⟨.pure,true,[1],0,λl=>match l with | [[a],[b]]=>pC a b | _=>none⟩
def aev:ad->Option FSig:=aG S0 Si afJ
def CJ:Ann:={ join:=(λr=>if r=1 then some [4] else none),scalar:=true }
theorem Jl (a0 a b a3 a4 c d e:IV):run ab aev C0 CJ Tryz.f47 [[a0,a,b,a3],[a4,c,d,e]]=ig a0 a b a3 a4 c d e:=by kernel_rfl
abbrev Ow:FSig:=⟨.pure,true,[1],0,λl=>match l with | [[a,b,c,d],[e,f,g,h]]=>ig a b c d e f g h | _=>none⟩
def afb:ad->Option FSig:=aG OE Ow aev
def F8:Ann:={ order:=(λr=>if r=6 then some ([],[0,1,2,3,4,5,6,7,8,9],[]) else none),loop:=(λr=>if r=4 then ([(5,.I)],[[],[(4,.I)]]) else ([],[])),scalar:=true }
theorem MR (a0 a:IV):run ab afb C0 F8 Tryz.f14 [[a0],[a]]=jN a0 a:=by kernel_rfl
abbrev RL:FSig:=⟨.pure,true,[1],0,λl=>match l with | [[a],[b]]=>jN a b | _=>none⟩
def aff:ad->Option FSig:=aG SV RL afb
def H8:Ann:={ loop:=(λr=>if r=4 then ([(5,.I)],[[],[(4,.I)]]) else ([],[])),scalar:=true }
theorem PE (a0 a:IV):run ab aff C0 H8 Tryz.f17 [[a0],[a]]=ot a0 a:=by kernel_rfl
abbrev WN:FSig:=⟨.pure,true,[1],0,λl=>match l with | [[a],[b]]=>ot a b | _=>none⟩
def adn:ad->Option FSig:=aG Uw WN aff
theorem Ei (a0 a:IV):runM ab adn C0 A0 [.buf 5,.buf 6] Tryz.f19 [a0,a] []=ja a0 a:=by kernel_rfl
theorem xU:run ab adn C0 A0 Tryz.f19 [[.nilp]]=ub:=by kernel_rfl
abbrev GF:FSig:=⟨.obj [.buf 5,.buf 6],false,[1],0,λl=>match l with | [[a,b]]=>ja a b | [[a]]=>Dm a (ub) | _=>none⟩
def adu:ad->Option FSig:=aG wP GF adn
theorem Cb (a0 a b:IV):runM ab adu C0 A0 [.buf 5,.buf 6] Tryz.f21 [a0,a] [[b]]=gS a0 a b:=by kernel_rfl
theorem xc (a0:IV):run ab adu C0 A0 Tryz.f21 [[.nilp],[a0]]=sy a0:=by kernel_rfl
abbrev EV:FSig:=⟨.obj [.buf 5,.buf 6],false,[1,1],0,λl=>match l with | [[a,c],[b]]=>gS a c b | [[a],[b]]=>Dm a (sy b) | _=>none⟩
def aeF:ad->Option FSig:=aG vo EV adu
theorem Pv (a0 a b a3 a4 c:IV):run ab aeF C0 A1 Tryz.f145 [[a0,a,b,a3,a4,c]]=oB a0 a b a3 a4 c:=by kernel_rfl
abbrev UR:FSig:=⟨.pure,true,[4],0,λl=>match l with | [[a,b,c,d,e,f]]=>oB a b c d e f | _=>none⟩
def aeA:ad->Option FSig:=aG VI UR aeF
def CZ:Ann:={ order:=(λr=>if r=1 then some ([],[0,1,2,3,4,5,6,7,8,9,10,11,12],[]) else none),join:=(λr=>if r=1 then some [4] else none),scalar:=true }
theorem JH (a0 c d a3 a4 e f g h a9 a b:IV):run ab aeA C0 CZ Tryz.f75 [[a0,c,d,a3,a4,e],[f,g,h,a9,a,b]]=nG a0 c d a3 a4 e f g h a9 a b:=by kernel_rfl
abbrev P7:FSig:=⟨.pure,true,[1],0,λl=>match l with | [[c,d,e,f,g,h],[i,j,k,m,a,b]]=>nG c d e f g h i j k m a b | _=>none⟩
def afk:ad->Option FSig:=aG O5 P7 aeA
def Gj:Ann:={ order:=(λr=>if r=6 then some ([],[0,1,2,3,4,5,6,7,8,9],[]) else none),loop:=(λr=>if r=4 then ([(5,.I)],[[],[(4,.I)]]) else ([],[])),scalar:=true }
theorem M9 (a0 a:IV):run ab afk C0 Gj Tryz.f35 [[a0],[a]]=pI a0 a:=by kernel_rfl
abbrev SS:FSig:=⟨.pure,true,[1],0,λl=>match l with | [[a],[b]]=>pI a b | _=>none⟩
def aes:ad->Option FSig:=aG RY SS afk
def F1:Ann:={ order:=(λr=>if r=6 then some ([],[0,1,2,3,4,5,6,7,8],[]) else none),loop:=(λr=>if r=4 then ([(5,.I)],[[],[(4,.I)]]) else ([],[])),scalar:=true }
theorem LN (a0 a:IV):run ab aes C0 F1 Tryz.f50 [[a0],[a]]=pr a0 a:=by kernel_rfl
abbrev TJ:FSig:=⟨.pure,true,[1],0,λl=>match l with | [[a],[b]]=>pr a b | _=>none⟩
def aeV:ad->Option FSig:=aG Sd TJ aes
def E0:Ann:={ join:=(λr=>if r=1 then some [4] else none),scalar:=true }
theorem L2 (a0 a b a3 a4 c d e f a9:IV):run ab aeV C0 E0 Tryz.f23 [[a0,a,b,a3,a4],[c,d,e,f,a9]]=pS a0 a b a3 a4 c d e f a9:=by kernel_rfl
abbrev Ru:FSig:=⟨.pure,true,[1],0,λl=>match l with | [[a,b,c,d,e],[f,g,h,i,j]]=>pS a b c d e f g h i j | _=>none⟩
def aat:ad->Option FSig:=aG S7 Ru aeV
def ct (v10:IV) (g:IV) (v11:List IV):Option SR:=
 (aa .lss (nth v11 1) v10).bind λb=>
 ae b (λ_=>
 (aK g (nth v11 1) 8).bind λc=>
 (dN g c 0 8).bind λa=>
 (fg (nth a 0) (nth a 1) (nth a 2) (nth a 3) (nth a 4) (nth a 5) (nth a 6) (nth a 7)).bind λd=>
 (bU 1 8 (nth v11 0) (.lst [[nth d 0]])).bind λe=>
 (aa .add (nth v11 1) (.int .i64 1)).bind λf=>
 some (.next [e,f])) (λ_=>
 some (.done 0 [nth v11 0]))
def cC (b:IV) (e:IV) (v26:List IV):Option SR:=
 (aa .lss (nth v26 3) b).bind λv27=>
 ae v27 (λ_=>
 (aK e (nth v26 3) 8).bind λv28=>
 (dN e v28 0 8).bind λa=>
 (aL (nth v26 0) (nth v26 1) (nth a 0) (nth a 1) (nth a 2) (nth a 3) (nth a 4) (nth a 5) (nth a 6) (nth a 7)).bind λv30=>
 (bU 1 8 (nth v26 2) (.lst [[(nth (v30.drop 2) 0)]])).bind λc=>
 (aa .add (nth v26 3) (.int .i64 1)).bind λd=>
 some (.next [nth v30 0,nth v30 1,c,d])) (λ_=>
 some (.done 0 [nth v26 0,nth v26 1,nth v26 2]))
def jn (f:IV) (a:List IV):Option SR:=
 (aC f).bind λg=>
 (aa .lss (nth a 10) g).bind λh=>
 ae h (λ_=>
 (aK f (nth a 10) 6).bind λi=>
 (dN f i 0 6).bind λd=>
 (gU (nth a 0) (nth a 1) (nth a 2) (nth a 3) (nth a 4) (nth d 0) (nth d 1) (nth d 2) (nth d 3) (nth d 4) (nth d 5)).bind λb=>
 (aK f (nth a 10) 6).bind λj=>
 (dN f j 0 6).bind λe=>
 (gU (nth a 5) (nth a 6) (nth a 7) (nth a 8) (nth a 9) (nth e 0) (nth e 1) (nth e 2) (nth e 3) (nth e 4) (nth e 5)).bind λc=>
 ((H9 .neq (nth b 5) (nth c 5)).bind λk=>
 ae k (λ_=>
 some [.bool true]) (λ_=>
 (aa .neq (nth b 6) (nth c 6)).bind λl=>
 ae l (λ_=>
 some [.bool true]) (λ_=>
 (fk (nth b 0) (nth b 1) (nth b 2) (nth b 3) (nth b 4)).bind λm=>
 (fk (nth c 0) (nth c 1) (nth c 2) (nth c 3) (nth c 4)).bind λn=>
 (jN (nth m 0) (nth n 0)).bind λo=>
 (kA .not (nth o 0)).bind λp=>
 some [p]))).bind λq=>
 ae (nth q 0) (λ_=>
 some (.done 1 [.bool false])) (λ_=>
 (aa .add (nth a 10) (.int .i64 1)).bind λr=>
 some (.next [nth b 0,nth b 1,nth b 2,nth b 3,nth b 4,nth c 0,nth c 1,nth c 2,nth c 3,nth c 4,r]))) (λ_=>
 some (.done 0 [nth a 0,nth a 1,nth a 2,nth a 3,nth a 4,nth a 5,nth a 6,nth a 7,nth a 8,nth a 9]))
def nX (v:IV) (d:List IV):Option SR:=
 (ja (nth d 0) (nth d 1)).bind λf=>
 (aa .leq (nth d 2) (nth (f.drop 2) 0)).bind λj=>
 ae j (λ_=>
 (bk (nth f 0) (nth f 1) (nth d 2)).bind λb=>
 (gS (nth b 0) (nth b 1) (nth d 2)).bind λe=>
 (jI (nth (e.drop 2) 0)).bind λa=>
 (kA .not (nth (b.drop 2) 5)).bind λv40=>
 ae v40 (λ_=>
 some (.done 1 [.bool false])) (λ_=>
 (aa .neq (nth (e.drop 2) 1) (.int .i64 0)).bind λk=>
 ae k (λ_=>
 some (.done 1 [.bool false])) (λ_=>
 (aa .neq (nth a 5) (.int .i64 0)).bind λl=>
 ae l (λ_=>
 some (.done 1 [.bool false])) (λ_=>
 (pS (nth a 0) (nth a 1) (nth a 2) (nth a 3) (nth a 4) (nth (b.drop 2) 0) (nth (b.drop 2) 1) (nth (b.drop 2) 2) (nth (b.drop 2) 3) (nth (b.drop 2) 4)).bind λm=>
 (kA .not (nth m 0)).bind λn=>
 ae n (λ_=>
 some (.done 1 [.bool false])) (λ_=>
 (fk (nth a 0) (nth a 1) (nth a 2) (nth a 3) (nth a 4)).bind λo=>
 (eu (nth e 0) (nth e 1) (nth d 2)).bind λg=>
 (jN (nth o 0) (nth (g.drop 2) 0)).bind λp=>
 (kA .not (nth p 0)).bind λq=>
 ae q (λ_=>
 some (.done 1 [.bool false])) (λ_=>
 (iter rounds (jn v) [(nth (b.drop 2) 0),(nth (b.drop 2) 1),(nth (b.drop 2) 2),(nth (b.drop 2) 3),(nth (b.drop 2) 4),nth a 0,nth a 1,nth a 2,nth a 3,nth a 4,.int .i64 0]).bind λc=>
 dY c.1 [(dV (nth c.2 0) (nth c.2 1) (nth c.2 2) (nth c.2 3) (nth c.2 4)).bind λh=>
 (dV (nth c.2 5) (nth c.2 6) (nth c.2 7) (nth c.2 8) (nth c.2 9)).bind λi=>
 ((aa .neq (nth h 0) (nth i 0)).bind λr=>
 ae r (λ_=>
 some [.bool true]) (λ_=>
 (aa .neq (nth h 1) (nth i 1)).bind λs=>
 some [s])).bind λt=>
 ae (nth t 0) (λ_=>
 some (.done 1 [.bool false])) (λ_=>
 (aa .add (nth d 2) (.int .i64 1)).bind λu=>
 some (.next [nth g 0,nth g 1,u])),
 some (.done 1 [nth c.2 0])])))))) (λ_=>
 some (.done 0 []))
def pO (a0 a h:IV):Option (List IV):=
 ((kr a (.int .i64 30)).bind λv1=>
 (kA .not (nth v1 0)).bind λv2=>
 ae v2 (λ_=>
 some [.bool true]) (λ_=>
 (ot h (.int .i64 10)).bind λv3=>
 (kA .not (nth v3 0)).bind λv4=>
 some [v4])).bind λi=>
 ae (nth i 0) (λ_=>
 (lQ).bind λv6=>
 av [nth v6 0]) (λ_=>
 ((aa .lss a0 (.int .i64 1)).bind λj=>
 ae j (λ_=>
 some [.bool true]) (λ_=>
 (aa .gtr a0 (.int .i64 8)).bind λk=>
 some [k])).bind λv9=>
 ae (nth v9 0) (λ_=>
 (aC a).bind λv10=>
 (iter rounds (ct v10 a) [.lst [],.int .i64 0]).bind λc=>
 dY c.1 [((aa .lss a0 (.int .i64 1)).bind λd=>
 ae d (λ_=>
 (lQ).bind λv20=>
 some [nth v20 0]) (λ_=>
 (aa .gtr a0 (.int .i64 8)).bind λe=>
 ae e (λ_=>
 (lQ).bind λv22=>
 some [nth v22 0]) (λ_=>
 some [.bool false]))).bind λv23=>
 av [nth v23 0]]) (λ_=>
 (kM 88 [.lst [],.int .i64 0,.int .i64 0,.lst [],.lst []] a0 a0).bind λv24=>
 (aC a).bind λf=>
 (iter rounds (cC f a) [v24,.lst [],.lst [],.int .i64 0]).bind λv33=>
 dY v33.1 [(iter rounds (nX h) [nth v33.2 0,nth v33.2 1,.int .i64 1]).bind λb=>
 dY b.1 [(lQ).bind λg=>
 av [nth g 0],
 av [nth b.2 0]]]))
def mM:Ann:={ join:=(λr=>if r=1 then some [8] else none) }
def dH:Inl:=mD ab aat C0 mM Tryz.f10
def lx:ad->Option FSig:=aG lI ⟨.inl dH,false,[],0,λ_=>none⟩ <| aat
def mQ:Ann:={ loop:=(λr=>if r=4 then ([(6,(.O [.buf 5,.buf 6])),(7,(.B 1)),(14,.I)],[[(6,(.O [.buf 5,.buf 6])),(7,(.B 1))]]) else ([],[])),alt:=(λr=>if r=4 then some (6,[(7,(.B 1)),(14,.I)],[[(7,(.B 1))]]) else none) }
def gz:Inl:=mD ab lx C0 mQ Tryz.f27
def kR:ad->Option FSig:=aG lI ⟨.inl dH,false,[],0,λ_=>none⟩ <| aG qw ⟨.inl gz,false,[],0,λ_=>none⟩ <| aat
def lh:Inl:=mD ab kR C0 A0 Tryz.f18
def yN:ad->Option FSig:=aG lI ⟨.inl dH,false,[],0,λ_=>none⟩ <| aG qw ⟨.inl gz,false,[],0,λ_=>none⟩ <| aG zR ⟨.inl lh,false,[],0,λ_=>none⟩ <| aat
def BM:Ann:={ order:=(λr=>if r=17 then some ([8,9],[0,1,2,3,4,5,6,7,10],[11,12,13]) else if r=18 then some ([8,9],[0,1,2,3,4,5,6,7,10],[11,12,13]) else if r=19 then some ([],[0,1,2,3,4,5,6,7,8,9,10,11,12,13,14,15],[]) else none),join:=(λr=>if r=1 then some [33] else if r=5 then some [6] else if r=19 then some [138] else if r=25 then some [158] else none),loop:=(λr=>if r=7 then ([(7,(.O [.buf 5,.buf 6])),(8,.I)],[[],[(6,.I)]]) else if r=15 then ([(9,(.G 5)),(13,(.G 5)),(15,.I)],[[(9,(.G 5)),(13,(.G 5))],[(6,.I)]]) else ([],[])),scalar:=true }
theorem Hw (a0 a b:IV):run ab yN C0 BM Tryz.f4 [[a0],[a],[b]]=pO a0 a b:=by kernel_rfl
abbrev Av:FSig:=⟨.pure,true,[1],0,λl=>match l with | [[a],[b],[c]]=>pO a b c | _=>none⟩
def ais:ad->Option FSig:=aG Bb Av aat
end Go.AM
end

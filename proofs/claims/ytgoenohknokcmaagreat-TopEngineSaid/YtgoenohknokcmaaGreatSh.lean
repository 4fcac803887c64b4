/- The functions of the program that plain laws name, as the abstract machine runs them; printed by a program of this work. -/
import Derived.Test.YtgoenohknokcmaaGreatAe
import Derived.Test.YtgoenohknokcmaaGreatAd
set_option linter.unusedVariables false
namespace Go.AM
abbrev ue:Nat:=7
abbrev QE:Nat:=9
abbrev tY:Nat:=10
abbrev qq:Nat:=12
abbrev I5:Nat:=13
abbrev Oa:Nat:=14
abbrev qz:Nat:=15
abbrev Tz:Nat:=16
abbrev Re:Nat:=17
abbrev nR:Nat:=20
abbrev Ot:Nat:=22
abbrev OT:Nat:=24
abbrev PU:Nat:=25
abbrev Mx:Nat:=26
abbrev Ab:Nat:=27
abbrev NU:Nat:=28
abbrev Aw:Nat:=31
abbrev PF:Nat:=32
abbrev qG:Nat:=33
abbrev pF:Nat:=34
abbrev OM:Nat:=35
abbrev qw:Nat:=36
abbrev vT:Nat:=37
abbrev oD:Nat:=38
abbrev wq:Nat:=39
abbrev Mh:Nat:=40
abbrev jJ:Nat:=41
abbrev p7:Nat:=42
abbrev nP:Nat:=43
abbrev qe:Nat:=44
abbrev ox:Nat:=45
abbrev Ik:Nat:=46
abbrev Jv:Nat:=47
abbrev Uz:Nat:=48
abbrev rA:Nat:=49
abbrev RQ:Nat:=51
abbrev KG:Nat:=52
abbrev CA:Nat:=53
abbrev KP:Nat:=54
abbrev Io:Nat:=55
abbrev Ol:Nat:=56
abbrev NZ:Nat:=57
abbrev Qq:Nat:=58
abbrev gb:Nat:=59
abbrev zG:Nat:=60
abbrev jN:Nat:=62
abbrev EH:Nat:=63
abbrev FK:Nat:=64
abbrev qE:Nat:=65
abbrev mm:Nat:=66
abbrev pW:Nat:=68
abbrev gx:Nat:=69
abbrev GC:Nat:=70
abbrev Px:Nat:=71
abbrev wQ:Nat:=72
abbrev mS:Nat:=73
abbrev R9:Nat:=74
abbrev Jj:Nat:=75
abbrev Ba:Nat:=76
abbrev jC:Nat:=78
abbrev Od:Nat:=81
abbrev JQ:Nat:=82
abbrev tc:Nat:=83
abbrev kF:Nat:=84
abbrev fK:Nat:=85
abbrev iY:Nat:=86
abbrev NG:Nat:=87
abbrev I1:Nat:=88
abbrev Sr:Nat:=89
abbrev cz:Nat:=90
abbrev dt:Nat:=91
abbrev J0:Nat:=92
abbrev eE:Nat:=93
abbrev JR:Nat:=94
abbrev gQ:Nat:=95
abbrev FO:Nat:=96
abbrev kA:Nat:=97
abbrev kn:Nat:=98
abbrev zD:Nat:=99
abbrev R0:Nat:=100
abbrev jV:Nat:=101
abbrev Ku:Nat:=102
abbrev SP:Nat:=103
abbrev j6:Nat:=104
abbrev Jw:Nat:=105
abbrev jX:Nat:=106
abbrev JO:Nat:=107
abbrev ko:Nat:=108
abbrev sW:Nat:=109
abbrev gL:Nat:=110
abbrev Ar:Nat:=111
abbrev gN:Nat:=112
abbrev jK:Nat:=113
abbrev Ju:Nat:=114
abbrev Cp:Nat:=115
abbrev b9:Nat:=116
abbrev kE:Nat:=117
abbrev iV:Nat:=118
abbrev Js:Nat:=119
abbrev F7:Nat:=120
abbrev vh:Nat:=121
abbrev ik:Nat:=122
abbrev PE:Nat:=123
abbrev Pv:Nat:=124
abbrev en:Nat:=125
abbrev nr:Nat:=126
abbrev Sk:Nat:=128
abbrev M4:Nat:=129
abbrev Qh:Nat:=130
abbrev xV:Nat:=131
abbrev ee:Nat:=132
abbrev fL:Nat:=133
abbrev O8:Nat:=134
abbrev QH:Nat:=137
abbrev pZ:Nat:=138
abbrev NW:Nat:=140
abbrev NH:Nat:=141
abbrev kR:Nat:=142
abbrev Py:Nat:=143
abbrev Vv:Nat:=144
abbrev Qo:Nat:=145
abbrev mQ:Nat:=148
abbrev NQ:Nat:=152
abbrev tl:Nat:=153
abbrev Mq:Nat:=154
abbrev dG:Nat:=155
abbrev oY:Nat:=156
abbrev jF:Nat:=157
abbrev Jk:Nat:=158
abbrev E2:Nat:=159
abbrev Da:Nat:=160
abbrev jT:Nat:=161
abbrev jk:Nat:=162
abbrev Jh:Nat:=163
abbrev PD:Nat:=164
abbrev JV:Nat:=165
abbrev Gh:Nat:=166
abbrev I6:Nat:=167
abbrev KZ:Nat:=168
abbrev K3:Nat:=169
abbrev K0:Nat:=170
abbrev KJ:Nat:=171
abbrev BX:Nat:=172
abbrev OQ:Nat:=173
abbrev dZ:Nat:=174
abbrev kD:Nat:=175
abbrev O1:Nat:=176
abbrev Ew:Nat:=177
abbrev kx:Nat:=178
abbrev pa:Nat:=181
abbrev GV:Nat:=182
abbrev Ev:Nat:=183
abbrev Mj:Nat:=184
abbrev qf:Nat:=185
abbrev Ja:Nat:=186
abbrev Jm:Nat:=187
abbrev Cr:Nat:=188
abbrev oy:Nat:=189
abbrev GW:Nat:=190
abbrev fM:Nat:=191
abbrev M1:Nat:=193
abbrev N9:Nat:=194
abbrev rP:Nat:=195
abbrev wT:Nat:=196
abbrev eX:Nat:=197
abbrev OO:Nat:=199
abbrev jH:Nat:=200
abbrev P8:Nat:=201
abbrev zZ:Nat:=203
abbrev Ny:Nat:=205
abbrev JE:Nat:=206
abbrev Qf:Nat:=207
abbrev mn:Nat:=208
abbrev n_snap_open:Nat:=211
abbrev bU:Nat:=212
abbrev bJ:Nat:=213
abbrev dW:Nat:=214
abbrev cZ:Nat:=215
abbrev jz:Nat:=216
abbrev ij:Nat:=217
abbrev H2:Nat:=218
abbrev eb:Nat:=219
abbrev om:Nat:=220
abbrev EY:Nat:=221
abbrev Qg:Nat:=222
abbrev qy:Nat:=223
abbrev MT:Nat:=224
abbrev JI:Nat:=225
abbrev SZ:Nat:=226
abbrev Pt:Nat:=227
abbrev fJ:Nat:=228
abbrev IZ:Nat:=229
abbrev H8:Nat:=230
abbrev Ir:Nat:=231
abbrev I9:Nat:=232
abbrev OY:Nat:=233
abbrev zX:Nat:=236
abbrev CU:Nat:=237
abbrev NJ:Nat:=238
abbrev HX:Nat:=239
abbrev Hu:Nat:=240
abbrev Uv:Nat:=241
abbrev K6:Nat:=242
abbrev r7:Nat:=243
abbrev Sa:Nat:=246
abbrev Sv:Nat:=247
abbrev tK:Nat:=248
abbrev Hv:Nat:=249
abbrev fj:Nat:=250
abbrev mX:Nat:=251
abbrev Nn:Nat:=252
abbrev E1:Nat:=255
abbrev nj:Nat:=256
abbrev SV:Nat:=257
abbrev SF:Nat:=259
abbrev fq:Nat:=260
abbrev wx:Nat:=261
abbrev dh:Nat:=262
abbrev xZ:Nat:=263
abbrev NB:Nat:=264
abbrev MN:Nat:=265
abbrev dm:Nat:=266
abbrev zq:Nat:=284
abbrev B6:Nat:=285
abbrev zw:Nat:=286
abbrev zT:Nat:=287
abbrev dz:=p8 6 56
abbrev aO:=p8 4 40
abbrev cu:=p8 12 104
abbrev cQ:=oP 6 56
abbrev dA:=p8 2 16
abbrev cf:=oP 2 16
abbrev oT:=Hn
abbrev cw:=oP 4 40
abbrev dw:=Bf
def nM (a0:IV):Option (List IV):=
 (aa .lss a0 (.int .u8 128)).bind fun v1=>
 af v1 (fun _=>
 ai [(.int .i64 0),(.int .u8 128),(.int .u8 191),(.bool true)]) (fun _=>
 (aa .lss a0 (.int .u8 194)).bind fun v2=>
 af v2 (fun _=>
 ai [(.int .i64 0),(.int .u8 128),(.int .u8 191),(.bool false)]) (fun _=>
 (aa .lss a0 (.int .u8 224)).bind fun v3=>
 af v3 (fun _=>
 ai [(.int .i64 1),(.int .u8 128),(.int .u8 191),(.bool true)]) (fun _=>
 (aa .lss a0 (.int .u8 240)).bind fun v4=>
 af v4 (fun _=>
 (aa .eql a0 (.int .u8 224)).bind fun v5=>
 af v5 (fun _=>
 ai [(.int .i64 2),(.int .u8 160),(.int .u8 191),(.bool true)]) (fun _=>
 (aa .eql a0 (.int .u8 237)).bind fun v6=>
 af v6 (fun _=>
 ai [(.int .i64 2),(.int .u8 128),(.int .u8 159),(.bool true)]) (fun _=>
 ai [(.int .i64 2),(.int .u8 128),(.int .u8 191),(.bool true)]))) (fun _=>
 (aa .lss a0 (.int .u8 245)).bind fun v7=>
 af v7 (fun _=>
 (aa .eql a0 (.int .u8 240)).bind fun v8=>
 af v8 (fun _=>
 ai [(.int .i64 3),(.int .u8 144),(.int .u8 191),(.bool true)]) (fun _=>
 (aa .eql a0 (.int .u8 244)).bind fun v9=>
 af v9 (fun _=>
 ai [(.int .i64 3),(.int .u8 128),(.int .u8 143),(.bool true)]) (fun _=>
 ai [(.int .i64 3),(.int .u8 128),(.int .u8 191),(.bool true)]))) (fun _=>
 ai [(.int .i64 0),(.int .u8 128),(.int .u8 191),(.bool false)])))))
def nq (v16:IV) (v15:IV) (v17:List IV):Option SR:=
 (aa .lss (nth v17 2) v16).bind fun v18=>
 af v18 (fun _=>
 (dH v15 (nth v17 2) 1).bind fun v19=>
 (qA v15 v19 0).bind fun v20=>
 ((aa .lss v20 (nth v17 0)).bind fun v21=>
 af v21 (fun _=>
 some [(.bool true)]) (fun _=>
 (aa .gtr v20 (nth v17 1)).bind fun v22=>
 some [v22])).bind fun v23=>
 af (nth v23 0) (fun _=>
 some (.done 1 [])) (fun _=>
 (aa .add (nth v17 2) (.int .i64 1)).bind fun v24=>
 some (.next [(.int .u8 128),(.int .u8 191),v24]))) (fun _=>
 some (.done 0 []))
def gS (a0:IV) (v1:List IV):Option SR:=
 (qQ a0).bind fun v2=>
 (aa .lss (nth v1 1) v2).bind fun v3=>
 af v3 (fun _=>
 (SN a0 (nth v1 1)).bind fun v4=>
 (nM v4).bind fun v5=>
 ((rI .not (nth v5 3)).bind fun v6=>
 af v6 (fun _=>
 some [(.bool true)]) (fun _=>
 (qQ a0).bind fun v7=>
 (aa .sub v7 (nth v1 1)).bind fun v8=>
 (aa .leq v8 (nth v5 0)).bind fun v9=>
 some [v9])).bind fun v10=>
 af (nth v10 0) (fun _=>
 some (.done 0 [(nth v1 0),(nth v1 1)])) (fun _=>
 (aa .add (nth v1 1) (.int .i64 1)).bind fun v11=>
 (aa .add (nth v1 1) (.int .i64 1)).bind fun v12=>
 (aa .add v12 (nth v5 0)).bind fun v13=>
 (yT a0 (some v11) (some v13)).bind fun v14=>
 (Se v14).bind fun v15=>
 (bq v15).bind fun v16=>
 (iter rounds (nq v16 v15) [(nth v5 1),(nth v5 2),(.int .i64 0)]).bind fun v25=>
 iA v25.1 [(aa .add (.int .i64 1) (nth v5 0)).bind fun v26=>
 (aa .add (nth v1 1) v26).bind fun v27=>
 (aa .add (nth v1 0) (.int .i64 1)).bind fun v28=>
 some (.next [v28,v27]),
 some (.done 0 [(nth v1 0),(nth v1 1)])])) (fun _=>
 some (.done 0 [(nth v1 0),(nth v1 1)]))
def oU (a0:IV):Option (List IV):=
 (iter rounds (gS a0) [(.int .i64 0),(.int .i64 0)]).bind fun v29=>
 iA v29.1 [ai [(nth v29.2 0),(nth v29.2 1)]]
def jo (a0:IV):Option (List IV):=
 (oU a0).bind fun v1=>
 (qQ a0).bind fun v2=>
 (aa .eql (nth v1 1) v2).bind fun v3=>
 ai [v3]
def kG (a0 a1 a2 a3:IV):Option (List IV):=
 ((aa .geq a0 (.int .i64 1)).bind fun v1=>
 af v1 (fun _=>
 (aa .leq a0 (.int .i64 2147483647)).bind fun v2=>
 af v2 (fun _=>
 (aa .geq a1 (.int .i64 0)).bind fun v3=>
 af v3 (fun _=>
 (aa .leq a1 (.int .i64 2147483647)).bind fun v4=>
 af v4 (fun _=>
 (qQ a2).bind fun v5=>
 (aa .leq v5 (.int .i64 64)).bind fun v6=>
 af v6 (fun _=>
 (jo a2).bind fun v7=>
 some [(nth v7 0)]) (fun _=>
 some [(.bool false)])) (fun _=>
 some [(.bool false)])) (fun _=>
 some [(.bool false)])) (fun _=>
 some [(.bool false)])) (fun _=>
 some [(.bool false)])).bind fun v8=>
 ai [(nth v8 0)]
abbrev zO (x:IV):Option (List IV):=UJ (fun l=>match l with | [[x0,x1,x2,x3]]=>kG x0 x1 x2 x3 | _=>none) x
def jG (v1:IV) (a0:IV) (a1:IV) (v2:List IV):Option SR:=
 (aa .lss (nth v2 0) v1).bind fun v3=>
 af v3 (fun _=>
 (dH a0 (nth v2 0) 1).bind fun v4=>
 (qA a0 v4 0).bind fun v5=>
 (aa .eql a1 v5).bind fun v6=>
 af v6 (fun _=>
 some (.done 1 [(nth v2 0)])) (fun _=>
 (aa .add (nth v2 0) (.int .i64 1)).bind fun v7=>
 some (.next [v7]))) (fun _=>
 some (.done 0 []))
def gr (a0 a1:IV):Option (List IV):=
 (bq a0).bind fun v1=>
 (iter rounds (jG v1 a0 a1) [(.int .i64 0)]).bind fun v8=>
 iA v8.1 [ai [(.int .i64 (-1))],
 ai [(nth v8.2 0)]]
def cG (a0 a1:IV):Option (List IV):=
 (gr a0 a1).bind fun v1=>
 (aa .geq (nth v1 0) (.int .i64 0)).bind fun v2=>
 ai [v2]
abbrev Q7:=Xe
def Ah (a0:IV):Option (List IV):=
 (mY .u64 a0).bind fun v1=>
 (aa .shl v1 (.int .u64 1)).bind fun v2=>
 (aa .shr a0 (.int .u64 63)).bind fun v3=>
 (mY .u64 v3).bind fun v4=>
 (aa .xor v2 v4).bind fun v5=>
 ai [v5]
def Qu (v1:List IV):Option SR:=
 (aa .geq (nth v1 0) (.int .u64 128)).bind fun v2=>
 af v2 (fun _=>
 (mY .u8 (nth v1 0)).bind fun v3=>
 (aa .or v3 (.int .u8 128)).bind fun v4=>
 (lY 1 1 (nth v1 1) (.lst [[v4]])).bind fun v5=>
 (aa .shr (nth v1 0) (.int .u64 7)).bind fun v6=>
 some (.next [v6,v5])) (fun _=>
 some (.done 0 [(nth v1 0),(nth v1 1)]))
def pM (a0:IV):Option (List IV):=
 (iter rounds (Qu) [a0,(.lst [])]).bind fun v7=>
 iA v7.1 [(mY .u8 (nth v7.2 0)).bind fun v8=>
 (lY 1 1 (nth v7.2 1) (.lst [[v8]])).bind fun v9=>
 (xn v9).bind fun v10=>
 ai [v10]]
abbrev FV (x:IV):Option (List IV):=NS Ah pM x
def fS (C:IV->List Nat->List (List IV)->Option (List IV)) (v1:IV) (a0:IV) (a1:IV) (v2:List IV):Option SR:=
 (aa .lss (nth v2 0) v1).bind fun v3=>
 af v3 (fun _=>
 (dH a0 (nth v2 0) 4).bind fun v4=>
 (eR a0 v4 0 4).bind fun v5=>
 (C a1 [1] [[(nth v5 0),(nth v5 1),(nth v5 2),(nth v5 3)]]).bind fun v6=>
 af (nth v6 0) (fun _=>
 some (.done 1 [(nth v2 0)])) (fun _=>
 (aa .add (nth v2 0) (.int .i64 1)).bind fun v7=>
 some (.next [v7]))) (fun _=>
 some (.done 0 []))
def aY (C:IV->List Nat->List (List IV)->Option (List IV)) (a0 a1:IV):Option (List IV):=
 (bq a0).bind fun v1=>
 (iter rounds (fS C v1 a0 a1) [(.int .i64 0)]).bind fun v8=>
 iA v8.1 [ai [(.int .i64 (-1))],
 ai [(nth v8.2 0)]]
def iX (a0 a1 a2 a3 a4:IV):Option (List IV):=
 (gX a4 0).bind fun v1=>
 (aa .eql a0 v1).bind fun v2=>
 ai [v2]
def jW:IV->List Nat->List (List IV)->Option (List IV):=
 Fq mn [1] (fun caps l=>match caps,l with | [a4],[[a0,a1,a2,a3]]=>iX a0 a1 a2 a3 a4 | _,_=>none) <|
 fun _ _ _=>none
def gv (a0 a1:IV):Option (List IV):=
 (aY (jW) a0 (.clo (.func mn) [(.ptr [a1] 0)])).bind fun v1=>
 (aa .geq (nth v1 0) (.int .i64 0)).bind fun v2=>
 ai [(nth v1 0),v2]
def mB (a0 a1 a2 a3 a4:IV):Option (List IV):=
 (gY a4).bind fun v1=>
 (gX v1 0).bind fun v2=>
 (aa .gtr a0 v2).bind fun v3=>
 ai [v3]
def nS:IV->List Nat->List (List IV)->Option (List IV):=
 Fq oY [1] (fun caps l=>match caps,l with | [a4],[[a0,a1,a2,a3]]=>mB a0 a1 a2 a3 a4 | _,_=>none) <|
 fun _ _ _=>none
def mV (a0 a1 a2 a3 a4:IV):Option (List IV):=
 (aO a0).bind fun v1=>
 (gv a0 a1).bind fun v2=>
 af (nth v2 1) (fun _=>
 (cE (bQ (nth v1 0)) (nth v2 0)).bind fun v3=>
 (zy (nth v1 0) v3 0 [a1,a2,a3,a4]).bind fun v4=>
 some [v4]) (fun _=>
 (aY (nS) a0 (.clo (.func oY) [(.ptr [a1,a2,a3,a4] 0)])).bind fun v5=>
 (aa .lss (nth v5 0) (.int .i64 0)).bind fun v6=>
 af v6 (fun _=>
 (bq a0).bind fun v7=>
 (cw (nth v1 0) v7 (.lst [[a1,a2,a3,a4]])).bind fun v8=>
 some [(nth v8 0)]) (fun _=>
 (cw (nth v1 0) (nth v5 0) (.lst [[a1,a2,a3,a4]])).bind fun v9=>
 some [(nth v9 0)]))
def nD (a0 a1:IV):Option (List IV):=
 (gv a0 a1).bind fun v1=>
 (rI .not (nth v1 1)).bind fun v2=>
 af v2 (fun _=>
 some [a0]) (fun _=>
 (aO a0).bind fun v3=>
 (aa .add (nth v1 0) (.int .i64 1)).bind fun v4=>
 (dw (nth v3 0) (nth v1 0) v4).bind fun v5=>
 some [(nth v5 0)])
def fY (a0 a1 a2 a3 a4 a5 a6 a7 a8 a9 a10 a11 a12:IV):Option (List IV):=
 (rI .not a7).bind fun v1=>
 af v1 (fun _=>
 some [a0]) (fun _=>
 af a8 (fun _=>
 (mV a0 a9 a10 a11 a12).bind fun v2=>
 some [(nth v2 0)]) (fun _=>
 (nD a0 a4).bind fun v3=>
 some [(nth v3 0)]))
abbrev qu (x s:IV):Option (List IV):=TG (fun l=>match l with | [[x0],[x1,x2,x3,x4,x5,x6,x7,x8,x9,x10,x11,x12]]=>fY x0 x1 x2 x3 x4 x5 x6 x7 x8 x9 x10 x11 x12 | _=>none) x s
def rf (C:IV->List Nat->List (List IV)->Option (List IV)) (v1:IV) (a0:IV) (v2:List IV):Option SR:=
 (aa .lss (nth v2 0) v1).bind fun v3=>
 af v3 (fun _=>
 (dH a0 (nth v2 0) 1).bind fun v4=>
 (qA a0 v4 0).bind fun v5=>
 (C v5 [1] []).bind fun v6=>
 (aa .neq (nth v6 0) (.int .i64 0)).bind fun v7=>
 af v7 (fun _=>
 some (.done 1 [(nth v6 0)])) (fun _=>
 (aa .add (nth v2 0) (.int .i64 1)).bind fun v8=>
 some (.next [v8]))) (fun _=>
 some (.done 0 []))
def jl (C:IV->List Nat->List (List IV)->Option (List IV)) (a0:IV):Option (List IV):=
 (bq a0).bind fun v1=>
 (iter rounds (rf C v1 a0) [(.int .i64 0)]).bind fun v9=>
 iA v9.1 [ai [(.int .i64 0)],
 ai [(nth v9.2 0)]]
def gH (a0:IV):Option (List IV):=
 (aa .neq a0 a0).bind fun v1=>
 ai [v1]
def dc (a0 a1:IV):Option (List IV):=
 (gH a0).bind fun v1=>
 (gH a1).bind fun v2=>
 af (nth v1 0) (fun _=>
 af (nth v2 0) (fun _=>
 ai [(.int .i64 0)]) (fun _=>
 ai [(.int .i64 (-1))])) (fun _=>
 af (nth v2 0) (fun _=>
 ai [(.int .i64 1)]) (fun _=>
 (aa .lss a0 a1).bind fun v3=>
 af v3 (fun _=>
 ai [(.int .i64 (-1))]) (fun _=>
 (aa .gtr a0 a1).bind fun v4=>
 af v4 (fun _=>
 ai [(.int .i64 1)]) (fun _=>
 ai [(.int .i64 0)]))))
def gM (a0 a1:IV):Option (List IV):=
 (gY a0).bind fun v1=>
 (gX v1 0).bind fun v2=>
 (gY a1).bind fun v3=>
 (gX v3 0).bind fun v4=>
 (dc v2 v4).bind fun v5=>
 ai [(nth v5 0)]
def gI (a0 a1:IV):Option (List IV):=
 (gY a0).bind fun v1=>
 (gX v1 1).bind fun v2=>
 (gY a1).bind fun v3=>
 (gX v3 1).bind fun v4=>
 (dc v2 v4).bind fun v5=>
 ai [(nth v5 0)]
def fT:IV->List Nat->List (List IV)->Option (List IV):=
 Fq gL [1] (fun caps l=>match caps,l with | [a0,a1],[]=>gM a0 a1 | _,_=>none) <|
 Fq gN [1] (fun caps l=>match caps,l with | [a0,a1],[]=>gI a0 a1 | _,_=>none) <|
 fun _ _ _=>none
def fi (a0 a1 a2 a3:IV):Option (List IV):=
 (jl (fT) (.lst [[(.clo (.func gL) [(.ptr [a0,a1] 0),(.ptr [a2,a3] 0)])],[(.clo (.func gN) [(.ptr [a0,a1] 0),(.ptr [a2,a3] 0)])]])).bind fun v1=>
 (aa .lss (nth v1 0) (.int .i64 0)).bind fun v2=>
 ai [v2]
def fm (C:IV->List Nat->List (List IV)->Option (List IV)) (v1:IV) (a0:IV) (a1:IV) (v2:List IV):Option SR:=
 (aa .lss (nth v2 0) v1).bind fun v3=>
 af v3 (fun _=>
 (dH a0 (nth v2 0) 6).bind fun v4=>
 (eR a0 v4 0 6).bind fun v5=>
 (C a1 [1] [[(nth v5 0),(nth v5 1),(nth v5 2),(nth v5 3),(nth v5 4),(nth v5 5)]]).bind fun v6=>
 af (nth v6 0) (fun _=>
 some (.done 1 [(nth v2 0)])) (fun _=>
 (aa .add (nth v2 0) (.int .i64 1)).bind fun v7=>
 some (.next [v7]))) (fun _=>
 some (.done 0 []))
def bu (C:IV->List Nat->List (List IV)->Option (List IV)) (a0 a1:IV):Option (List IV):=
 (bq a0).bind fun v1=>
 (iter rounds (fm C v1 a0 a1) [(.int .i64 0)]).bind fun v8=>
 iA v8.1 [ai [(.int .i64 (-1))],
 ai [(nth v8.2 0)]]
def bG (C:IV->List Nat->List (List IV)->Option (List IV)) (a0 a1:IV):Option (List IV):=
 (bu C a0 a1).bind fun v1=>
 (aa .geq (nth v1 0) (.int .i64 0)).bind fun v2=>
 ai [v2]
def ll (a0 a1 a2 a3 a4 a5:IV):Option (List IV):=
 ai [a3,a2,a4,a5]
def iR (a0 a1 a2 a3 a4 a5:IV):Option (List IV):=
 ((aa .geq a0 (.int .i64 1)).bind fun v1=>
 af v1 (fun _=>
 (aa .leq a0 (.int .i64 4611686018427387903)).bind fun v2=>
 af v2 (fun _=>
 (aa .geq a1 (.int .i64 1)).bind fun v3=>
 af v3 (fun _=>
 (aa .leq a1 (.int .i64 255)).bind fun v4=>
 af v4 (fun _=>
 (ll a0 a1 a2 a3 a4 a5).bind fun v5=>
 (kG (nth v5 0) (nth v5 1) (nth v5 2) (nth v5 3)).bind fun v6=>
 some [(nth v6 0)]) (fun _=>
 some [(.bool false)])) (fun _=>
 some [(.bool false)])) (fun _=>
 some [(.bool false)])) (fun _=>
 some [(.bool false)])).bind fun v7=>
 ai [(nth v7 0)]
def j4 (a0 a1 a2 a3 a4 a5:IV):Option (List IV):=
 (iR a0 a1 a2 a3 a4 a5).bind fun v1=>
 (rI .not (nth v1 0)).bind fun v2=>
 ai [v2]
def lP:IV->List Nat->List (List IV)->Option (List IV):=
 Fq nr [1] (fun caps l=>match caps,l with | [],[[a0,a1,a2,a3,a4,a5]]=>j4 a0 a1 a2 a3 a4 a5 | _,_=>none) <|
 fun _ _ _=>none
def gz (a0:IV) (v1:List IV):Option SR:=
 (bq a0).bind fun v2=>
 (aa .lss (nth v1 0) v2).bind fun v3=>
 af v3 (fun _=>
 (aa .sub (nth v1 0) (.int .i64 1)).bind fun v4=>
 (dH a0 v4 6).bind fun v5=>
 (eR a0 v5 0 2).bind fun v6=>
 (dH a0 (nth v1 0) 6).bind fun v7=>
 (eR a0 v7 0 2).bind fun v8=>
 (fi (nth v6 0) (nth v6 1) (nth v8 0) (nth v8 1)).bind fun v9=>
 (rI .not (nth v9 0)).bind fun v10=>
 af v10 (fun _=>
 some (.done 1 [(.bool false)])) (fun _=>
 (aa .add (nth v1 0) (.int .i64 1)).bind fun v11=>
 some (.next [v11]))) (fun _=>
 some (.done 0 []))
def nV (a0:IV):Option (List IV):=
 (iter rounds (gz a0) [(.int .i64 1)]).bind fun v12=>
 iA v12.1 [((bq a0).bind fun v13=>
 (aa .leq v13 (.int .i64 2000)).bind fun v14=>
 af v14 (fun _=>
 (bG (lP) a0 (.clo (.func nr) [])).bind fun v15=>
 (rI .not (nth v15 0)).bind fun v16=>
 some [v16]) (fun _=>
 some [(.bool false)])).bind fun v17=>
 ai [(nth v17 0)],
 ai [(nth v12.2 0)]]
def tn (v1:IV) (a0:IV) (v2:List IV):Option SR:=
 (aa .lss (nth v2 0) v1).bind fun v3=>
 af v3 (fun _=>
 (dH a0 (nth v2 0) 2).bind fun v4=>
 (eR a0 v4 0 2).bind fun v5=>
 ((aa .lss (nth v5 0) (.int .i64 1)).bind fun v6=>
 af v6 (fun _=>
 some [(.bool true)]) (fun _=>
 (aa .gtr (nth v5 0) (.int .i64 255)).bind fun v7=>
 af v7 (fun _=>
 some [(.bool true)]) (fun _=>
 (aa .lss (nth v5 1) (.int .i64 1)).bind fun v8=>
 af v8 (fun _=>
 some [(.bool true)]) (fun _=>
 (aa .gtr (nth v5 1) (.int .i64 4611686018427387903)).bind fun v9=>
 af v9 (fun _=>
 some [(.bool true)]) (fun _=>
 (aa .gtr (nth v2 0) (.int .i64 0)).bind fun v10=>
 af v10 (fun _=>
 (aa .sub (nth v2 0) (.int .i64 1)).bind fun v11=>
 (dH a0 v11 2).bind fun v12=>
 (qA a0 v12 0).bind fun v13=>
 (aa .geq v13 (nth v5 0)).bind fun v14=>
 some [v14]) (fun _=>
 some [(.bool false)])))))).bind fun v15=>
 af (nth v15 0) (fun _=>
 some (.done 1 [(.bool false)])) (fun _=>
 (aa .add (nth v2 0) (.int .i64 1)).bind fun v16=>
 some (.next [v16]))) (fun _=>
 some (.done 0 []))
def nQ (a0:IV):Option (List IV):=
 (bq a0).bind fun v1=>
 (iter rounds (tn v1 a0) [(.int .i64 0)]).bind fun v17=>
 iA v17.1 [ai [(.bool true)],
 ai [(nth v17.2 0)]]
def jQ (a0:IV):Option (List IV):=
 ((gY a0).bind fun v1=>
 (gX v1 0).bind fun v2=>
 (zO v2).bind fun v3=>
 af (nth v3 0) (fun _=>
 (gY a0).bind fun v4=>
 (gX v4 3).bind fun v5=>
 (nV v5).bind fun v6=>
 af (nth v6 0) (fun _=>
 (gY a0).bind fun v7=>
 (gX v7 4).bind fun v8=>
 (nQ v8).bind fun v9=>
 some [(nth v9 0)]) (fun _=>
 some [(.bool false)])) (fun _=>
 some [(.bool false)])).bind fun v10=>
 ai [(nth v10 0)]
def fg (C:IV->List Nat->List (List IV)->Option (List IV)) (v1:IV) (a0:IV) (a1:IV) (v2:List IV):Option SR:=
 (aa .lss (nth v2 0) v1).bind fun v3=>
 af v3 (fun _=>
 (dH a0 (nth v2 0) 2).bind fun v4=>
 (eR a0 v4 0 2).bind fun v5=>
 (C a1 [1] [[(nth v5 0),(nth v5 1)]]).bind fun v6=>
 af (nth v6 0) (fun _=>
 some (.done 1 [(nth v2 0)])) (fun _=>
 (aa .add (nth v2 0) (.int .i64 1)).bind fun v7=>
 some (.next [v7]))) (fun _=>
 some (.done 0 []))
def ay (C:IV->List Nat->List (List IV)->Option (List IV)) (a0 a1:IV):Option (List IV):=
 (bq a0).bind fun v1=>
 (iter rounds (fg C v1 a0 a1) [(.int .i64 0)]).bind fun v8=>
 iA v8.1 [ai [(.int .i64 (-1))],
 ai [(nth v8.2 0)]]
def gF (a0 a1 a2:IV):Option (List IV):=
 (gX a2 0).bind fun v1=>
 (aa .eql a0 v1).bind fun v2=>
 ai [v2]
def iZ:IV->List Nat->List (List IV)->Option (List IV):=
 Fq kx [1] (fun caps l=>match caps,l with | [a2],[[a0,a1]]=>gF a0 a1 a2 | _,_=>none) <|
 fun _ _ _=>none
def gW (a0 a1:IV):Option (List IV):=
 (ay (iZ) a0 (.clo (.func kx) [(.ptr [a1] 0)])).bind fun v1=>
 (aa .geq (nth v1 0) (.int .i64 0)).bind fun v2=>
 ai [(nth v1 0),v2]
def l6 (v1:IV) (a1:IV) (v2:List IV):Option SR:=
 (aa .lss (nth v2 1) v1).bind fun v3=>
 af v3 (fun _=>
 (dH a1 (nth v2 1) 1).bind fun v4=>
 (qA a1 v4 0).bind fun v5=>
 (imax (nth v2 0) v5).bind fun v6=>
 (aa .add (nth v2 1) (.int .i64 1)).bind fun v7=>
 some (.next [v6,v7])) (fun _=>
 some (.done 0 [(nth v2 0)]))
def fP (a0 a1:IV):Option (List IV):=
 (bq a1).bind fun v1=>
 (iter rounds (l6 v1 a1) [a0,(.int .i64 0)]).bind fun v8=>
 iA v8.1 [ai [(nth v8.2 0)]]
def gB (a0 a1 a2:IV):Option (List IV):=
 (gY a2).bind fun v1=>
 (gX v1 1).bind fun v2=>
 (aa .gtr a0 v2).bind fun v3=>
 ai [v3]
def iJ:IV->List Nat->List (List IV)->Option (List IV):=
 Fq kE [1] (fun caps l=>match caps,l with | [a2],[[a0,a1]]=>gB a0 a1 a2 | _,_=>none) <|
 fun _ _ _=>none
def gU (a0 a1 a2:IV):Option (List IV):=
 (dA a0).bind fun v1=>
 (gW a0 a2).bind fun v2=>
 af (nth v2 1) (fun _=>
 (cE (bQ (nth v1 0)) (nth v2 0)).bind fun v3=>
 (qA (nth v1 0) v3 1).bind fun v4=>
 (fP v4 (.lst [[a1]])).bind fun v5=>
 (cE (bQ (nth v1 0)) (nth v2 0)).bind fun v6=>
 (zy (nth v1 0) v6 1 [(nth v5 0)]).bind fun v7=>
 some [v7]) (fun _=>
 (aa .leq a1 (.int .i64 0)).bind fun v8=>
 af v8 (fun _=>
 some [(nth v1 0)]) (fun _=>
 (ay (iJ) a0 (.clo (.func kE) [(.ptr [a1,a2] 0)])).bind fun v9=>
 (aa .lss (nth v9 0) (.int .i64 0)).bind fun v10=>
 af v10 (fun _=>
 (bq a0).bind fun v11=>
 (cf (nth v1 0) v11 (.lst [[a2,a1]])).bind fun v12=>
 some [(nth v12 0)]) (fun _=>
 (cf (nth v1 0) (nth v9 0) (.lst [[a2,a1]])).bind fun v13=>
 some [(nth v13 0)])))
def vX (v1:IV) (a0:IV) (v2:List IV):Option SR:=
 (aa .lss (nth v2 1) v1).bind fun v3=>
 af v3 (fun _=>
 (dH a0 (nth v2 1) 6).bind fun v4=>
 (eR a0 v4 0 6).bind fun v5=>
 (gU (nth v2 0) (nth v5 0) (nth v5 1)).bind fun v6=>
 (aa .add (nth v2 1) (.int .i64 1)).bind fun v7=>
 some (.next [(nth v6 0),v7])) (fun _=>
 some (.done 0 [(nth v2 0)]))
def pC (a0:IV):Option (List IV):=
 (bq a0).bind fun v1=>
 (iter rounds (vX v1 a0) [(.lst []),(.int .i64 0)]).bind fun v8=>
 iA v8.1 [some [(nth v8.2 0)]]
def bF (C:IV->List Nat->List (List IV)->Option (List IV)) (a0 a1:IV):Option (List IV):=
 (ay C a0 a1).bind fun v1=>
 (aa .geq (nth v1 0) (.int .i64 0)).bind fun v2=>
 ai [v2]
def iO (a0 a1:IV):Option (List IV):=
 (gW a0 a1).bind fun v1=>
 af (nth v1 1) (fun _=>
 (dH a0 (nth v1 0) 2).bind fun v2=>
 (qA a0 v2 1).bind fun v3=>
 ai [v3]) (fun _=>
 ai [(.int .i64 0)])
def gC (a0 a1 a2 a3:IV):Option (List IV):=
 (gX a2 0).bind fun v1=>
 (iO v1 a0).bind fun v2=>
 (gX a3 0).bind fun v3=>
 (iO v3 a0).bind fun v4=>
 (aa .gtr (nth v2 0) (nth v4 0)).bind fun v5=>
 ai [v5]
def iL:IV->List Nat->List (List IV)->Option (List IV):=
 Fq kD [1] (fun caps l=>match caps,l with | [a2,a3],[[a0,a1]]=>gC a0 a1 a2 a3 | _,_=>none) <|
 fun _ _ _=>none
def jY (a0 a1:IV):Option (List IV):=
 (bF (iL) a0 (.clo (.func kD) [(.ptr [a0] 0),(.ptr [a1] 0)])).bind fun v1=>
 (rI .not (nth v1 0)).bind fun v2=>
 ai [v2]
def jU (a0:IV):Option (List IV):=
 (gY a0).bind fun v1=>
 (gX v1 3).bind fun v2=>
 (pC v2).bind fun v3=>
 (gY a0).bind fun v4=>
 (gX v4 4).bind fun v5=>
 (jY (nth v3 0) v5).bind fun v6=>
 ai [(nth v6 0)]
def ka (a0 a1 a2:IV):Option (List IV):=
 ((aa .geq a1 (.int .i64 1)).bind fun v1=>
 af v1 (fun _=>
 (aa .leq a1 (.int .i64 4611686018427387903)).bind fun v2=>
 af v2 (fun _=>
 (aa .geq a2 (.int .i64 1)).bind fun v3=>
 af v3 (fun _=>
 (aa .leq a2 (.int .i64 255)).bind fun v4=>
 af v4 (fun _=>
 (iO a0 a2).bind fun v5=>
 (aa .leq a1 (nth v5 0)).bind fun v6=>
 some [v6]) (fun _=>
 some [(.bool false)])) (fun _=>
 some [(.bool false)])) (fun _=>
 some [(.bool false)])) (fun _=>
 some [(.bool false)])).bind fun v7=>
 ai [(nth v7 0)]
def jS (a0:IV):Option (List IV):=
 ((gY a0).bind fun v1=>
 (uC v1 1 2).bind fun v2=>
 (KN .eql [.i,.i] [(nth v2 0),(nth v2 1)] [(.int .i64 0),(.int .i64 0)]).bind fun v3=>
 af v3 (fun _=>
 some [(.bool true)]) (fun _=>
 (gY a0).bind fun v4=>
 (gX v4 4).bind fun v5=>
 (gY a0).bind fun v6=>
 (uC v6 1 2).bind fun v7=>
 (ka v5 (nth v7 0) (nth v7 1)).bind fun v8=>
 some [(nth v8 0)])).bind fun v9=>
 ai [(nth v9 0)]
def bS (a0 a1 a2 a3 a4 a5 a6 a7:IV):Option (List IV):=
 (fi a0 a1 a2 a3).bind fun v1=>
 ai [(nth v1 0)]
def o8 (v1:IV) (a0:IV) (a1:IV) (a2:IV) (v2:List IV):Option SR:=
 (aa .lss (nth v2 1) v1).bind fun v3=>
 af v3 (fun _=>
 (dH a0 (nth v2 1) 6).bind fun v4=>
 (eR a0 v4 0 6).bind fun v5=>
 (bS a1 a2 (nth v5 0) (nth v5 1) (nth v5 2) (nth v5 3) (nth v5 4) (nth v5 5)).bind fun v6=>
 af (nth v6 0) (fun _=>
 (lY 6 56 (nth v2 0) (.lst [[(nth v5 0),(nth v5 1),(nth v5 2),(nth v5 3),(nth v5 4),(nth v5 5)]])).bind fun v7=>
 (aa .add (nth v2 1) (.int .i64 1)).bind fun v8=>
 some (.next [v7,v8])) (fun _=>
 (aa .add (nth v2 1) (.int .i64 1)).bind fun v9=>
 some (.next [(nth v2 0),v9]))) (fun _=>
 some (.done 0 [(nth v2 0)]))
def jP (a0 a1 a2:IV):Option (List IV):=
 (bq a0).bind fun v1=>
 (iter rounds (o8 v1 a0 a1 a2) [(.lst []),(.int .i64 0)]).bind fun v10=>
 iA v10.1 [some [(nth v10.2 0)]]
def j9 (a0:IV):Option (List IV):=
 (gY a0).bind fun v1=>
 (gX v1 3).bind fun v2=>
 (gY a0).bind fun v3=>
 (uC v3 1 2).bind fun v4=>
 (jP v2 (nth v4 0) (nth v4 1)).bind fun v5=>
 (bq (nth v5 0)).bind fun v6=>
 (gY a0).bind fun v7=>
 (gX v7 3).bind fun v8=>
 (bq v8).bind fun v9=>
 (aa .eql v6 v9).bind fun v10=>
 ai [v10]
def l9 (v1:IV) (a0:IV) (v2:List IV):Option SR:=
 (aa .lss (nth v2 1) v1).bind fun v3=>
 af v3 (fun _=>
 (dH a0 (nth v2 1) 4).bind fun v4=>
 (eR a0 v4 0 4).bind fun v5=>
 (zH (.int .i64) (nth v2 0) (nth v5 0) (.bool true)).bind fun v6=>
 (aa .add (nth v2 1) (.int .i64 1)).bind fun v7=>
 some (.next [v6,v7])) (fun _=>
 some (.done 0 [(nth v2 0)]))
def lW (v9:IV) (a3:IV) (v10:List IV):Option SR:=
 (aa .lss (nth v10 1) v9).bind fun v11=>
 af v11 (fun _=>
 (dH a3 (nth v10 1) 6).bind fun v12=>
 (eR a3 v12 0 6).bind fun v13=>
 (zH (.int .i64) (nth v10 0) (nth v13 3) (.bool true)).bind fun v14=>
 (aa .add (nth v10 1) (.int .i64 1)).bind fun v15=>
 some (.next [v14,v15])) (fun _=>
 some (.done 0 [(nth v10 0)]))
def dS (a0 a1 a2 a3 a4:IV):Option (List IV):=
 (bq a0).bind fun v1=>
 (iter rounds (l9 v1 a0) [(.map []),(.int .i64 0)]).bind fun v8=>
 iA v8.1 [(bq a3).bind fun v9=>
 (iter rounds (lW v9 a3) [(nth v8.2 0),(.int .i64 0)]).bind fun v16=>
 iA v16.1 [some [(nth v16.2 0)]]]
def kc (a0:IV):Option (List IV):=
 (uC a0 0 5).bind fun v1=>
 (dS (nth v1 0) (nth v1 1) (nth v1 2) (nth v1 3) (nth v1 4)).bind fun v2=>
 (DM (nth v2 0)).bind fun v3=>
 (aa .leq v3 (.int .i64 2000)).bind fun v4=>
 ai [v4]
def cM:IV->List Nat->List (List IV)->Option (List IV):=
 Fq kn [1] (fun caps l=>match caps,l with | [a0],[]=>jQ a0 | _,_=>none) <|
 Fq jV [1] (fun caps l=>match caps,l with | [a0],[]=>jU a0 | _,_=>none) <|
 Fq j6 [1] (fun caps l=>match caps,l with | [a0],[]=>jS a0 | _,_=>none) <|
 Fq jX [1] (fun caps l=>match caps,l with | [a0],[]=>j9 a0 | _,_=>none) <|
 Fq ko [1] (fun caps l=>match caps,l with | [a0],[]=>kc a0 | _,_=>none) <|
 fun _ _ _=>none
def ju (a0:IV) (a1:IV) (a2:IV) (a3:IV) (a4:IV) (v1:List IV):Option SR:=
 (aa .lss (nth v1 0) (.int .i64 (5:Nat))).bind fun v2=>
 af v2 (fun _=>
 (cE 5 (nth v1 0)).bind fun v3=>
 (qA (.lst [[(.clo (.func kn) [(.ptr [a0,a1,a2,a3,a4] 0)])],[(.clo (.func jV) [(.ptr [a0,a1,a2,a3,a4] 0)])],[(.clo (.func j6) [(.ptr [a0,a1,a2,a3,a4] 0)])],[(.clo (.func jX) [(.ptr [a0,a1,a2,a3,a4] 0)])],[(.clo (.func ko) [(.ptr [a0,a1,a2,a3,a4] 0)])]]) v3 0).bind fun v4=>
 ((cM) v4 [1] []).bind fun v5=>
 (rI .not (nth v5 0)).bind fun v6=>
 af v6 (fun _=>
 some (.done 1 [(.bool false)])) (fun _=>
 (aa .add (nth v1 0) (.int .i64 1)).bind fun v7=>
 some (.next [v7]))) (fun _=>
 some (.done 0 []))
def nO (a0 a1 a2 a3 a4:IV):Option (List IV):=
 (iter rounds (ju a0 a1 a2 a3 a4) [(.int .i64 0)]).bind fun v8=>
 iA v8.1 [ai [(.bool true)],
 ai [(nth v8.2 0)]]
def IC (a0:IV):Option (List IV):=
 (qQ a0).bind fun v1=>
 (mY .u64 v1).bind fun v2=>
 (pM v2).bind fun v3=>
 (aa .add (nth v3 0) a0).bind fun v4=>
 ai [v4]
def tq (a0:IV):Option (List IV):=
 ((aa .lss a0 (.flt .f64 0)).bind fun v1=>
 af v1 (fun _=>
 some [(.bool true)]) (fun _=>
 (aa .eql a0 (.flt .f64 0)).bind fun v2=>
 af v2 (fun _=>
 (aa .quo (.flt .f64 4607182418800017408) a0).bind fun v3=>
 (aa .lss v3 (.flt .f64 0)).bind fun v4=>
 some [v4]) (fun _=>
 some [(.bool false)]))).bind fun v5=>
 ai [(nth v5 0)]
def np:Option (List IV):=
 ai [(.int .i64 512),(.flt .f64 6913025428013711360),(.flt .f64 2301339409586323456),(.int .i64 256),(.flt .f64 5760103923406864384),(.flt .f64 3454260914193170432),(.int .i64 128),(.flt .f64 5183643171103440896),(.flt .f64 4030721666496593920),(.int .i64 64),(.flt .f64 4895412794951729152),(.flt .f64 4318952042648305664),(.int .i64 32),(.flt .f64 4751297606875873280),(.flt .f64 4463067230724161536),(.int .i64 16),(.flt .f64 4679240012837945344),(.flt .f64 4535124824762089472),(.int .i64 8),(.flt .f64 4643211215818981376),(.flt .f64 4571153621781053440),(.int .i64 4),(.flt .f64 4625196817309499392),(.flt .f64 4589168020290535424),(.int .i64 2),(.flt .f64 4616189618054758400),(.flt .f64 4598175219545276416),(.int .i64 1),(.flt .f64 4611686018427387904),(.flt .f64 4602678819172646912)]
def KA (v1:List IV) (v2:List IV):Option SR:=
 (aa .lss (nth v2 2) (.int .i64 10)).bind fun v3=>
 af v3 (fun _=>
 (cE 10 (nth v2 2)).bind fun v4=>
 (aa .geq (nth v2 0) (nth [(nth v1 0),(nth v1 1),(nth v1 2),(nth v1 3),(nth v1 4),(nth v1 5),(nth v1 6),(nth v1 7),(nth v1 8),(nth v1 9),(nth v1 10),(nth v1 11),(nth v1 12),(nth v1 13),(nth v1 14),(nth v1 15),(nth v1 16),(nth v1 17),(nth v1 18),(nth v1 19),(nth v1 20),(nth v1 21),(nth v1 22),(nth v1 23),(nth v1 24),(nth v1 25),(nth v1 26),(nth v1 27),(nth v1 28),(nth v1 29)] (v4*3+1))).bind fun v5=>
 af v5 (fun _=>
 (aa .mul (nth v2 0) (nth [(nth v1 0),(nth v1 1),(nth v1 2),(nth v1 3),(nth v1 4),(nth v1 5),(nth v1 6),(nth v1 7),(nth v1 8),(nth v1 9),(nth v1 10),(nth v1 11),(nth v1 12),(nth v1 13),(nth v1 14),(nth v1 15),(nth v1 16),(nth v1 17),(nth v1 18),(nth v1 19),(nth v1 20),(nth v1 21),(nth v1 22),(nth v1 23),(nth v1 24),(nth v1 25),(nth v1 26),(nth v1 27),(nth v1 28),(nth v1 29)] (v4*3+2))).bind fun v6=>
 (aa .add (nth v2 1) (nth [(nth v1 0),(nth v1 1),(nth v1 2),(nth v1 3),(nth v1 4),(nth v1 5),(nth v1 6),(nth v1 7),(nth v1 8),(nth v1 9),(nth v1 10),(nth v1 11),(nth v1 12),(nth v1 13),(nth v1 14),(nth v1 15),(nth v1 16),(nth v1 17),(nth v1 18),(nth v1 19),(nth v1 20),(nth v1 21),(nth v1 22),(nth v1 23),(nth v1 24),(nth v1 25),(nth v1 26),(nth v1 27),(nth v1 28),(nth v1 29)] (v4*3+0))).bind fun v7=>
 (aa .lss v6 (nth [(nth v1 0),(nth v1 1),(nth v1 2),(nth v1 3),(nth v1 4),(nth v1 5),(nth v1 6),(nth v1 7),(nth v1 8),(nth v1 9),(nth v1 10),(nth v1 11),(nth v1 12),(nth v1 13),(nth v1 14),(nth v1 15),(nth v1 16),(nth v1 17),(nth v1 18),(nth v1 19),(nth v1 20),(nth v1 21),(nth v1 22),(nth v1 23),(nth v1 24),(nth v1 25),(nth v1 26),(nth v1 27),(nth v1 28),(nth v1 29)] (v4*3+2))).bind fun v8=>
 af v8 (fun _=>
 (aa .mul v6 (nth [(nth v1 0),(nth v1 1),(nth v1 2),(nth v1 3),(nth v1 4),(nth v1 5),(nth v1 6),(nth v1 7),(nth v1 8),(nth v1 9),(nth v1 10),(nth v1 11),(nth v1 12),(nth v1 13),(nth v1 14),(nth v1 15),(nth v1 16),(nth v1 17),(nth v1 18),(nth v1 19),(nth v1 20),(nth v1 21),(nth v1 22),(nth v1 23),(nth v1 24),(nth v1 25),(nth v1 26),(nth v1 27),(nth v1 28),(nth v1 29)] (v4*3+1))).bind fun v9=>
 (aa .sub v7 (nth [(nth v1 0),(nth v1 1),(nth v1 2),(nth v1 3),(nth v1 4),(nth v1 5),(nth v1 6),(nth v1 7),(nth v1 8),(nth v1 9),(nth v1 10),(nth v1 11),(nth v1 12),(nth v1 13),(nth v1 14),(nth v1 15),(nth v1 16),(nth v1 17),(nth v1 18),(nth v1 19),(nth v1 20),(nth v1 21),(nth v1 22),(nth v1 23),(nth v1 24),(nth v1 25),(nth v1 26),(nth v1 27),(nth v1 28),(nth v1 29)] (v4*3+0))).bind fun v10=>
 (aa .add (nth v2 2) (.int .i64 1)).bind fun v11=>
 some (.next [v9,v10,v11])) (fun _=>
 (aa .add (nth v2 2) (.int .i64 1)).bind fun v12=>
 some (.next [v6,v7,v12]))) (fun _=>
 (aa .lss (nth v2 0) (nth [(nth v1 0),(nth v1 1),(nth v1 2),(nth v1 3),(nth v1 4),(nth v1 5),(nth v1 6),(nth v1 7),(nth v1 8),(nth v1 9),(nth v1 10),(nth v1 11),(nth v1 12),(nth v1 13),(nth v1 14),(nth v1 15),(nth v1 16),(nth v1 17),(nth v1 18),(nth v1 19),(nth v1 20),(nth v1 21),(nth v1 22),(nth v1 23),(nth v1 24),(nth v1 25),(nth v1 26),(nth v1 27),(nth v1 28),(nth v1 29)] (v4*3+2))).bind fun v13=>
 af v13 (fun _=>
 (aa .mul (nth v2 0) (nth [(nth v1 0),(nth v1 1),(nth v1 2),(nth v1 3),(nth v1 4),(nth v1 5),(nth v1 6),(nth v1 7),(nth v1 8),(nth v1 9),(nth v1 10),(nth v1 11),(nth v1 12),(nth v1 13),(nth v1 14),(nth v1 15),(nth v1 16),(nth v1 17),(nth v1 18),(nth v1 19),(nth v1 20),(nth v1 21),(nth v1 22),(nth v1 23),(nth v1 24),(nth v1 25),(nth v1 26),(nth v1 27),(nth v1 28),(nth v1 29)] (v4*3+1))).bind fun v14=>
 (aa .sub (nth v2 1) (nth [(nth v1 0),(nth v1 1),(nth v1 2),(nth v1 3),(nth v1 4),(nth v1 5),(nth v1 6),(nth v1 7),(nth v1 8),(nth v1 9),(nth v1 10),(nth v1 11),(nth v1 12),(nth v1 13),(nth v1 14),(nth v1 15),(nth v1 16),(nth v1 17),(nth v1 18),(nth v1 19),(nth v1 20),(nth v1 21),(nth v1 22),(nth v1 23),(nth v1 24),(nth v1 25),(nth v1 26),(nth v1 27),(nth v1 28),(nth v1 29)] (v4*3+0))).bind fun v15=>
 (aa .add (nth v2 2) (.int .i64 1)).bind fun v16=>
 some (.next [v14,v15,v16])) (fun _=>
 (aa .add (nth v2 2) (.int .i64 1)).bind fun v17=>
 some (.next [(nth v2 0),(nth v2 1),v17])))) (fun _=>
 some (.done 0 [(nth v2 0),(nth v2 1)]))
def IJ (v19:List IV):Option SR:=
 (aa .geq (nth v19 0) (.flt .f64 4611686018427387904)).bind fun v20=>
 af v20 (fun _=>
 (aa .mul (nth v19 0) (.flt .f64 4602678819172646912)).bind fun v21=>
 (aa .add (nth v19 1) (.int .i64 1)).bind fun v22=>
 some (.next [v21,v22])) (fun _=>
 some (.done 0 [(nth v19 0),(nth v19 1)]))
def FP (v24:List IV):Option SR:=
 (aa .lss (nth v24 0) (.flt .f64 4607182418800017408)).bind fun v25=>
 af v25 (fun _=>
 (aa .mul (nth v24 0) (.flt .f64 4611686018427387904)).bind fun v26=>
 (aa .sub (nth v24 1) (.int .i64 1)).bind fun v27=>
 some (.next [v26,v27])) (fun _=>
 some (.done 0 [(nth v24 0),(nth v24 1)]))
def oM (a0:IV):Option (List IV):=
 (np).bind fun v1=>
 (iter rounds (KA v1) [a0,(.int .i64 0),(.int .i64 0)]).bind fun v18=>
 iA v18.1 [(iter rounds (IJ) [(nth v18.2 0),(nth v18.2 1)]).bind fun v23=>
 iA v23.1 [(iter rounds (FP) [(nth v23.2 0),(nth v23.2 1)]).bind fun v28=>
 iA v28.1 [ai [(nth v28.2 0),(nth v28.2 1)]]]]
def qx (a0:IV):Option (List IV):=
 (tq a0).bind fun v1=>
 af (nth v1 0) (fun _=>
 (rI .neg a0).bind fun v2=>
 (aa .neq v2 v2).bind fun v3=>
 af v3 (fun _=>
 ai [(.int .u64 9221120237041090560)]) (fun _=>
 (aa .eql v2 (.flt .f64 0)).bind fun v4=>
 af v4 (fun _=>
 ai [(.int .u64 9223372036854775808)]) (fun _=>
 (aa .mul v2 (.flt .f64 4611686018427387904)).bind fun v5=>
 (aa .eql v2 v5).bind fun v6=>
 af v6 (fun _=>
 (aa .or (.int .u64 9223372036854775808) (.int .u64 9218868437227405312)).bind fun v7=>
 ai [v7]) (fun _=>
 (oM v2).bind fun v8=>
 (aa .mul (nth v8 0) (.flt .f64 4841369599423283200)).bind fun v9=>
 (zk .u64 v9).bind fun v10=>
 (aa .add (nth v8 1) (.int .i64 1023)).bind fun v11=>
 (aa .gtr v11 (.int .i64 0)).bind fun v12=>
 af v12 (fun _=>
 (mY .u64 v11).bind fun v13=>
 (aa .shl v13 (.int .u64 52)).bind fun v14=>
 (aa .or (.int .u64 9223372036854775808) v14).bind fun v15=>
 (aa .and v10 (.int .u64 4503599627370495)).bind fun v16=>
 (aa .or v15 v16).bind fun v17=>
 ai [v17]) (fun _=>
 (aa .sub (.int .i64 1) (nth v8 1)).bind fun v18=>
 (aa .sub v18 (.int .i64 1023)).bind fun v19=>
 (aa .shr v10 v19).bind fun v20=>
 (aa .or (.int .u64 9223372036854775808) v20).bind fun v21=>
 ai [v21]))))) (fun _=>
 (aa .neq a0 a0).bind fun v22=>
 af v22 (fun _=>
 ai [(.int .u64 9221120237041090560)]) (fun _=>
 (aa .eql a0 (.flt .f64 0)).bind fun v23=>
 af v23 (fun _=>
 ai [(.int .u64 0)]) (fun _=>
 (aa .mul a0 (.flt .f64 4611686018427387904)).bind fun v24=>
 (aa .eql a0 v24).bind fun v25=>
 af v25 (fun _=>
 (aa .or (.int .u64 0) (.int .u64 9218868437227405312)).bind fun v26=>
 ai [v26]) (fun _=>
 (oM a0).bind fun v27=>
 (aa .mul (nth v27 0) (.flt .f64 4841369599423283200)).bind fun v28=>
 (zk .u64 v28).bind fun v29=>
 (aa .add (nth v27 1) (.int .i64 1023)).bind fun v30=>
 (aa .gtr v30 (.int .i64 0)).bind fun v31=>
 af v31 (fun _=>
 (mY .u64 v30).bind fun v32=>
 (aa .shl v32 (.int .u64 52)).bind fun v33=>
 (aa .or (.int .u64 0) v33).bind fun v34=>
 (aa .and v29 (.int .u64 4503599627370495)).bind fun v35=>
 (aa .or v34 v35).bind fun v36=>
 ai [v36]) (fun _=>
 (aa .sub (.int .i64 1) (nth v27 1)).bind fun v37=>
 (aa .sub v37 (.int .i64 1023)).bind fun v38=>
 (aa .shr v29 v38).bind fun v39=>
 (aa .or (.int .u64 0) v39).bind fun v40=>
 ai [v40])))))
def wm (v1:IV) (a0:IV) (a1:IV) (v2:List IV):Option SR:=
 (aa .lss (nth v2 0) v1).bind fun v3=>
 af v3 (fun _=>
 (dH a0 (nth v2 0) 1).bind fun v4=>
 (qA a0 v4 0).bind fun v5=>
 (Hd .eql a1 v5).bind fun v6=>
 af v6 (fun _=>
 some (.done 1 [(nth v2 0)])) (fun _=>
 (aa .add (nth v2 0) (.int .i64 1)).bind fun v7=>
 some (.next [v7]))) (fun _=>
 some (.done 0 []))
def jE (a0 a1:IV):Option (List IV):=
 (bq a0).bind fun v1=>
 (iter rounds (wm v1 a0 a1) [(.int .i64 0)]).bind fun v8=>
 iA v8.1 [ai [(.int .i64 (-1))],
 ai [(nth v8.2 0)]]
def CI (v1:List IV):Option SR:=
 (bq (nth v1 0)).bind fun v2=>
 (aa .gtr v2 (.int .i64 0)).bind fun v3=>
 af v3 (fun _=>
 (rI .not (nth v1 2)).bind fun v4=>
 (rI .not v4).bind fun v5=>
 (jE (nth v1 0) v5).bind fun v6=>
 (aa .lss (nth v6 0) (.int .i64 0)).bind fun v7=>
 af v7 (fun _=>
 (bq (nth v1 0)).bind fun v8=>
 (D8 1 (nth v1 0) (some v8) none).bind fun v9=>
 (lY 1 8 (nth v1 1) (.lst [[v8]])).bind fun v10=>
 some (.next [v9,v10,v4])) (fun _=>
 (D8 1 (nth v1 0) (some (nth v6 0)) none).bind fun v11=>
 (lY 1 8 (nth v1 1) (.lst [[(nth v6 0)]])).bind fun v12=>
 some (.next [v11,v12,v4]))) (fun _=>
 some (.done 0 [(nth v1 1)]))
def ou (a0:IV):Option (List IV):=
 (iter rounds (CI) [a0,(.lst []),(.bool true)]).bind fun v13=>
 iA v13.1 [some [(nth v13.2 0)]]
def E9 (v2:IV) (v1:List IV) (v3:List IV):Option SR:=
 (aa .lss (nth v3 2) v2).bind fun v4=>
 af v4 (fun _=>
 (dH (nth v1 0) (nth v3 2) 1).bind fun v5=>
 (qA (nth v1 0) v5 0).bind fun v6=>
 (mY .u64 v6).bind fun v7=>
 (pM v7).bind fun v8=>
 (QS [[.nilp,(nth v3 1)],[(nth v8 0)]]).bind fun v9=>
 (aa .add (nth v3 2) (.int .i64 1)).bind fun v10=>
 some (.next [.nilp,(nth v9 1),v10])) (fun _=>
 some (.done 0 [.nilp,(nth v3 1)]))
def wV (a0:IV):Option (List IV):=
 (ou a0).bind fun v1=>
 (bq (nth v1 0)).bind fun v2=>
 (iter rounds (E9 v2 v1) [.nilp,(.lst []),(.int .i64 0)]).bind fun v11=>
 iA v11.1 [(xn (nth v11.2 1)).bind fun v12=>
 ai [v12]]
def QW (v10:List IV):Option SR:=
 (aa .lss (nth v10 1) (.int .i64 8)).bind fun v11=>
 af v11 (fun _=>
 (aa .shr (nth v10 0) (.int .u64 1)).bind fun v12=>
 (aa .and (nth v10 0) (.int .u32 1)).bind fun v13=>
 (rI .neg v13).bind fun v14=>
 (aa .and (.int .u32 3988292384) v14).bind fun v15=>
 (aa .xor v12 v15).bind fun v16=>
 (aa .add (nth v10 1) (.int .i64 1)).bind fun v17=>
 some (.next [v16,v17])) (fun _=>
 some (.done 0 [(nth v10 0)]))
def Ri (v3:IV) (v2:IV) (v4:List IV):Option SR:=
 (aa .lss (nth v4 1) v3).bind fun v5=>
 af v5 (fun _=>
 (dH v2 (nth v4 1) 1).bind fun v6=>
 (qA v2 v6 0).bind fun v7=>
 (mY .u32 v7).bind fun v8=>
 (aa .xor (nth v4 0) v8).bind fun v9=>
 (iter rounds (QW) [v9,(.int .i64 0)]).bind fun v18=>
 iA v18.1 [(aa .add (nth v4 1) (.int .i64 1)).bind fun v19=>
 some (.next [(nth v18.2 0),v19])]) (fun _=>
 some (.done 0 [(nth v4 0)]))
def z7 (a0 a1:IV):Option (List IV):=
 (aa .xor a0 (.int .u32 4294967295)).bind fun v1=>
 (Se a1).bind fun v2=>
 (bq v2).bind fun v3=>
 (iter rounds (Ri v3 v2) [v1,(.int .i64 0)]).bind fun v20=>
 iA v20.1 [(aa .xor (nth v20.2 0) (.int .u32 4294967295)).bind fun v21=>
 ai [v21]]
def Lh (a0:IV):Option (List IV):=
 (z7 (.int .u32 0) a0).bind fun v1=>
 ai [(nth v1 0)]
def Jn (v1:IV) (a0:IV) (v2:List IV):Option SR:=
 (aa .lss (nth v2 1) (.int .i64 ((bQ v1):Nat))).bind fun v3=>
 af v3 (fun _=>
 (aa .mul (.int .i64 8) (nth v2 1)).bind fun v4=>
 (aa .shr a0 v4).bind fun v5=>
 (mY .u8 v5).bind fun v6=>
 (cE (bQ (nth v2 0)) (nth v2 1)).bind fun v7=>
 (zy (nth v2 0) v7 0 [v6]).bind fun v8=>
 (aa .add (nth v2 1) (.int .i64 1)).bind fun v9=>
 some (.next [v8,v9])) (fun _=>
 some (.done 0 [(nth v2 0)]))
def Aj (a0:IV):Option (List IV):=
 (TT 1 [(.int .u8 0)] (.int .i64 8) (.int .i64 8)).bind fun v1=>
 (iter rounds (Jn v1 a0) [v1,(.int .i64 0)]).bind fun v10=>
 iA v10.1 [(xn (nth v10.2 0)).bind fun v11=>
 ai [v11]]
def pt (a0:IV):Option (List IV):=
 some [a0,(.int .i64 0)]
def dM (a0 a1:IV):Option (List IV):=
 (rI .not a0).bind fun v1=>
 af v1 (fun _=>
 none) (fun _=>
 ai [])
def kK (a0 a1 a2:IV):Option (List IV):=
 ((aa .neq a1 (.int .i64 0)).bind fun v1=>
 some [v1]).bind fun v2=>
 af (nth v2 0) (fun _=>
 some [a0,a1,(.str ⟨#[]⟩)]) (fun _=>
 ((aa .geq a2 (.int .i64 0)).bind fun v3=>
 af v3 (fun _=>
 (qQ a0).bind fun v4=>
 (aa .leq a2 v4).bind fun v5=>
 (dM v5 (.int .i64 2)).bind fun v6=>
 some ([]:List IV)) (fun _=>
 (dM (.bool false) (.int .i64 2)).bind fun v7=>
 some ([]:List IV))).bind fun v8=>
 (yT a0 none (some a2)).bind fun v9=>
 (yT a0 (some a2) none).bind fun v10=>
 some [v10,a1,v9])
def iG (a0:IV) (v3:List IV):Option SR:=
 (qQ a0).bind fun v4=>
 (aa .lss (nth v3 2) v4).bind fun v5=>
 (dM v5 (.int .i64 2)).bind fun v6=>
 (SN a0 (nth v3 2)).bind fun v7=>
 ((aa .lss (nth v3 2) (.int .i64 9)).bind fun v8=>
 af v8 (fun _=>
 (aa .eql (nth v3 2) (.int .i64 0)).bind fun v9=>
 af v9 (fun _=>
 (dM (.bool true) (.int .i64 3)).bind fun v10=>
 some ([]:List IV)) (fun _=>
 (aa .neq v7 (.int .u8 0)).bind fun v11=>
 (dM v11 (.int .i64 3)).bind fun v12=>
 some ([]:List IV))) (fun _=>
 (aa .leq v7 (.int .u8 1)).bind fun v13=>
 af v13 (fun _=>
 (aa .eql (nth v3 2) (.int .i64 0)).bind fun v14=>
 af v14 (fun _=>
 (dM (.bool true) (.int .i64 3)).bind fun v15=>
 some ([]:List IV)) (fun _=>
 (aa .neq v7 (.int .u8 0)).bind fun v16=>
 (dM v16 (.int .i64 3)).bind fun v17=>
 some ([]:List IV))) (fun _=>
 (dM (.bool false) (.int .i64 3)).bind fun v18=>
 some ([]:List IV)))).bind fun v19=>
 (aa .andNot v7 (.int .u8 128)).bind fun v20=>
 (mY .u64 v20).bind fun v21=>
 (aa .mul (.int .i64 7) (nth v3 2)).bind fun v22=>
 (aa .shl v21 v22).bind fun v23=>
 (aa .or (nth v3 1) v23).bind fun v24=>
 (aa .lss v7 (.int .u8 128)).bind fun v25=>
 af v25 (fun _=>
 (aa .add (nth v3 2) (.int .i64 1)).bind fun v26=>
 (yT a0 (some v26) none).bind fun v27=>
 some (.done 0 [v24,v27])) (fun _=>
 (aa .add (nth v3 2) (.int .i64 1)).bind fun v28=>
 some (.next [(nth v3 0),v24,v28]))
def e7 (a0 a1:IV):Option (List IV):=
 ((aa .neq a1 (.int .i64 0)).bind fun v1=>
 some [v1]).bind fun v2=>
 af (nth v2 0) (fun _=>
 some [a0,a1,(.int .u64 0)]) (fun _=>
 (iter rounds (iG a0) [(.int .u64 0),(.int .u64 0),(.int .i64 0)]).bind fun v29=>
 iA v29.1 [some [(nth v29.2 1),a1,(nth v29.2 0)]])
def ED (a0:IV) (v1:List IV):Option SR:=
 (bq a0).bind fun v2=>
 (aa .lss (nth v1 0) v2).bind fun v3=>
 af v3 (fun _=>
 (dH a0 (nth v1 0) 1).bind fun v4=>
 (qA a0 v4 0).bind fun v5=>
 (aa .sub (nth v1 0) (.int .i64 1)).bind fun v6=>
 (dH a0 v6 1).bind fun v7=>
 (qA a0 v7 0).bind fun v8=>
 (aa .leq v5 v8).bind fun v9=>
 af v9 (fun _=>
 some (.done 1 [(.bool false)])) (fun _=>
 (aa .add (nth v1 0) (.int .i64 1)).bind fun v10=>
 some (.next [v10]))) (fun _=>
 some (.done 0 []))
def xp (a0:IV):Option (List IV):=
 (iter rounds (ED a0) [(.int .i64 1)]).bind fun v11=>
 iA v11.1 [ai [(.bool true)],
 ai [(nth v11.2 0)]]
def tM (a0 a1:IV):Option (List IV):=
 (aa .and a0 (.int .u64 4294967295)).bind fun v1=>
 (aa .shr a0 (.int .u64 32)).bind fun v2=>
 (aa .and a1 (.int .u64 4294967295)).bind fun v3=>
 (aa .shr a1 (.int .u64 32)).bind fun v4=>
 (aa .mul v1 v3).bind fun v5=>
 (aa .mul v2 v3).bind fun v6=>
 (aa .shr v5 (.int .u64 32)).bind fun v7=>
 (aa .add v6 v7).bind fun v8=>
 (aa .and v8 (.int .u64 4294967295)).bind fun v9=>
 (aa .shr v8 (.int .u64 32)).bind fun v10=>
 (aa .mul v1 v4).bind fun v11=>
 (aa .add v9 v11).bind fun v12=>
 (aa .mul v2 v4).bind fun v13=>
 (aa .add v13 v10).bind fun v14=>
 (aa .shr v12 (.int .u64 32)).bind fun v15=>
 (aa .add v14 v15).bind fun v16=>
 (aa .mul a0 a1).bind fun v17=>
 ai [v16,v17]
def Bp (a0 a1:IV):Option (List IV):=
 (mY .u64 a0).bind fun v1=>
 (mY .u64 a1).bind fun v2=>
 (aa .mul v1 v2).bind fun v3=>
 (aa .shr v3 (.int .u64 32)).bind fun v4=>
 (mY .u32 v4).bind fun v5=>
 (mY .u32 v3).bind fun v6=>
 ai [v5,v6]
def Iq (a0 a1:IV):Option (List IV):=
 (tM a0 a1).bind fun v1=>
 ai [(nth v1 0),(nth v1 1)]
def GG (v1:IV) (a0:IV) (v2:List IV):Option SR:=
 (aa .lss (nth v2 1) v1).bind fun v3=>
 af v3 (fun _=>
 (dH a0 (nth v2 1) 1).bind fun v4=>
 (qA a0 v4 0).bind fun v5=>
 af v5 (fun _=>
 (aa .add (nth v2 0) (.int .i64 1)).bind fun v6=>
 (aa .add (nth v2 1) (.int .i64 1)).bind fun v7=>
 some (.next [v6,v7])) (fun _=>
 (aa .add (nth v2 1) (.int .i64 1)).bind fun v8=>
 some (.next [(nth v2 0),v8]))) (fun _=>
 some (.done 0 [(nth v2 0)]))
def yJ (a0:IV):Option (List IV):=
 (bq a0).bind fun v1=>
 (iter rounds (GG v1 a0) [(.int .i64 0),(.int .i64 0)]).bind fun v9=>
 iA v9.1 [ai [(nth v9.2 0)]]
def Bz (a0:IV):Option (List IV):=
 ((aa .shr a0 (.int .u64 52)).bind fun v1=>
 (aa .and v1 (.int .u64 2047)).bind fun v2=>
 (aa .neq v2 (.int .u64 2047)).bind fun v3=>
 af v3 (fun _=>
 some [(.bool true)]) (fun _=>
 (aa .and a0 (.int .u64 4503599627370495)).bind fun v4=>
 (aa .eql v4 (.int .u64 0)).bind fun v5=>
 af v5 (fun _=>
 some [(.bool true)]) (fun _=>
 (aa .eql a0 (.int .u64 9221120237041090560)).bind fun v6=>
 some [v6]))).bind fun v7=>
 ai [(nth v7 0)]
def JN (v1:List IV) (v4:Nat) (v5:List IV):Option SR:=
 (aa .geq (nth v5 1) (nth [(nth v1 0),(nth v1 1),(nth v1 2),(nth v1 3),(nth v1 4),(nth v1 5),(nth v1 6),(nth v1 7),(nth v1 8),(nth v1 9),(nth v1 10),(nth v1 11),(nth v1 12),(nth v1 13),(nth v1 14),(nth v1 15),(nth v1 16),(nth v1 17),(nth v1 18),(nth v1 19),(nth v1 20),(nth v1 21),(nth v1 22),(nth v1 23),(nth v1 24),(nth v1 25),(nth v1 26),(nth v1 27),(nth v1 28),(nth v1 29)] (v4*3+0))).bind fun v6=>
 af v6 (fun _=>
 (aa .mul (nth v5 0) (nth [(nth v1 0),(nth v1 1),(nth v1 2),(nth v1 3),(nth v1 4),(nth v1 5),(nth v1 6),(nth v1 7),(nth v1 8),(nth v1 9),(nth v1 10),(nth v1 11),(nth v1 12),(nth v1 13),(nth v1 14),(nth v1 15),(nth v1 16),(nth v1 17),(nth v1 18),(nth v1 19),(nth v1 20),(nth v1 21),(nth v1 22),(nth v1 23),(nth v1 24),(nth v1 25),(nth v1 26),(nth v1 27),(nth v1 28),(nth v1 29)] (v4*3+1))).bind fun v7=>
 (aa .sub (nth v5 1) (nth [(nth v1 0),(nth v1 1),(nth v1 2),(nth v1 3),(nth v1 4),(nth v1 5),(nth v1 6),(nth v1 7),(nth v1 8),(nth v1 9),(nth v1 10),(nth v1 11),(nth v1 12),(nth v1 13),(nth v1 14),(nth v1 15),(nth v1 16),(nth v1 17),(nth v1 18),(nth v1 19),(nth v1 20),(nth v1 21),(nth v1 22),(nth v1 23),(nth v1 24),(nth v1 25),(nth v1 26),(nth v1 27),(nth v1 28),(nth v1 29)] (v4*3+0))).bind fun v8=>
 some (.next [v7,v8])) (fun _=>
 some (.done 0 [(nth v5 0),(nth v5 1)]))
def Kf (v1:List IV) (v4:Nat) (v10:List IV):Option SR:=
 (rI .neg (nth [(nth v1 0),(nth v1 1),(nth v1 2),(nth v1 3),(nth v1 4),(nth v1 5),(nth v1 6),(nth v1 7),(nth v1 8),(nth v1 9),(nth v1 10),(nth v1 11),(nth v1 12),(nth v1 13),(nth v1 14),(nth v1 15),(nth v1 16),(nth v1 17),(nth v1 18),(nth v1 19),(nth v1 20),(nth v1 21),(nth v1 22),(nth v1 23),(nth v1 24),(nth v1 25),(nth v1 26),(nth v1 27),(nth v1 28),(nth v1 29)] (v4*3+0))).bind fun v11=>
 (aa .leq (nth v10 1) v11).bind fun v12=>
 af v12 (fun _=>
 (aa .mul (nth v10 0) (nth [(nth v1 0),(nth v1 1),(nth v1 2),(nth v1 3),(nth v1 4),(nth v1 5),(nth v1 6),(nth v1 7),(nth v1 8),(nth v1 9),(nth v1 10),(nth v1 11),(nth v1 12),(nth v1 13),(nth v1 14),(nth v1 15),(nth v1 16),(nth v1 17),(nth v1 18),(nth v1 19),(nth v1 20),(nth v1 21),(nth v1 22),(nth v1 23),(nth v1 24),(nth v1 25),(nth v1 26),(nth v1 27),(nth v1 28),(nth v1 29)] (v4*3+2))).bind fun v13=>
 (aa .add (nth v10 1) (nth [(nth v1 0),(nth v1 1),(nth v1 2),(nth v1 3),(nth v1 4),(nth v1 5),(nth v1 6),(nth v1 7),(nth v1 8),(nth v1 9),(nth v1 10),(nth v1 11),(nth v1 12),(nth v1 13),(nth v1 14),(nth v1 15),(nth v1 16),(nth v1 17),(nth v1 18),(nth v1 19),(nth v1 20),(nth v1 21),(nth v1 22),(nth v1 23),(nth v1 24),(nth v1 25),(nth v1 26),(nth v1 27),(nth v1 28),(nth v1 29)] (v4*3+0))).bind fun v14=>
 some (.next [v13,v14])) (fun _=>
 some (.done 0 [(nth v10 0),(nth v10 1)]))
def JX (v1:List IV) (v2:List IV):Option SR:=
 (aa .lss (nth v2 2) (.int .i64 10)).bind fun v3=>
 af v3 (fun _=>
 (cE 10 (nth v2 2)).bind fun v4=>
 (iter rounds (JN v1 v4) [(nth v2 0),(nth v2 1)]).bind fun v9=>
 iA v9.1 [(iter rounds (Kf v1 v4) [(nth v9.2 0),(nth v9.2 1)]).bind fun v15=>
 iA v15.1 [(aa .add (nth v2 2) (.int .i64 1)).bind fun v16=>
 some (.next [(nth v15.2 0),(nth v15.2 1),v16])]]) (fun _=>
 some (.done 0 [(nth v2 0)]))
def oW (a0 a1:IV):Option (List IV):=
 (np).bind fun v1=>
 (iter rounds (JX v1) [a0,a1,(.int .i64 0)]).bind fun v17=>
 iA v17.1 [ai [(nth v17.2 0)]]
def AL (a0:IV):Option (List IV):=
 (aa .shr a0 (.int .u64 52)).bind fun v1=>
 (aa .and v1 (.int .u64 2047)).bind fun v2=>
 (mY .i64 v2).bind fun v3=>
 (aa .and a0 (.int .u64 4503599627370495)).bind fun v4=>
 ((aa .eql v3 (.int .i64 2047)).bind fun v5=>
 af v5 (fun _=>
 (aa .neq v4 (.int .u64 0)).bind fun v6=>
 some [v6]) (fun _=>
 some [(.bool false)])).bind fun v7=>
 af (nth v7 0) (fun _=>
 (aa .quo (.flt .f64 0) (.flt .f64 0)).bind fun v8=>
 ai [v8]) (fun _=>
 (aa .eql v3 (.int .i64 2047)).bind fun v9=>
 af v9 (fun _=>
 (aa .quo (.flt .f64 4607182418800017408) (.flt .f64 0)).bind fun v10=>
 (aa .and a0 (.int .u64 9223372036854775808)).bind fun v11=>
 (aa .neq v11 (.int .u64 0)).bind fun v12=>
 af v12 (fun _=>
 (rI .neg v10).bind fun v13=>
 ai [v13]) (fun _=>
 ai [v10])) (fun _=>
 (aa .eql v3 (.int .i64 0)).bind fun v14=>
 af v14 (fun _=>
 (V4 .f64 v4).bind fun v15=>
 (oW v15 (.int .i64 (-1074))).bind fun v16=>
 (aa .and a0 (.int .u64 9223372036854775808)).bind fun v17=>
 (aa .neq v17 (.int .u64 0)).bind fun v18=>
 af v18 (fun _=>
 (rI .neg (nth v16 0)).bind fun v19=>
 ai [v19]) (fun _=>
 ai [(nth v16 0)])) (fun _=>
 (aa .or v4 (.int .u64 4503599627370496)).bind fun v20=>
 (V4 .f64 v20).bind fun v21=>
 (aa .sub v3 (.int .i64 1023)).bind fun v22=>
 (aa .sub v22 (.int .i64 52)).bind fun v23=>
 (oW v21 v23).bind fun v24=>
 (aa .and a0 (.int .u64 9223372036854775808)).bind fun v25=>
 (aa .neq v25 (.int .u64 0)).bind fun v26=>
 af v26 (fun _=>
 (rI .neg (nth v24 0)).bind fun v27=>
 ai [v27]) (fun _=>
 ai [(nth v24 0)]))))
def D6 (a0 a1:IV):Option (List IV):=
 (qx a0).bind fun v1=>
 (qx a1).bind fun v2=>
 (aa .eql (nth v1 0) (nth v2 0)).bind fun v3=>
 ai [v3]
def Ae (a0:IV):Option (List IV):=
 (aa .shr a0 (.int .u64 1)).bind fun v1=>
 (mY .i64 v1).bind fun v2=>
 (aa .and a0 (.int .u64 1)).bind fun v3=>
 (mY .i64 v3).bind fun v4=>
 (rI .neg v4).bind fun v5=>
 (aa .xor v2 v5).bind fun v6=>
 ai [v6]
def lH (a0 a1:IV):Option (List IV):=
 (e7 a0 a1).bind fun v1=>
 (Ae (nth (v1.drop 2) 0)).bind fun v2=>
 some [(nth v1 0),(nth v1 1),(nth v2 0)]
def oE:Option (List IV):=
 none
def Jg (v1:IV) (a0:IV) (v2:List IV):Option SR:=
 (aa .lss (nth v2 2) v1).bind fun v3=>
 af v3 (fun _=>
 (dH a0 (nth v2 2) 1).bind fun v4=>
 (qA a0 v4 0).bind fun v5=>
 (aa .add (nth v2 1) v5).bind fun v6=>
 (lY 1 8 (nth v2 0) (.lst [[v6]])).bind fun v7=>
 (aa .add (nth v2 2) (.int .i64 1)).bind fun v8=>
 some (.next [v7,v6,v8])) (fun _=>
 some (.done 0 [(nth v2 0)]))
def s9 (a0:IV):Option (List IV):=
 (bq a0).bind fun v1=>
 (iter rounds (Jg v1 a0) [(.lst []),(.int .i64 0),(.int .i64 0)]).bind fun v9=>
 iA v9.1 [some [(nth v9.2 0)]]
def kb (a0 a1 a2 a3 a4 a5 a6:IV):Option (List IV):=
 ((aa .eql a4 (.int .i64 0)).bind fun v1=>
 af v1 (fun _=>
 some [(.bool true)]) (fun _=>
 (aa .eql a4 a3).bind fun v2=>
 af v2 (fun _=>
 some [(.bool true)]) (fun _=>
 (oT a0 a4 a3).bind fun v3=>
 some [(nth v3 0)]))).bind fun v4=>
 ai [(nth v4 0)]
def o4 (a0 a1 a2 a3 a4 a5 a6:IV):Option (List IV):=
 (kb a0 a1 a2 a3 a4 a5 a6).bind fun v1=>
 af (nth v1 0) (fun _=>
 some [a0,(.bool false)]) (fun _=>
 (ll a1 a2 a3 a4 a5 a6).bind fun v2=>
 (mV a0 (nth v2 0) (nth v2 1) (nth v2 2) (nth v2 3)).bind fun v3=>
 some [(nth v3 0),(.bool true)])
def vJ (v1:IV) (a1:IV) (v2:List IV):Option SR:=
 (aa .lss (nth v2 1) v1).bind fun v3=>
 af v3 (fun _=>
 (dH a1 (nth v2 1) 6).bind fun v4=>
 (eR a1 v4 0 6).bind fun v5=>
 (o4 (nth v2 0) (nth v5 0) (nth v5 1) (nth v5 2) (nth v5 3) (nth v5 4) (nth v5 5)).bind fun v6=>
 (aa .add (nth v2 1) (.int .i64 1)).bind fun v7=>
 some (.next [(nth v6 0),v7])) (fun _=>
 some (.done 0 [(nth v2 0)]))
def kO (a0 a1:IV):Option (List IV):=
 (bq a1).bind fun v1=>
 (iter rounds (vJ v1 a1) [a0,(.int .i64 0)]).bind fun v8=>
 iA v8.1 [some [(nth v8.2 0)]]
def rr (C:IV->List Nat->List (List IV)->Option (List IV)) (v1:IV) (a0:IV) (a3:IV) (a1:IV) (a2:IV) (v2:List IV):Option SR:=
 (aa .lss (nth v2 0) v1).bind fun v3=>
 af v3 (fun _=>
 (dH a0 (nth v2 0) 6).bind fun v4=>
 (eR a0 v4 0 6).bind fun v5=>
 (C a3 [1] [[a1,a2],[(nth v5 0),(nth v5 1),(nth v5 2),(nth v5 3),(nth v5 4),(nth v5 5)]]).bind fun v6=>
 af (nth v6 0) (fun _=>
 some (.done 1 [(nth v2 0)])) (fun _=>
 (aa .add (nth v2 0) (.int .i64 1)).bind fun v7=>
 some (.next [v7]))) (fun _=>
 some (.done 0 []))
def gn (C:IV->List Nat->List (List IV)->Option (List IV)) (a0 a1 a2 a3:IV):Option (List IV):=
 (bq a0).bind fun v1=>
 (iter rounds (rr C v1 a0 a3 a1 a2) [(.int .i64 0)]).bind fun v8=>
 iA v8.1 [(bq a0).bind fun v9=>
 ai [v9],
 ai [(nth v8.2 0)]]
def gR (a0 a1 a2 a3 a4 a5 a6 a7:IV):Option (List IV):=
 (KN .eql [.i,.i] [a2,a3] [a0,a1]).bind fun v1=>
 ai [v1]
def eD:IV->List Nat->List (List IV)->Option (List IV):=
 Fq kF [1] (fun caps l=>match caps,l with | [],[[a0,a1],[a2,a3,a4,a5,a6,a7]]=>gR a0 a1 a2 a3 a4 a5 a6 a7 | _,_=>none) <|
 Fq fK [1] (fun caps l=>match caps,l with | [],[[a0,a1],[a2,a3,a4,a5,a6,a7]]=>bS a0 a1 a2 a3 a4 a5 a6 a7 | _,_=>none) <|
 fun _ _ _=>none
def eo (a0 a1 a2 a3 a4 a5 a6:IV):Option (List IV):=
 (gn (eD) a0 a1 a2 (.clo (.func kF) [])).bind fun v1=>
 (bq a0).bind fun v2=>
 (aa .lss (nth v1 0) v2).bind fun v3=>
 af v3 (fun _=>
 some [a0,(nth v1 0),(.bool false)]) (fun _=>
 (gn (eD) a0 a1 a2 (.clo (.func fK) [])).bind fun v4=>
 (dz a0).bind fun v5=>
 (cQ (nth v5 0) (nth v4 0) (.lst [[a1,a2,a3,a4,a5,a6]])).bind fun v6=>
 some [(nth v6 0),(nth v4 0),(.bool true)])
def nC (a0 a1 a2 a3 a4 a5 a6 a7 a8 a9 a10:IV):Option (List IV):=
 ((nO a0 a1 a2 a3 a4).bind fun v1=>
 (rI .not (nth v1 0)).bind fun v2=>
 af v2 (fun _=>
 some [(.bool true)]) (fun _=>
 (iR a5 a6 a7 a8 a9 a10).bind fun v3=>
 (rI .not (nth v3 0)).bind fun v4=>
 some [v4])).bind fun v5=>
 af (nth v5 0) (fun _=>
 some [a0,a1,a2,a3,a4,(.bool false),(.int .i64 1)]) (fun _=>
 (fi a1 a2 a5 a6).bind fun v6=>
 (rI .not (nth v6 0)).bind fun v7=>
 af v7 (fun _=>
 some [a0,a1,a2,a3,a4,(.bool false),(.int .i64 9)]) (fun _=>
 (eo a3 a5 a6 a7 a8 a9 a10).bind fun v8=>
 (rI .not (nth v8 2)).bind fun v9=>
 af v9 (fun _=>
 some [a0,a1,a2,a3,a4,(.bool false),(.int .i64 0)]) (fun _=>
 (dS a0 a1 a2 a3 a4).bind fun v10=>
 ((bq a3).bind fun v11=>
 (aa .eql v11 (.int .i64 2000)).bind fun v12=>
 af v12 (fun _=>
 some [(.bool true)]) (fun _=>
 (DM (nth v10 0)).bind fun v13=>
 (aa .eql v13 (.int .i64 2000)).bind fun v14=>
 af v14 (fun _=>
 (Ci (.int .i64) (nth v10 0) a8 (.bool false)).bind fun v15=>
 (rI .not (nth v15 0)).bind fun v16=>
 some [v16]) (fun _=>
 some [(.bool false)]))).bind fun v17=>
 af (nth v17 0) (fun _=>
 some [a0,a1,a2,a3,a4,(.bool false),(.int .i64 10)]) (fun _=>
 (gU a4 a5 a6).bind fun v18=>
 some [a0,a1,a2,(nth v8 0),(nth v18 0),(.bool true),(.int .i64 0)]))))
def mq (a0 a1 a2 a3 a4:IV):Option (List IV):=
 (kO a0 a3).bind fun v1=>
 some [(nth v1 0)]
def pB (v1:IV) (a1:IV) (v2:List IV):Option SR:=
 (aa .lss (nth v2 1) v1).bind fun v3=>
 af v3 (fun _=>
 (dH a1 (nth v2 1) 6).bind fun v4=>
 (eR a1 v4 0 6).bind fun v5=>
 (eo (nth v2 0) (nth v5 0) (nth v5 1) (nth v5 2) (nth v5 3) (nth v5 4) (nth v5 5)).bind fun v6=>
 (aa .add (nth v2 1) (.int .i64 1)).bind fun v7=>
 some (.next [(nth v6 0),v7])) (fun _=>
 some (.done 0 [(nth v2 0)]))
def gV (a0 a1:IV):Option (List IV):=
 (bq a1).bind fun v1=>
 (iter rounds (pB v1 a1) [a0,(.int .i64 0)]).bind fun v8=>
 iA v8.1 [some [(nth v8.2 0)]]
def tX:Option (List IV):=
 ai [(.int .u64 9221120237041090560)]
def fk (a0:IV):Option (List IV):=
 ((aa .lss a0 (.flt .f64 0)).bind fun v1=>
 af v1 (fun _=>
 some [(.bool true)]) (fun _=>
 (aa .eql a0 (.flt .f64 0)).bind fun v2=>
 af v2 (fun _=>
 (aa .quo (.flt .f64 4607182418800017408) a0).bind fun v3=>
 (aa .lss v3 (.flt .f64 0)).bind fun v4=>
 some [v4]) (fun _=>
 some [(.bool false)]))).bind fun v5=>
 ai [(nth v5 0)]
def qR:Option (List IV):=
 ai [(.int .u64 9223372036854775808)]
def cU (v10:List IV):Option SR:=
 (aa .geq (nth v10 0) (.flt .f64 4611686018427387904)).bind fun v11=>
 af v11 (fun _=>
 (aa .mul (nth v10 0) (.flt .f64 4602678819172646912)).bind fun v12=>
 (aa .add (nth v10 1) (.int .u64 1)).bind fun v13=>
 some (.next [v12,v13])) (fun _=>
 some (.done 0 [(nth v10 0),(nth v10 1)]))
def bX (v15:List IV):Option SR:=
 ((aa .lss (nth v15 0) (.flt .f64 4607182418800017408)).bind fun v16=>
 af v16 (fun _=>
 (aa .gtr (nth v15 1) (.int .u64 1)).bind fun v17=>
 some [v17]) (fun _=>
 some [(.bool false)])).bind fun v18=>
 af (nth v18 0) (fun _=>
 (aa .mul (nth v15 0) (.flt .f64 4611686018427387904)).bind fun v19=>
 (aa .sub (nth v15 1) (.int .u64 1)).bind fun v20=>
 some (.next [v19,v20])) (fun _=>
 some (.done 0 [(nth v15 0),(nth v15 1)]))
def bH (v23:List IV):Option SR:=
 (aa .lss (nth v23 1) (.int .i64 52)).bind fun v24=>
 af v24 (fun _=>
 (aa .mul (nth v23 0) (.flt .f64 4611686018427387904)).bind fun v25=>
 (aa .add (nth v23 1) (.int .i64 1)).bind fun v26=>
 some (.next [v25,v26])) (fun _=>
 some (.done 0 [(nth v23 0)]))
def sD (v33:List IV):Option SR:=
 (aa .lss (nth v33 1) (.int .i64 52)).bind fun v34=>
 af v34 (fun _=>
 (aa .mul (nth v33 0) (.flt .f64 4611686018427387904)).bind fun v35=>
 (aa .add (nth v33 1) (.int .i64 1)).bind fun v36=>
 some (.next [v35,v36])) (fun _=>
 some (.done 0 [(nth v33 0)]))
def so (v46:List IV):Option SR:=
 (aa .geq (nth v46 0) (.flt .f64 4611686018427387904)).bind fun v47=>
 af v47 (fun _=>
 (aa .mul (nth v46 0) (.flt .f64 4602678819172646912)).bind fun v48=>
 (aa .add (nth v46 1) (.int .u64 1)).bind fun v49=>
 some (.next [v48,v49])) (fun _=>
 some (.done 0 [(nth v46 0),(nth v46 1)]))
def se (v51:List IV):Option SR:=
 ((aa .lss (nth v51 0) (.flt .f64 4607182418800017408)).bind fun v52=>
 af v52 (fun _=>
 (aa .gtr (nth v51 1) (.int .u64 1)).bind fun v53=>
 some [v53]) (fun _=>
 some [(.bool false)])).bind fun v54=>
 af (nth v54 0) (fun _=>
 (aa .mul (nth v51 0) (.flt .f64 4611686018427387904)).bind fun v55=>
 (aa .sub (nth v51 1) (.int .u64 1)).bind fun v56=>
 some (.next [v55,v56])) (fun _=>
 some (.done 0 [(nth v51 0),(nth v51 1)]))
def sa (v59:List IV):Option SR:=
 (aa .lss (nth v59 1) (.int .i64 52)).bind fun v60=>
 af v60 (fun _=>
 (aa .mul (nth v59 0) (.flt .f64 4611686018427387904)).bind fun v61=>
 (aa .add (nth v59 1) (.int .i64 1)).bind fun v62=>
 some (.next [v61,v62])) (fun _=>
 some (.done 0 [(nth v59 0)]))
def sk (v69:List IV):Option SR:=
 (aa .lss (nth v69 1) (.int .i64 52)).bind fun v70=>
 af v70 (fun _=>
 (aa .mul (nth v69 0) (.flt .f64 4611686018427387904)).bind fun v71=>
 (aa .add (nth v69 1) (.int .i64 1)).bind fun v72=>
 some (.next [v71,v72])) (fun _=>
 some (.done 0 [(nth v69 0)]))
def eG (a0:IV):Option (List IV):=
 (aa .neq a0 a0).bind fun v1=>
 af v1 (fun _=>
 (tX).bind fun v2=>
 ai [(nth v2 0)]) (fun _=>
 (fk a0).bind fun v3=>
 af (nth v3 0) (fun _=>
 (qR).bind fun v4=>
 (rI .neg a0).bind fun v5=>
 (aa .eql v5 (.flt .f64 0)).bind fun v6=>
 af v6 (fun _=>
 ai [(nth v4 0)]) (fun _=>
 (aa .mul v5 (.flt .f64 4611686018427387904)).bind fun v7=>
 (aa .eql v7 v5).bind fun v8=>
 af v8 (fun _=>
 (aa .add (nth v4 0) (.int .u64 9218868437227405312)).bind fun v9=>
 ai [v9]) (fun _=>
 (iter rounds (cU) [v5,(.int .u64 1023)]).bind fun v14=>
 iA v14.1 [(iter rounds (bX) [(nth v14.2 0),(nth v14.2 1)]).bind fun v21=>
 iA v21.1 [(aa .lss (nth v21.2 0) (.flt .f64 4607182418800017408)).bind fun v22=>
 af v22 (fun _=>
 (iter rounds (bH) [(nth v21.2 0),(.int .i64 0)]).bind fun v27=>
 iA v27.1 [(aa .shl (.int .u64 0) (.int .u64 52)).bind fun v28=>
 (aa .add (nth v4 0) v28).bind fun v29=>
 (zk .u64 (nth v27.2 0)).bind fun v30=>
 (aa .add v29 v30).bind fun v31=>
 ai [v31]]) (fun _=>
 (aa .sub (nth v21.2 0) (.flt .f64 4607182418800017408)).bind fun v32=>
 (iter rounds (sD) [v32,(.int .i64 0)]).bind fun v37=>
 iA v37.1 [(aa .shl (nth v21.2 1) (.int .u64 52)).bind fun v38=>
 (aa .add (nth v4 0) v38).bind fun v39=>
 (zk .u64 (nth v37.2 0)).bind fun v40=>
 (aa .add v39 v40).bind fun v41=>
 ai [v41]])]]))) (fun _=>
 (aa .eql a0 (.flt .f64 0)).bind fun v42=>
 af v42 (fun _=>
 ai [(.int .u64 0)]) (fun _=>
 (aa .mul a0 (.flt .f64 4611686018427387904)).bind fun v43=>
 (aa .eql v43 a0).bind fun v44=>
 af v44 (fun _=>
 (aa .add (.int .u64 0) (.int .u64 9218868437227405312)).bind fun v45=>
 ai [v45]) (fun _=>
 (iter rounds (so) [a0,(.int .u64 1023)]).bind fun v50=>
 iA v50.1 [(iter rounds (se) [(nth v50.2 0),(nth v50.2 1)]).bind fun v57=>
 iA v57.1 [(aa .lss (nth v57.2 0) (.flt .f64 4607182418800017408)).bind fun v58=>
 af v58 (fun _=>
 (iter rounds (sa) [(nth v57.2 0),(.int .i64 0)]).bind fun v63=>
 iA v63.1 [(aa .shl (.int .u64 0) (.int .u64 52)).bind fun v64=>
 (aa .add (.int .u64 0) v64).bind fun v65=>
 (zk .u64 (nth v63.2 0)).bind fun v66=>
 (aa .add v65 v66).bind fun v67=>
 ai [v67]]) (fun _=>
 (aa .sub (nth v57.2 0) (.flt .f64 4607182418800017408)).bind fun v68=>
 (iter rounds (sk) [v68,(.int .i64 0)]).bind fun v73=>
 iA v73.1 [(aa .shl (nth v57.2 1) (.int .u64 52)).bind fun v74=>
 (aa .add (.int .u64 0) v74).bind fun v75=>
 (zk .u64 (nth v73.2 0)).bind fun v76=>
 (aa .add v75 v76).bind fun v77=>
 ai [v77]])]]))))
def lQ (a0 a1:IV):Option (List IV):=
 (eG a0).bind fun v1=>
 (eG a1).bind fun v2=>
 (aa .eql (nth v1 0) (nth v2 0)).bind fun v3=>
 ai [v3]
def fp (a0 a1 a2 a3 a4 a5 a6 a7:IV):Option (List IV):=
 ((aa .eql a0 a4).bind fun v1=>
 af v1 (fun _=>
 (aa .eql a1 a5).bind fun v2=>
 af v2 (fun _=>
 (aa .eql a2 a6).bind fun v3=>
 af v3 (fun _=>
 (lQ a3 a7).bind fun v4=>
 some [(nth v4 0)]) (fun _=>
 some [(.bool false)])) (fun _=>
 some [(.bool false)])) (fun _=>
 some [(.bool false)])).bind fun v5=>
 ai [(nth v5 0)]
def ra (a0:IV) (a1:IV) (v4:List IV):Option SR:=
 (bq a0).bind fun v5=>
 (aa .lss (nth v4 0) v5).bind fun v6=>
 af v6 (fun _=>
 (dH a0 (nth v4 0) 4).bind fun v7=>
 (eR a0 v7 0 4).bind fun v8=>
 (dH a1 (nth v4 0) 4).bind fun v9=>
 (eR a1 v9 0 4).bind fun v10=>
 (fp (nth v8 0) (nth v8 1) (nth v8 2) (nth v8 3) (nth v10 0) (nth v10 1) (nth v10 2) (nth v10 3)).bind fun v11=>
 (rI .not (nth v11 0)).bind fun v12=>
 af v12 (fun _=>
 some (.done 1 [(.bool false)])) (fun _=>
 (aa .add (nth v4 0) (.int .i64 1)).bind fun v13=>
 some (.next [v13]))) (fun _=>
 some (.done 0 []))
def jj (a0 a1:IV):Option (List IV):=
 (bq a0).bind fun v1=>
 (bq a1).bind fun v2=>
 (aa .neq v1 v2).bind fun v3=>
 af v3 (fun _=>
 ai [(.bool false)]) (fun _=>
 (iter rounds (ra a0 a1) [(.int .i64 0)]).bind fun v14=>
 iA v14.1 [ai [(.bool true)],
 ai [(nth v14.2 0)]])
def tV (a0:IV) (v3:List IV):Option SR:=
 (bq a0).bind fun v4=>
 (aa .lss (nth v3 0) v4).bind fun v5=>
 af v5 (fun _=>
 (dH a0 (nth v3 0) 6).bind fun v6=>
 (qA a0 v6 4).bind fun v7=>
 (qQ v7).bind fun v8=>
 (aa .gtr v8 (.int .i64 100)).bind fun v9=>
 af v9 (fun _=>
 some (.done 1 [(.bool false)])) (fun _=>
 (aa .add (nth v3 0) (.int .i64 1)).bind fun v10=>
 some (.next [v10]))) (fun _=>
 some (.done 0 []))
def lq (a0 a1:IV):Option (List IV):=
 (bq a0).bind fun v1=>
 (aa .gtr v1 a1).bind fun v2=>
 af v2 (fun _=>
 ai [(.bool false)]) (fun _=>
 (iter rounds (tV a0) [(.int .i64 0)]).bind fun v11=>
 iA v11.1 [ai [(.bool true)],
 ai [(nth v11.2 0)]])
def lk (a0 a1 a2 a3 a4 a5:IV):Option (List IV):=
 ai [a3,a2,a4,a5]
def kl (a0 a1 a2 a3 a4 a5 a6 a7 a8 a9 a10 a11:IV):Option (List IV):=
 ((KN .eql [.i,.i] [a0,a1] [a6,a7]).bind fun v1=>
 af v1 (fun _=>
 (lk a0 a1 a2 a3 a4 a5).bind fun v2=>
 (lk a6 a7 a8 a9 a10 a11).bind fun v3=>
 (fp (nth v2 0) (nth v2 1) (nth v2 2) (nth v2 3) (nth v3 0) (nth v3 1) (nth v3 2) (nth v3 3)).bind fun v4=>
 some [(nth v4 0)]) (fun _=>
 some [(.bool false)])).bind fun v5=>
 ai [(nth v5 0)]
def rC (a0:IV) (a1:IV) (v4:List IV):Option SR:=
 (bq a0).bind fun v5=>
 (aa .lss (nth v4 0) v5).bind fun v6=>
 af v6 (fun _=>
 (dH a0 (nth v4 0) 6).bind fun v7=>
 (eR a0 v7 0 6).bind fun v8=>
 (dH a1 (nth v4 0) 6).bind fun v9=>
 (eR a1 v9 0 6).bind fun v10=>
 (kl (nth v8 0) (nth v8 1) (nth v8 2) (nth v8 3) (nth v8 4) (nth v8 5) (nth v10 0) (nth v10 1) (nth v10 2) (nth v10 3) (nth v10 4) (nth v10 5)).bind fun v11=>
 (rI .not (nth v11 0)).bind fun v12=>
 af v12 (fun _=>
 some (.done 1 [(.bool false)])) (fun _=>
 (aa .add (nth v4 0) (.int .i64 1)).bind fun v13=>
 some (.next [v13]))) (fun _=>
 some (.done 0 []))
def mo (a0 a1:IV):Option (List IV):=
 (bq a0).bind fun v1=>
 (bq a1).bind fun v2=>
 (aa .neq v1 v2).bind fun v3=>
 af v3 (fun _=>
 ai [(.bool false)]) (fun _=>
 (iter rounds (rC a0 a1) [(.int .i64 0)]).bind fun v14=>
 iA v14.1 [ai [(.bool true)],
 ai [(nth v14.2 0)]])
def jx (a0:IV):Option (List IV):=
 (aO a0).bind fun v1=>
 (aO a0).bind fun v2=>
 some [(nth v1 0),(nth v2 0),(.lst [])]
def rD (v1:IV) (a0:IV) (v2:List IV):Option SR:=
 (aa .lss (nth v2 1) v1).bind fun v3=>
 af v3 (fun _=>
 (dH a0 (nth v2 1) 12).bind fun v4=>
 (eR a0 v4 0 12).bind fun v5=>
 (lY 6 56 (nth v2 0) (.lst [[(nth v5 0),(nth v5 1),(nth v5 2),(nth v5 3),(nth v5 4),(nth v5 5)]])).bind fun v6=>
 (aa .add (nth v2 1) (.int .i64 1)).bind fun v7=>
 some (.next [v6,v7])) (fun _=>
 some (.done 0 [(nth v2 0)]))
def jr (a0:IV):Option (List IV):=
 (bq a0).bind fun v1=>
 (iter rounds (rD v1 a0) [(.lst []),(.int .i64 0)]).bind fun v8=>
 iA v8.1 [if j7 (nth v8.2 0)=true then some [(nth v8.2 0)] else none]
def bT (a0:IV):Option (List IV):=
 (Lg .eql a0 .nilp).bind fun v1=>
 af v1 (fun _=>
 if j7 (.lst [])=true then some [(.lst [])] else none) (fun _=>
 (gY a0).bind fun v2=>
 (gY v2).bind fun v3=>
 (gX v3 2).bind fun v4=>
 (jr v4).bind fun v5=>
 if j7 (nth v5 0)=true then some [(nth v5 0)] else none)
def cr (v2:List IV):Option SR:=
 (aa .lss (nth v2 1) (nth v2 2)).bind fun v3=>
 af v3 (fun _=>
 (cE (bQ (nth v2 0)) (nth v2 2)).bind fun v4=>
 (eR (nth v2 0) v4 0 6).bind fun v5=>
 (cE (bQ (nth v2 0)) (nth v2 1)).bind fun v6=>
 (eR (nth v2 0) v6 0 6).bind fun v7=>
 (cE (bQ (nth v2 0)) (nth v2 1)).bind fun v8=>
 (zy (nth v2 0) v8 0 [(nth v5 0),(nth v5 1),(nth v5 2),(nth v5 3),(nth v5 4),(nth v5 5)]).bind fun v9=>
 (cE (bQ (nth v2 0)) (nth v2 2)).bind fun v10=>
 (zy v9 v10 0 [(nth v7 0),(nth v7 1),(nth v7 2),(nth v7 3),(nth v7 4),(nth v7 5)]).bind fun v11=>
 (aa .add (nth v2 1) (.int .i64 1)).bind fun v12=>
 (aa .sub (nth v2 2) (.int .i64 1)).bind fun v13=>
 some (.next [v11,v12,v13])) (fun _=>
 some (.done 0 [(nth v2 0)]))
def cI (a0:IV):Option (List IV):=
 (aa .sub (.int .i64 ((bQ a0):Nat)) (.int .i64 1)).bind fun v1=>
 (iter rounds (cr) [a0,(.int .i64 0),v1]).bind fun v14=>
 iA v14.1 [some [(nth v14.2 0)]]
def nv (a0 a1:IV):Option (List IV):=
 (gv a0 a1).bind fun v1=>
 af (nth v1 1) (fun _=>
 (dH a0 (nth v1 0) 4).bind fun v2=>
 (eR a0 v2 0 4).bind fun v3=>
 ai [(nth v3 0),(nth v3 1),(nth v3 2),(nth v3 3),(.bool true)]) (fun _=>
 ai [(.int .i64 0),(.int .i64 0),(.str ⟨#[]⟩),(.flt .f64 0),(.bool false)])
def si (a0 a1 a2 a3 a4 a5 a6:IV):Option (List IV):=
 (o4 a0 a1 a2 a3 a4 a5 a6).bind fun v1=>
 af (nth v1 1) (fun _=>
 (nv a0 a4).bind fun v2=>
 some [(nth v1 0),a1,a2,a3,a4,a5,a6,(nth v1 1),(nth v2 4),(nth v2 0),(nth v2 1),(nth v2 2),(nth v2 3)]) (fun _=>
 some [(nth v1 0),a1,a2,a3,a4,a5,a6,(nth v1 1),(.bool false),(.int .i64 0),(.int .i64 0),(.str ⟨#[]⟩),(.flt .f64 0)])
def wI (v1:IV) (a1:IV) (v2:List IV):Option SR:=
 (aa .lss (nth v2 2) v1).bind fun v3=>
 af v3 (fun _=>
 (dH a1 (nth v2 2) 6).bind fun v4=>
 (eR a1 v4 0 6).bind fun v5=>
 (si (nth v2 0) (nth v5 0) (nth v5 1) (nth v5 2) (nth v5 3) (nth v5 4) (nth v5 5)).bind fun v6=>
 (lY 12 104 (nth v2 1) (.lst [[(nth v6 1),(nth v6 2),(nth v6 3),(nth v6 4),(nth v6 5),(nth v6 6),(nth v6 7),(nth v6 8),(nth v6 9),(nth v6 10),(nth v6 11),(nth v6 12)]])).bind fun v7=>
 (aa .add (nth v2 2) (.int .i64 1)).bind fun v8=>
 some (.next [(nth v6 0),v7,v8])) (fun _=>
 some (.done 0 [(nth v2 0),(nth v2 1)]))
def pE (a0 a1:IV):Option (List IV):=
 (bq a1).bind fun v1=>
 (iter rounds (wI v1 a1) [a0,(.lst []),(.int .i64 0)]).bind fun v9=>
 iA v9.1 [some [(nth v9.2 0),(nth v9.2 1)]]
def ei (v2:List IV) (a3:IV) (a4:IV) (a5:IV) (a6:IV) (a7:IV) (a8:IV) (v4:List IV):Option SR:=
 (aa .sub (.int .i64 ((bQ (nth v4 2)):Nat)) (.int .i64 1)).bind fun v5=>
 (aa .geq v5 (nth v2 1)).bind fun v6=>
 af v6 (fun _=>
 (cE (bQ (nth v4 2)) v5).bind fun v7=>
 (eR (nth v4 2) v7 0 12).bind fun v8=>
 (fY (nth v4 1) (nth v8 0) (nth v8 1) (nth v8 2) (nth v8 3) (nth v8 4) (nth v8 5) (nth v8 6) (nth v8 7) (nth v8 8) (nth v8 9) (nth v8 10) (nth v8 11)).bind fun v9=>
 (Yv v5 v5 (bQ (nth v4 2))).bind fun v10=>
 (lY 6 56 (nth v4 3) (.lst [[(nth v8 0),(nth v8 1),(nth v8 2),(nth v8 3),(nth v8 4),(nth v8 5)]])).bind fun v11=>
 some (.next [(nth v4 0),(nth v9 0),(ze (nth v4 2) 0 v10),v11])) (fun _=>
 (lY 6 56 (nth v4 3) (.lst [[a3,a4,a5,a6,a7,a8]])).bind fun v12=>
 (cI v12).bind fun v13=>
 (pE (nth v4 1) (nth v13 0)).bind fun v14=>
 (lY 12 104 (nth v4 2) (nth v14 1)).bind fun v15=>
 (aa .sub (.int .i64 ((bQ v12):Nat)) (.int .i64 1)).bind fun v16=>
 some (.done 1 [(nth v4 0),(nth v14 0),v15,v16,(.bool true)]))
def eY (a0 a1 a2 a3 a4 a5 a6 a7 a8:IV):Option (List IV):=
 (bT (.ptr [a0,a1,a2] 0)).bind fun v1=>
 (eo (nth v1 0) a3 a4 a5 a6 a7 a8).bind fun v2=>
 (rI .not (nth v2 2)).bind fun v3=>
 af v3 (fun _=>
 some [a0,a1,a2,(.int .i64 0),(.bool false)]) (fun _=>
 (iter rounds (ei v2 a3 a4 a5 a6 a7 a8) [a0,a1,a2,(.lst [])]).bind fun v17=>
 iA v17.1 [none,
 some [(nth v17.2 0),(nth v17.2 1),(nth v17.2 2),(nth v17.2 3),(nth v17.2 4)]])
def oA (a0 a1 a2 a3 a4 a5:IV):Option (List IV):=
 some [(.int .i64 0),(.bool false)]
def bk (a0:IV):Option (List IV):=
 (Lg .eql a0 .nilp).bind fun v1=>
 af v1 (fun _=>
 if j7 (.lst [])=true then some [(.lst [])] else none) (fun _=>
 (gY a0).bind fun v2=>
 (gY v2).bind fun v3=>
 (gX v3 1).bind fun v4=>
 (aO v4).bind fun v5=>
 if j7 (nth v5 0)=true then some [(nth v5 0)] else none)
def cx (a0:IV):Option (List IV):=
 (Lg .eql a0 .nilp).bind fun v1=>
 af v1 (fun _=>
 if j7 (.lst [])=true then some [(.lst [])] else none) (fun _=>
 (gY a0).bind fun v2=>
 (gY v2).bind fun v3=>
 (gX v3 2).bind fun v4=>
 (cu v4).bind fun v5=>
 if j7 (nth v5 0)=true then some [(nth v5 0)] else none)
end Go.AM

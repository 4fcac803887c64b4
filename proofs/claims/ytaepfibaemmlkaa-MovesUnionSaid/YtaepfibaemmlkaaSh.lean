/- The functions of the program that are reached, as the abstract machine runs them; printed by a program of this work. -/
import Derived.Test.YtaepfibaemmlkaaAa
set_option linter.unusedVariables false
namespace Go.AM
abbrev n_law17_MarksTells : Nat := 3
abbrev n_law17_MarksOf : Nat := 4
abbrev n_law17_MarksJoin : Nat := 5
abbrev n_law17_MarksMoves : Nat := 6
abbrev n_law17_MarksNext : Nat := 7
abbrev n_law17_MarksOrder : Nat := 8
abbrev n_law13_MovesTells : Nat := 9
abbrev n_law13_MovesInserts : Nat := 10
abbrev n_law13_MovesMay : Nat := 11
abbrev n_law13_MovesOrder : Nat := 12
abbrev n_law13_MovesSince : Nat := 13
abbrev n_law13_MovesUnion : Nat := 14
abbrev n_law17_live : Nat := 15
abbrev n_marks_Next : Nat := 16
abbrev n_ref17_Next : Nat := 17
abbrev n_marks_May : Nat := 18
abbrev n_ref17_May : Nat := 19
abbrev n_marks_Get : Nat := 20
abbrev n_ref17_Get : Nat := 21
abbrev n_ref17_Same : Nat := 22
abbrev n_marks_Raise : Nat := 23
abbrev n_ref17_Raise : Nat := 24
abbrev n_marks_Join : Nat := 25
abbrev n_ref17_Join : Nat := 26
abbrev n_marks_Below : Nat := 27
abbrev n_ref17_Below : Nat := 28
abbrev n_ref13_Few : Nat := 29
abbrev n_marks_Of : Nat := 30
abbrev n_ref17_Of : Nat := 31
abbrev n_ref13_May : Nat := 32
abbrev n_ref13_Time : Nat := 33
abbrev n_ref02_Before : Nat := 34
abbrev n_law13_live : Nat := 35
abbrev n_moves_One : Nat := 36
abbrev n_ref13_One : Nat := 37
abbrev n_ref12_Alike : Nat := 38
abbrev n_moves_Row : Nat := 39
abbrev n_ref13_Row : Nat := 40
abbrev n_moves_May : Nat := 41
abbrev n_moves_Same : Nat := 42
abbrev n_ref13_Same : Nat := 43
abbrev n_moves_Since : Nat := 44
abbrev n_ref13_Since : Nat := 45
abbrev n_moves_Union : Nat := 46
abbrev n_ref13_Union : Nat := 47
abbrev n_moves_Insert : Nat := 48
abbrev n_ref13_Insert : Nat := 49
abbrev n_ref13_Alike : Nat := 50
abbrev n_marks_greatest : Nat := 51
abbrev n_marks_place : Nat := 52
abbrev n_slices_Clone_Mark : Nat := 53
abbrev n_slices_IndexFunc_Mark : Nat := 54
abbrev n_marks_Raise_1 : Nat := 55
abbrev n_slices_Insert_Mark : Nat := 56
abbrev n_slices_ContainsFunc_Mark : Nat := 57
abbrev n_marks_Below_1 : Nat := 58
abbrev n_law13_live_1 : Nat := 59
abbrev n_tree_One : Nat := 60
abbrev n_ref12_One : Nat := 61
abbrev n_ref01_Same : Nat := 62
abbrev n_rank_Before : Nat := 63
abbrev n_slices_ContainsFunc_Move : Nat := 64
abbrev n_moves_May_1 : Nat := 65
abbrev n_slices_EqualFunc_Move_Move : Nat := 66
abbrev n_moves_Same_1 : Nat := 67
abbrev n_bits_Same : Nat := 68
abbrev n_moves_when_before : Nat := 69
abbrev n_moves_seek : Nat := 70
abbrev n_moves_when_is : Nat := 71
abbrev n_slices_Insert_Move : Nat := 72
abbrev n_slices_Clone_Move : Nat := 73
abbrev n_marks_place_1 : Nat := 74
abbrev n_slices_overlaps_Mark : Nat := 75
abbrev n_slices_rotateRight_Mark : Nat := 76
abbrev n_word_Valid : Nat := 77
abbrev n_ref04_Valid : Nat := 78
abbrev n_ref01_Bits : Nat := 79
abbrev n_rank_first : Nat := 80
abbrev n_rank_Before_1 : Nat := 81
abbrev n_cmp_Compare_int : Nat := 82
abbrev n_rank_Before_2 : Nat := 83
abbrev n_slices_IndexFunc_Move : Nat := 84
abbrev n_bits_Bits : Nat := 85
abbrev n_slices_overlaps_Move : Nat := 86
abbrev n_slices_rotateRight_Move : Nat := 87
abbrev n_slices_rotateLeft_Mark : Nat := 88
abbrev n_word_signs : Nat := 89
abbrev n_ref04_First : Nat := 90
abbrev n_ref01_None : Nat := 91
abbrev n_ref01_Minus : Nat := 92
abbrev n_ref01_top : Nat := 93
abbrev n_cmp_isNaN_int : Nat := 94
abbrev n_bits_Minus : Nat := 95
abbrev n_bits_split : Nat := 96
abbrev n_slices_rotateLeft_Move : Nat := 97
abbrev n_slices_Reverse_Mark : Nat := 98
abbrev n_word_head : Nat := 99
abbrev n_ref04_sign : Nat := 100
abbrev n_bits_powers : Nat := 101
abbrev n_slices_Reverse_Move : Nat := 102
abbrev n_ref04_in : Nat := 103
abbrev n_runtime_boundsError_Error : Nat := 104
abbrev n_runtime_boundsError_RuntimeError : Nat := 105
abbrev n_runtime_errorString_Error : Nat := 106
abbrev n_runtime_errorString_RuntimeError : Nat := 107
abbrev n_runtime_plainError_Error : Nat := 108
abbrev n_runtime_plainError_RuntimeError : Nat := 109
abbrev n_runtime_errorAddressString_Error : Nat := 110
abbrev n_runtime_errorAddressString_RuntimeError : Nat := 111
abbrev n_runtime_TypeAssertionError_Error : Nat := 112
abbrev n_runtime_TypeAssertionError_RuntimeError : Nat := 113
abbrev n_runtime_PanicNilError_Error : Nat := 114
abbrev n_runtime_PanicNilError_RuntimeError : Nat := 115
abbrev n_abi_Type_Align : Nat := 116
abbrev n_maps_unhashableTypeError_Error : Nat := 117
abbrev n_maps_unhashableTypeError_RuntimeError : Nat := 118
abbrev n_abi_Kind_String : Nat := 119
abbrev slices_Clone_Mark_s := cloneS 2 16
abbrev slices_Insert_Mark_s := insertS 2 16
abbrev slices_Insert_Move_s := insertS 6 56
abbrev slices_Clone_Move_s := cloneS 6 56
def slices_IndexFunc_Mark_l2 (C : IV → List Nat → List (List IV) → Option (List IV)) (v1 : IV) (a0 : IV) (a1 : IV) (v2 : List IV) : Option SR :=
 (ibin .lss (nth v2 0) v1).bind fun v3 =>
 icond v3 (fun _ =>
 (iidx a0 (nth v2 0) 2).bind fun v4 =>
 (ildN a0 v4 0 2).bind fun v5 =>
 (C a1 [1] [[(nth v5 0), (nth v5 1)]]).bind fun v6 =>
 icond (nth v6 0) (fun _ =>
 some (.done 1 [(nth v2 0)])) (fun _ =>
 (ibin .add (nth v2 0) (.int .i64 1)).bind fun v7 =>
 some (.next [v7]))) (fun _ =>
 some (.done 0 []))
def slices_IndexFunc_Mark_s (C : IV → List Nat → List (List IV) → Option (List IV)) (a0 a1 : IV) : Option (List IV) :=
 (ilenL a0).bind fun v1 =>
 (iter rounds (slices_IndexFunc_Mark_l2 C v1 a0 a1) [(.int .i64 0)]).bind fun v8 =>
 sel v8.1 [scal [(.int .i64 (-1))],
 scal [(nth v8.2 0)]]

def marks_place_1_s (a0 a1 a2 : IV) : Option (List IV) :=
 (ipld a2 0).bind fun v1 =>
 (ibin .eql a0 v1).bind fun v2 =>
 scal [v2]

def Cx_marks_place : IV → List Nat → List (List IV) → Option (List IV) :=
  tbl n_marks_place_1 [1] (fun caps l => match caps, l with | [a2], [[a0, a1]] => marks_place_1_s a0 a1 a2 | _, _ => none) <|
  fun _ _ _ => none
def marks_place_s (a0 a1 : IV) : Option (List IV) :=
 (slices_IndexFunc_Mark_s (Cx_marks_place) a0 (.clo (.func n_marks_place_1) [(.ptr [a1] 0)])).bind fun v1 =>
 (ibin .geq (nth v1 0) (.int .i64 0)).bind fun v2 =>
 scal [(nth v1 0), v2]

def marks_greatest_l2 (v1 : IV) (a1 : IV) (v2 : List IV) : Option SR :=
 (ibin .lss (nth v2 1) v1).bind fun v3 =>
 icond v3 (fun _ =>
 (iidx a1 (nth v2 1) 1).bind fun v4 =>
 (ild a1 v4 0).bind fun v5 =>
 (imax (nth v2 0) v5).bind fun v6 =>
 (ibin .add (nth v2 1) (.int .i64 1)).bind fun v7 =>
 some (.next [v6, v7])) (fun _ =>
 some (.done 0 [(nth v2 0)]))
def marks_greatest_s (a0 a1 : IV) : Option (List IV) :=
 (ilenL a1).bind fun v1 =>
 (iter rounds (marks_greatest_l2 v1 a1) [a0, (.int .i64 0)]).bind fun v8 =>
 sel v8.1 [scal [(nth v8.2 0)]]

def marks_Raise_1_s (a0 a1 a2 : IV) : Option (List IV) :=
 (ipnn a2).bind fun v1 =>
 (ipld v1 1).bind fun v2 =>
 (ibin .gtr a0 v2).bind fun v3 =>
 scal [v3]

def Cx_marks_Raise : IV → List Nat → List (List IV) → Option (List IV) :=
  tbl n_marks_Raise_1 [1] (fun caps l => match caps, l with | [a2], [[a0, a1]] => marks_Raise_1_s a0 a1 a2 | _, _ => none) <|
  fun _ _ _ => none
def marks_Raise_s (a0 a1 a2 : IV) : Option (List IV) :=
 (slices_Clone_Mark_s a0).bind fun v1 =>
 (marks_place_s a0 a2).bind fun v2 =>
 icond (nth v2 1) (fun _ =>
 (ibidx (llen (nth v1 0)) (nth v2 0)).bind fun v3 =>
 (ild (nth v1 0) v3 1).bind fun v4 =>
 (marks_greatest_s v4 (.lst [[a1]])).bind fun v5 =>
 (ibidx (llen (nth v1 0)) (nth v2 0)).bind fun v6 =>
 (iset (nth v1 0) v6 1 [(nth v5 0)]).bind fun v7 =>
 some [v7]) (fun _ =>
 (ibin .leq a1 (.int .i64 0)).bind fun v8 =>
 icond v8 (fun _ =>
 some [(nth v1 0)]) (fun _ =>
 (slices_IndexFunc_Mark_s (Cx_marks_Raise) a0 (.clo (.func n_marks_Raise_1) [(.ptr [a1, a2] 0)])).bind fun v9 =>
 (ibin .lss (nth v9 0) (.int .i64 0)).bind fun v10 =>
 icond v10 (fun _ =>
 (ilenL a0).bind fun v11 =>
 (slices_Insert_Mark_s (nth v1 0) v11 (.lst [[a2, a1]])).bind fun v12 =>
 some [(nth v12 0)]) (fun _ =>
 (slices_Insert_Mark_s (nth v1 0) (nth v9 0) (.lst [[a2, a1]])).bind fun v13 =>
 some [(nth v13 0)])))

def marks_Join_l2 (v1 : IV) (a1 : IV) (v2 : List IV) : Option SR :=
 (ibin .lss (nth v2 1) v1).bind fun v3 =>
 icond v3 (fun _ =>
 (iidx a1 (nth v2 1) 2).bind fun v4 =>
 (ildN a1 v4 0 2).bind fun v5 =>
 (marks_Raise_s (nth v2 0) (nth v5 1) (nth v5 0)).bind fun v6 =>
 (ibin .add (nth v2 1) (.int .i64 1)).bind fun v7 =>
 some (.next [(nth v6 0), v7])) (fun _ =>
 some (.done 0 [(nth v2 0)]))
def marks_Join_s (a0 a1 : IV) : Option (List IV) :=
 (ilenL a1).bind fun v1 =>
 (iter rounds (marks_Join_l2 v1 a1) [a0, (.int .i64 0)]).bind fun v8 =>
 sel v8.1 [some [(nth v8.2 0)]]

def marks_Next_l3 (v1 : IV) (a0 : IV) (v2 : List IV) : Option SR :=
 (ibin .lss (nth v2 1) v1).bind fun v3 =>
 icond v3 (fun _ =>
 (iidx a0 (nth v2 1) 2).bind fun v4 =>
 (ildN a0 v4 0 2).bind fun v5 =>
 (iapp 1 8 (nth v2 0) (.lst [[(nth v5 1)]])).bind fun v6 =>
 (ibin .add (nth v2 1) (.int .i64 1)).bind fun v7 =>
 some (.next [v6, v7])) (fun _ =>
 some (.done 0 [(nth v2 0)]))
def marks_Next_s (a0 a1 a2 a3 : IV) : Option (List IV) :=
 (ilenL a0).bind fun v1 =>
 (iter rounds (marks_Next_l3 v1 a0) [(.lst [[a1]]), (.int .i64 0)]).bind fun v8 =>
 sel v8.1 [(marks_greatest_s (.int .i64 0) (nth v8.2 0)).bind fun v9 =>
 ((ibin .geq (nth v9 0) (.int .i64 4611686018427387903)).bind fun v10 =>
 icond v10 (fun _ =>
 some [(.bool true)]) (fun _ =>
 (ibin .lss a3 (.int .i64 1)).bind fun v11 =>
 icond v11 (fun _ =>
 some [(.bool true)]) (fun _ =>
 (ibin .gtr a3 (.int .i64 255)).bind fun v12 =>
 some [v12]))).bind fun v13 =>
 icond (nth v13 0) (fun _ =>
 scal [(.int .i64 0), (.int .i64 0), (.bool false)]) (fun _ =>
 (ibin .add (nth v9 0) (.int .i64 1)).bind fun v14 =>
 scal [v14, a3, (.bool true)])]

def ref17_Same_l4 (a0 : IV) (a1 : IV) (v4 : List IV) : Option SR :=
 (ilenL a0).bind fun v5 =>
 (ibin .lss (nth v4 0) v5).bind fun v6 =>
 icond v6 (fun _ =>
 (iidx a0 (nth v4 0) 2).bind fun v7 =>
 (ildN a0 v7 0 2).bind fun v8 =>
 (iidx a1 (nth v4 0) 2).bind fun v9 =>
 (ildN a1 v9 0 2).bind fun v10 =>
 (ieqs .neq [.i, .i] [(nth v8 0), (nth v8 1)] [(nth v10 0), (nth v10 1)]).bind fun v11 =>
 icond v11 (fun _ =>
 some (.done 1 [(.bool false)])) (fun _ =>
 (ibin .add (nth v4 0) (.int .i64 1)).bind fun v12 =>
 some (.next [v12]))) (fun _ =>
 some (.done 0 []))
def ref17_Same_s (a0 a1 : IV) : Option (List IV) :=
 (ilenL a0).bind fun v1 =>
 (ilenL a1).bind fun v2 =>
 (ibin .neq v1 v2).bind fun v3 =>
 icond v3 (fun _ =>
 scal [(.bool false)]) (fun _ =>
 (iter rounds (ref17_Same_l4 a0 a1) [(.int .i64 0)]).bind fun v13 =>
 sel v13.1 [scal [(.bool true)],
 scal [(nth v13.2 0)]])

def marks_Get_s (a0 a1 : IV) : Option (List IV) :=
 (marks_place_s a0 a1).bind fun v1 =>
 icond (nth v1 1) (fun _ =>
 (iidx a0 (nth v1 0) 2).bind fun v2 =>
 (ild a0 v2 1).bind fun v3 =>
 scal [v3]) (fun _ =>
 scal [(.int .i64 0)])

def slices_ContainsFunc_Mark_s (C : IV → List Nat → List (List IV) → Option (List IV)) (a0 a1 : IV) : Option (List IV) :=
 (slices_IndexFunc_Mark_s C a0 a1).bind fun v1 =>
 (ibin .geq (nth v1 0) (.int .i64 0)).bind fun v2 =>
 scal [v2]

def marks_Below_1_s (a0 a1 a2 a3 : IV) : Option (List IV) :=
 (ipld a2 0).bind fun v1 =>
 (marks_Get_s v1 a0).bind fun v2 =>
 (ipld a3 0).bind fun v3 =>
 (marks_Get_s v3 a0).bind fun v4 =>
 (ibin .gtr (nth v2 0) (nth v4 0)).bind fun v5 =>
 scal [v5]

def Cx_marks_Below : IV → List Nat → List (List IV) → Option (List IV) :=
  tbl n_marks_Below_1 [1] (fun caps l => match caps, l with | [a2, a3], [[a0, a1]] => marks_Below_1_s a0 a1 a2 a3 | _, _ => none) <|
  fun _ _ _ => none
def marks_Below_s (a0 a1 : IV) : Option (List IV) :=
 (slices_ContainsFunc_Mark_s (Cx_marks_Below) a0 (.clo (.func n_marks_Below_1) [(.ptr [a0] 0), (.ptr [a1] 0)])).bind fun v1 =>
 (iun .not (nth v1 0)).bind fun v2 =>
 scal [v2]

def marks_May_l2 (v1 : IV) (a0 : IV) (v2 : List IV) : Option SR :=
 (ibin .lss (nth v2 0) v1).bind fun v3 =>
 icond v3 (fun _ =>
 (iidx a0 (nth v2 0) 2).bind fun v4 =>
 (ildN a0 v4 0 2).bind fun v5 =>
 ((ibin .lss (nth v5 0) (.int .i64 1)).bind fun v6 =>
 icond v6 (fun _ =>
 some [(.bool true)]) (fun _ =>
 (ibin .gtr (nth v5 0) (.int .i64 255)).bind fun v7 =>
 icond v7 (fun _ =>
 some [(.bool true)]) (fun _ =>
 (ibin .lss (nth v5 1) (.int .i64 1)).bind fun v8 =>
 icond v8 (fun _ =>
 some [(.bool true)]) (fun _ =>
 (ibin .gtr (nth v5 1) (.int .i64 4611686018427387903)).bind fun v9 =>
 icond v9 (fun _ =>
 some [(.bool true)]) (fun _ =>
 (ibin .gtr (nth v2 0) (.int .i64 0)).bind fun v10 =>
 icond v10 (fun _ =>
 (ibin .sub (nth v2 0) (.int .i64 1)).bind fun v11 =>
 (iidx a0 v11 2).bind fun v12 =>
 (ild a0 v12 0).bind fun v13 =>
 (ibin .geq v13 (nth v5 0)).bind fun v14 =>
 some [v14]) (fun _ =>
 some [(.bool false)])))))).bind fun v15 =>
 icond (nth v15 0) (fun _ =>
 some (.done 1 [(.bool false)])) (fun _ =>
 (ibin .add (nth v2 0) (.int .i64 1)).bind fun v16 =>
 some (.next [v16]))) (fun _ =>
 some (.done 0 []))
def marks_May_s (a0 : IV) : Option (List IV) :=
 (ilenL a0).bind fun v1 =>
 (iter rounds (marks_May_l2 v1 a0) [(.int .i64 0)]).bind fun v17 =>
 sel v17.1 [scal [(.bool true)],
 scal [(nth v17.2 0)]]

def marks_Of_l3 (v1 : IV) (a0 : IV) (v2 : List IV) : Option SR :=
 (ibin .lss (nth v2 1) v1).bind fun v3 =>
 icond v3 (fun _ =>
 (iidx a0 (nth v2 1) 6).bind fun v4 =>
 (ildN a0 v4 0 6).bind fun v5 =>
 (marks_Raise_s (nth v2 0) (nth v5 0) (nth v5 1)).bind fun v6 =>
 (ibin .add (nth v2 1) (.int .i64 1)).bind fun v7 =>
 some (.next [(nth v6 0), v7])) (fun _ =>
 some (.done 0 [(nth v2 0)]))
def marks_Of_s (a0 : IV) : Option (List IV) :=
 (ilenL a0).bind fun v1 =>
 (iter rounds (marks_Of_l3 v1 a0) [(.lst []), (.int .i64 0)]).bind fun v8 =>
 sel v8.1 [some [(nth v8.2 0)]]

def law17_live_s : Option (List IV) :=
 (marks_Raise_s (.lst []) (.int .i64 5) (.int .i64 2)).bind fun v1 =>
 (marks_Raise_s (nth v1 0) (.int .i64 3) (.int .i64 1)).bind fun v2 =>
 (marks_Join_s (nth v2 0) (.lst [[(.int .i64 2), (.int .i64 4)], [(.int .i64 3), (.int .i64 9)]])).bind fun v3 =>
 (marks_Next_s (nth v3 0) (.int .i64 0) (.int .i64 0) (.int .i64 2)).bind fun v4 =>
 (marks_Next_s (nth v3 0) (.int .i64 4611686018427387903) (.int .i64 0) (.int .i64 2)).bind fun v5 =>
 ((ref17_Same_s (nth v2 0) (.lst [[(.int .i64 1), (.int .i64 3)], [(.int .i64 2), (.int .i64 5)]])).bind fun v6 =>
 icond (nth v6 0) (fun _ =>
 (ilenL (nth v3 0)).bind fun v7 =>
 (ibin .eql v7 (.int .i64 3)).bind fun v8 =>
 icond v8 (fun _ =>
 (marks_Get_s (nth v3 0) (.int .i64 2)).bind fun v9 =>
 (ibin .eql (nth v9 0) (.int .i64 5)).bind fun v10 =>
 icond v10 (fun _ =>
 (marks_Get_s (nth v3 0) (.int .i64 9)).bind fun v11 =>
 (ibin .eql (nth v11 0) (.int .i64 0)).bind fun v12 =>
 icond v12 (fun _ =>
 (marks_Below_s (nth v2 0) (nth v3 0)).bind fun v13 =>
 icond (nth v13 0) (fun _ =>
 (marks_Below_s (nth v3 0) (nth v2 0)).bind fun v14 =>
 (iun .not (nth v14 0)).bind fun v15 =>
 icond v15 (fun _ =>
 (marks_May_s (nth v3 0)).bind fun v16 =>
 icond (nth v16 0) (fun _ =>
 (marks_May_s (.lst [[(.int .i64 1), (.int .i64 0)]])).bind fun v17 =>
 (iun .not (nth v17 0)).bind fun v18 =>
 icond v18 (fun _ =>
 (ieqs .eql [.i, .i] [(nth v4 0), (nth v4 1)] [(.int .i64 10), (.int .i64 2)]).bind fun v19 =>
 icond v19 (fun _ =>
 icond (nth v4 2) (fun _ =>
 (iun .not (nth v5 2)).bind fun v20 =>
 icond v20 (fun _ =>
 (marks_Of_s (.lst [[(.int .i64 1), (.int .i64 1), (.int .i64 0), (.int .i64 0), (.str ⟨#[]⟩), (.flt .f64 0)], [(.int .i64 2), (.int .i64 1), (.int .i64 0), (.int .i64 0), (.str ⟨#[]⟩), (.flt .f64 0)]])).bind fun v21 =>
 (ref17_Same_s (nth v21 0) (.lst [[(.int .i64 1), (.int .i64 2)]])).bind fun v22 =>
 some [(nth v22 0)]) (fun _ =>
 some [(.bool false)])) (fun _ =>
 some [(.bool false)])) (fun _ =>
 some [(.bool false)])) (fun _ =>
 some [(.bool false)])) (fun _ =>
 some [(.bool false)])) (fun _ =>
 some [(.bool false)])) (fun _ =>
 some [(.bool false)])) (fun _ =>
 some [(.bool false)])) (fun _ =>
 some [(.bool false)])) (fun _ =>
 some [(.bool false)])) (fun _ =>
 some [(.bool false)])).bind fun v23 =>
 scal [(nth v23 0)]

def ref17_Next_l3 (a0 : IV) (v2 : List IV) : Option SR :=
 (ilenL a0).bind fun v3 =>
 (ibin .lss (nth v2 1) v3).bind fun v4 =>
 icond v4 (fun _ =>
 (iidx a0 (nth v2 1) 2).bind fun v5 =>
 (ild a0 v5 1).bind fun v6 =>
 (imax (nth v2 0) v6).bind fun v7 =>
 (ibin .add (nth v2 1) (.int .i64 1)).bind fun v8 =>
 some (.next [v7, v8])) (fun _ =>
 some (.done 0 [(nth v2 0)]))
def ref17_Next_s (a0 a1 a2 a3 : IV) : Option (List IV) :=
 (imax (.int .i64 0) a1).bind fun v1 =>
 (iter rounds (ref17_Next_l3 a0) [v1, (.int .i64 0)]).bind fun v9 =>
 sel v9.1 [((ibin .geq (nth v9.2 0) (.int .i64 4611686018427387903)).bind fun v10 =>
 icond v10 (fun _ =>
 some [(.bool true)]) (fun _ =>
 (ibin .lss a3 (.int .i64 1)).bind fun v11 =>
 icond v11 (fun _ =>
 some [(.bool true)]) (fun _ =>
 (ibin .gtr a3 (.int .i64 255)).bind fun v12 =>
 some [v12]))).bind fun v13 =>
 icond (nth v13 0) (fun _ =>
 scal [(.int .i64 0), (.int .i64 0), (.bool false)]) (fun _ =>
 (ibin .add (nth v9.2 0) (.int .i64 1)).bind fun v14 =>
 scal [v14, a3, (.bool true)])]

def ref17_May_l2 (a0 : IV) (v1 : List IV) : Option SR :=
 (ilenL a0).bind fun v2 =>
 (ibin .lss (nth v1 0) v2).bind fun v3 =>
 icond v3 (fun _ =>
 ((iidx a0 (nth v1 0) 2).bind fun v4 =>
 (ild a0 v4 0).bind fun v5 =>
 (ibin .lss v5 (.int .i64 1)).bind fun v6 =>
 icond v6 (fun _ =>
 some [(.bool true)]) (fun _ =>
 (iidx a0 (nth v1 0) 2).bind fun v7 =>
 (ild a0 v7 0).bind fun v8 =>
 (ibin .gtr v8 (.int .i64 255)).bind fun v9 =>
 icond v9 (fun _ =>
 some [(.bool true)]) (fun _ =>
 (iidx a0 (nth v1 0) 2).bind fun v10 =>
 (ild a0 v10 1).bind fun v11 =>
 (ibin .lss v11 (.int .i64 1)).bind fun v12 =>
 icond v12 (fun _ =>
 some [(.bool true)]) (fun _ =>
 (iidx a0 (nth v1 0) 2).bind fun v13 =>
 (ild a0 v13 1).bind fun v14 =>
 (ibin .gtr v14 (.int .i64 4611686018427387903)).bind fun v15 =>
 icond v15 (fun _ =>
 some [(.bool true)]) (fun _ =>
 (ibin .gtr (nth v1 0) (.int .i64 0)).bind fun v16 =>
 icond v16 (fun _ =>
 (ibin .sub (nth v1 0) (.int .i64 1)).bind fun v17 =>
 (iidx a0 v17 2).bind fun v18 =>
 (ild a0 v18 0).bind fun v19 =>
 (iidx a0 (nth v1 0) 2).bind fun v20 =>
 (ild a0 v20 0).bind fun v21 =>
 (ibin .geq v19 v21).bind fun v22 =>
 some [v22]) (fun _ =>
 some [(.bool false)])))))).bind fun v23 =>
 icond (nth v23 0) (fun _ =>
 some (.done 1 [(.bool false)])) (fun _ =>
 (ibin .add (nth v1 0) (.int .i64 1)).bind fun v24 =>
 some (.next [v24]))) (fun _ =>
 some (.done 0 []))
def ref17_May_s (a0 : IV) : Option (List IV) :=
 (iter rounds (ref17_May_l2 a0) [(.int .i64 0)]).bind fun v25 =>
 sel v25.1 [scal [(.bool true)],
 scal [(nth v25.2 0)]]

def ref17_Get_l2 (a0 : IV) (a1 : IV) (v1 : List IV) : Option SR :=
 (ilenL a0).bind fun v2 =>
 (ibin .lss (nth v1 0) v2).bind fun v3 =>
 icond v3 (fun _ =>
 (iidx a0 (nth v1 0) 2).bind fun v4 =>
 (ild a0 v4 0).bind fun v5 =>
 (ibin .eql v5 a1).bind fun v6 =>
 icond v6 (fun _ =>
 (iidx a0 (nth v1 0) 2).bind fun v7 =>
 (ild a0 v7 1).bind fun v8 =>
 some (.done 1 [v8])) (fun _ =>
 (ibin .add (nth v1 0) (.int .i64 1)).bind fun v9 =>
 some (.next [v9]))) (fun _ =>
 some (.done 0 []))
def ref17_Get_s (a0 a1 : IV) : Option (List IV) :=
 (iter rounds (ref17_Get_l2 a0 a1) [(.int .i64 0)]).bind fun v10 =>
 sel v10.1 [scal [(.int .i64 0)],
 scal [(nth v10.2 0)]]

def ref17_Raise_l3 (a2 : IV) (a1 : IV) (v2 : List IV) : Option SR :=
 (ibin .lss (nth v2 1) (.int .i64 ((llen (nth v2 0)) : Nat))).bind fun v3 =>
 icond v3 (fun _ =>
 (ibidx (llen (nth v2 0)) (nth v2 1)).bind fun v4 =>
 (ild (nth v2 0) v4 0).bind fun v5 =>
 (ibin .eql v5 a2).bind fun v6 =>
 icond v6 (fun _ =>
 (ibidx (llen (nth v2 0)) (nth v2 1)).bind fun v7 =>
 (ild (nth v2 0) v7 1).bind fun v8 =>
 (imax v8 a1).bind fun v9 =>
 (ibidx (llen (nth v2 0)) (nth v2 1)).bind fun v10 =>
 (iset (nth v2 0) v10 1 [v9]).bind fun v11 =>
 some (.done 1 [v11])) (fun _ =>
 (ibin .add (nth v2 1) (.int .i64 1)).bind fun v12 =>
 some (.next [(nth v2 0), v12]))) (fun _ =>
 some (.done 0 [(nth v2 0)]))
def ref17_Raise_l11 (v13 : Nat × List IV) (a2 : IV) (v15 : List IV) : Option SR :=
 ((ibin .lss (nth v15 0) (.int .i64 ((llen (nth v13.2 0)) : Nat))).bind fun v16 =>
 icond v16 (fun _ =>
 (ibidx (llen (nth v13.2 0)) (nth v15 0)).bind fun v17 =>
 (ild (nth v13.2 0) v17 0).bind fun v18 =>
 (ibin .lss v18 a2).bind fun v19 =>
 some [v19]) (fun _ =>
 some [(.bool false)])).bind fun v20 =>
 icond (nth v20 0) (fun _ =>
 (ibin .add (nth v15 0) (.int .i64 1)).bind fun v21 =>
 some (.next [v21])) (fun _ =>
 some (.done 0 [(nth v15 0)]))
def ref17_Raise_s (a0 a1 a2 : IV) : Option (List IV) :=
 (iapp 2 16 (.lst []) a0).bind fun v1 =>
 (iter rounds (ref17_Raise_l3 a2 a1) [v1, (.int .i64 0)]).bind fun v13 =>
 sel v13.1 [(ibin .leq a1 (.int .i64 0)).bind fun v14 =>
 icond v14 (fun _ =>
 some [(nth v13.2 0)]) (fun _ =>
 (iter rounds (ref17_Raise_l11 v13 a2) [(.int .i64 0)]).bind fun v22 =>
 sel v22.1 [(ibnds (llen (nth v13.2 0)) (some (nth v22.2 0)) none).bind fun v23 =>
 (iapp 2 16 (.lst []) (lsub (nth v13.2 0) v23.1 v23.2)).bind fun v24 =>
 (ibnds (llen (nth v13.2 0)) none (some (nth v22.2 0))).bind fun v25 =>
 (iapp 2 16 (lsub (nth v13.2 0) v25.1 v25.2) (.lst [[a2, a1]])).bind fun v26 =>
 (iapp 2 16 v26 v24).bind fun v27 =>
 some [v27]]),
 some [(nth v13.2 0)]]

def ref17_Join_l2 (a1 : IV) (v1 : List IV) : Option SR :=
 (ilenL a1).bind fun v2 =>
 (ibin .lss (nth v1 1) v2).bind fun v3 =>
 icond v3 (fun _ =>
 (iidx a1 (nth v1 1) 2).bind fun v4 =>
 (ild a1 v4 1).bind fun v5 =>
 (iidx a1 (nth v1 1) 2).bind fun v6 =>
 (ild a1 v6 0).bind fun v7 =>
 (ref17_Raise_s (nth v1 0) v5 v7).bind fun v8 =>
 (ibin .add (nth v1 1) (.int .i64 1)).bind fun v9 =>
 some (.next [(nth v8 0), v9])) (fun _ =>
 some (.done 0 [(nth v1 0)]))
def ref17_Join_s (a0 a1 : IV) : Option (List IV) :=
 (iter rounds (ref17_Join_l2 a1) [a0, (.int .i64 0)]).bind fun v10 =>
 sel v10.1 [some [(nth v10.2 0)]]

def ref17_Below_l2 (a0 : IV) (a1 : IV) (v1 : List IV) : Option SR :=
 (ilenL a0).bind fun v2 =>
 (ibin .lss (nth v1 0) v2).bind fun v3 =>
 icond v3 (fun _ =>
 (iidx a0 (nth v1 0) 2).bind fun v4 =>
 (ild a0 v4 0).bind fun v5 =>
 (ref17_Get_s a0 v5).bind fun v6 =>
 (iidx a0 (nth v1 0) 2).bind fun v7 =>
 (ild a0 v7 0).bind fun v8 =>
 (ref17_Get_s a1 v8).bind fun v9 =>
 (ibin .gtr (nth v6 0) (nth v9 0)).bind fun v10 =>
 icond v10 (fun _ =>
 some (.done 1 [(.bool false)])) (fun _ =>
 (ibin .add (nth v1 0) (.int .i64 1)).bind fun v11 =>
 some (.next [v11]))) (fun _ =>
 some (.done 0 []))
def ref17_Below_s (a0 a1 : IV) : Option (List IV) :=
 (iter rounds (ref17_Below_l2 a0 a1) [(.int .i64 0)]).bind fun v12 =>
 sel v12.1 [scal [(.bool true)],
 scal [(nth v12.2 0)]]

def law17_MarksTells_s (a0 a1 a2 a3 : IV) : Option (List IV) :=
 ((ilenL a0).bind fun v1 =>
 (ibin .gtr v1 (.int .i64 60)).bind fun v2 =>
 icond v2 (fun _ =>
 some [(.bool true)]) (fun _ =>
 (ilenL a1).bind fun v3 =>
 (ibin .gtr v3 (.int .i64 60)).bind fun v4 =>
 some [v4])).bind fun v5 =>
 icond (nth v5 0) (fun _ =>
 (law17_live_s).bind fun v6 =>
 scal [(nth v6 0)]) (fun _ =>
 (marks_Next_s a0 a2 a3 a3).bind fun v7 =>
 (ref17_Next_s a0 a2 a3 a3).bind fun v8 =>
 ((marks_May_s a0).bind fun v9 =>
 (ref17_May_s a0).bind fun v10 =>
 (ibinB .eql (nth v9 0) (nth v10 0)).bind fun v11 =>
 icond v11 (fun _ =>
 (marks_Get_s a0 a3).bind fun v12 =>
 (ref17_Get_s a0 a3).bind fun v13 =>
 (ibin .eql (nth v12 0) (nth v13 0)).bind fun v14 =>
 icond v14 (fun _ =>
 (marks_Raise_s a0 a2 a3).bind fun v15 =>
 (ref17_Raise_s a0 a2 a3).bind fun v16 =>
 (ref17_Same_s (nth v15 0) (nth v16 0)).bind fun v17 =>
 icond (nth v17 0) (fun _ =>
 (marks_Join_s a0 a1).bind fun v18 =>
 (ref17_Join_s a0 a1).bind fun v19 =>
 (ref17_Same_s (nth v18 0) (nth v19 0)).bind fun v20 =>
 icond (nth v20 0) (fun _ =>
 (marks_Below_s a0 a1).bind fun v21 =>
 (ref17_Below_s a0 a1).bind fun v22 =>
 (ibinB .eql (nth v21 0) (nth v22 0)).bind fun v23 =>
 icond v23 (fun _ =>
 (ieqs .eql [.i, .i] [(nth v7 0), (nth v7 1)] [(nth v8 0), (nth v8 1)]).bind fun v24 =>
 icond v24 (fun _ =>
 (ibinB .eql (nth v7 2) (nth v8 2)).bind fun v25 =>
 icond v25 (fun _ =>
 (law17_live_s).bind fun v26 =>
 some [(nth v26 0)]) (fun _ =>
 some [(.bool false)])) (fun _ =>
 some [(.bool false)])) (fun _ =>
 some [(.bool false)])) (fun _ =>
 some [(.bool false)])) (fun _ =>
 some [(.bool false)])) (fun _ =>
 some [(.bool false)])) (fun _ =>
 some [(.bool false)])).bind fun v27 =>
 scal [(nth v27 0)])

def ref13_Few_l4 (a0 : IV) (v3 : List IV) : Option SR :=
 (ilenL a0).bind fun v4 =>
 (ibin .lss (nth v3 0) v4).bind fun v5 =>
 icond v5 (fun _ =>
 (iidx a0 (nth v3 0) 6).bind fun v6 =>
 (ild a0 v6 4).bind fun v7 =>
 (ilenS v7).bind fun v8 =>
 (ibin .gtr v8 (.int .i64 100)).bind fun v9 =>
 icond v9 (fun _ =>
 some (.done 1 [(.bool false)])) (fun _ =>
 (ibin .add (nth v3 0) (.int .i64 1)).bind fun v10 =>
 some (.next [v10]))) (fun _ =>
 some (.done 0 []))
def ref13_Few_s (a0 a1 : IV) : Option (List IV) :=
 (ilenL a0).bind fun v1 =>
 (ibin .gtr v1 a1).bind fun v2 =>
 icond v2 (fun _ =>
 scal [(.bool false)]) (fun _ =>
 (iter rounds (ref13_Few_l4 a0) [(.int .i64 0)]).bind fun v11 =>
 sel v11.1 [scal [(.bool true)],
 scal [(nth v11.2 0)]])

def ref17_Of_l3 (a0 : IV) (v1 : List IV) : Option SR :=
 (ilenL a0).bind fun v2 =>
 (ibin .lss (nth v1 1) v2).bind fun v3 =>
 icond v3 (fun _ =>
 (iidx a0 (nth v1 1) 6).bind fun v4 =>
 (ildN a0 v4 0 2).bind fun v5 =>
 (ref17_Raise_s (nth v1 0) (nth v5 0) (nth v5 1)).bind fun v6 =>
 (ibin .add (nth v1 1) (.int .i64 1)).bind fun v7 =>
 some (.next [(nth v6 0), v7])) (fun _ =>
 some (.done 0 [(nth v1 0)]))
def ref17_Of_s (a0 : IV) : Option (List IV) :=
 (iter rounds (ref17_Of_l3 a0) [(.lst []), (.int .i64 0)]).bind fun v8 =>
 sel v8.1 [some [(nth v8.2 0)]]

def law17_MarksOf_s (a0 : IV) : Option (List IV) :=
 (ref13_Few_s a0 (.int .i64 60)).bind fun v1 =>
 (iun .not (nth v1 0)).bind fun v2 =>
 icond v2 (fun _ =>
 (law17_live_s).bind fun v3 =>
 scal [(nth v3 0)]) (fun _ =>
 ((marks_Of_s a0).bind fun v4 =>
 (ref17_Of_s a0).bind fun v5 =>
 (ref17_Same_s (nth v4 0) (nth v5 0)).bind fun v6 =>
 icond (nth v6 0) (fun _ =>
 (law17_live_s).bind fun v7 =>
 some [(nth v7 0)]) (fun _ =>
 some [(.bool false)])).bind fun v8 =>
 scal [(nth v8 0)])

def law17_MarksJoin_s (a0 a1 a2 : IV) : Option (List IV) :=
 ((ilenL a0).bind fun v1 =>
 (ibin .gtr v1 (.int .i64 60)).bind fun v2 =>
 icond v2 (fun _ =>
 some [(.bool true)]) (fun _ =>
 (ilenL a1).bind fun v3 =>
 (ibin .gtr v3 (.int .i64 60)).bind fun v4 =>
 icond v4 (fun _ =>
 some [(.bool true)]) (fun _ =>
 (ilenL a2).bind fun v5 =>
 (ibin .gtr v5 (.int .i64 60)).bind fun v6 =>
 icond v6 (fun _ =>
 some [(.bool true)]) (fun _ =>
 (ref17_May_s a0).bind fun v7 =>
 (iun .not (nth v7 0)).bind fun v8 =>
 icond v8 (fun _ =>
 some [(.bool true)]) (fun _ =>
 (ref17_May_s a1).bind fun v9 =>
 (iun .not (nth v9 0)).bind fun v10 =>
 icond v10 (fun _ =>
 some [(.bool true)]) (fun _ =>
 (ref17_May_s a2).bind fun v11 =>
 (iun .not (nth v11 0)).bind fun v12 =>
 some [v12])))))).bind fun v13 =>
 icond (nth v13 0) (fun _ =>
 (law17_live_s).bind fun v14 =>
 scal [(nth v14 0)]) (fun _ =>
 (marks_Join_s a0 a1).bind fun v15 =>
 ((marks_May_s (nth v15 0)).bind fun v16 =>
 (iun .not (nth v16 0)).bind fun v17 =>
 icond v17 (fun _ =>
 some [(.bool true)]) (fun _ =>
 (marks_Below_s a0 (nth v15 0)).bind fun v18 =>
 (iun .not (nth v18 0)).bind fun v19 =>
 icond v19 (fun _ =>
 some [(.bool true)]) (fun _ =>
 (marks_Below_s a1 (nth v15 0)).bind fun v20 =>
 (iun .not (nth v20 0)).bind fun v21 =>
 icond v21 (fun _ =>
 some [(.bool true)]) (fun _ =>
 (marks_Join_s a1 a0).bind fun v22 =>
 (ref17_Same_s (nth v15 0) (nth v22 0)).bind fun v23 =>
 (iun .not (nth v23 0)).bind fun v24 =>
 icond v24 (fun _ =>
 some [(.bool true)]) (fun _ =>
 (marks_Join_s a0 a0).bind fun v25 =>
 (ref17_Same_s (nth v25 0) a0).bind fun v26 =>
 (iun .not (nth v26 0)).bind fun v27 =>
 some [v27]))))).bind fun v28 =>
 icond (nth v28 0) (fun _ =>
 scal [(.bool false)]) (fun _ =>
 ((marks_Below_s a0 a2).bind fun v29 =>
 icond (nth v29 0) (fun _ =>
 (marks_Below_s a1 a2).bind fun v30 =>
 icond (nth v30 0) (fun _ =>
 (marks_Below_s (nth v15 0) a2).bind fun v31 =>
 (iun .not (nth v31 0)).bind fun v32 =>
 some [v32]) (fun _ =>
 some [(.bool false)])) (fun _ =>
 some [(.bool false)])).bind fun v33 =>
 icond (nth v33 0) (fun _ =>
 scal [(.bool false)]) (fun _ =>
 ((marks_Join_s (nth v15 0) a2).bind fun v34 =>
 (marks_Join_s a1 a2).bind fun v35 =>
 (marks_Join_s a0 (nth v35 0)).bind fun v36 =>
 (ref17_Same_s (nth v34 0) (nth v36 0)).bind fun v37 =>
 icond (nth v37 0) (fun _ =>
 (marks_Below_s a0 a1).bind fun v38 =>
 (ref17_Same_s (nth v15 0) a1).bind fun v39 =>
 (ibinB .eql (nth v38 0) (nth v39 0)).bind fun v40 =>
 icond v40 (fun _ =>
 (law17_live_s).bind fun v41 =>
 some [(nth v41 0)]) (fun _ =>
 some [(.bool false)])) (fun _ =>
 some [(.bool false)])).bind fun v42 =>
 scal [(nth v42 0)])))

def ref13_Time_s (a0 a1 : IV) : Option (List IV) :=
 ((ibin .geq a0 (.int .i64 1)).bind fun v1 =>
 icond v1 (fun _ =>
 (ibin .leq a0 (.int .i64 4611686018427387903)).bind fun v2 =>
 icond v2 (fun _ =>
 (ibin .geq a1 (.int .i64 1)).bind fun v3 =>
 icond v3 (fun _ =>
 (ibin .leq a1 (.int .i64 255)).bind fun v4 =>
 some [v4]) (fun _ =>
 some [(.bool false)])) (fun _ =>
 some [(.bool false)])) (fun _ =>
 some [(.bool false)])).bind fun v5 =>
 scal [(nth v5 0)]

def ref13_Row_s (a0 a1 a2 a3 a4 a5 : IV) : Option (List IV) :=
 scal [a3, a2, a4, a5]

def ref04_in_s (a0 a1 a2 a3 : IV) : Option (List IV) :=
 ((ilenS a0).bind fun v1 =>
 (ibin .lss a1 v1).bind fun v2 =>
 icond v2 (fun _ =>
 (istr a0 a1).bind fun v3 =>
 (icii .i64 v3).bind fun v4 =>
 (ibin .geq v4 a2).bind fun v5 =>
 icond v5 (fun _ =>
 (istr a0 a1).bind fun v6 =>
 (icii .i64 v6).bind fun v7 =>
 (ibin .leq v7 a3).bind fun v8 =>
 some [v8]) (fun _ =>
 some [(.bool false)])) (fun _ =>
 some [(.bool false)])).bind fun v9 =>
 scal [(nth v9 0)]

def ref04_sign_s (a0 a1 : IV) : Option (List IV) :=
 (ref04_in_s a0 a1 (.int .i64 0) (.int .i64 127)).bind fun v1 =>
 icond (nth v1 0) (fun _ =>
 scal [(.int .i64 1)]) (fun _ =>
 ((ref04_in_s a0 a1 (.int .i64 194) (.int .i64 223)).bind fun v2 =>
 icond (nth v2 0) (fun _ =>
 (ibin .add a1 (.int .i64 1)).bind fun v3 =>
 (ref04_in_s a0 v3 (.int .i64 128) (.int .i64 191)).bind fun v4 =>
 some [(nth v4 0)]) (fun _ =>
 some [(.bool false)])).bind fun v5 =>
 icond (nth v5 0) (fun _ =>
 scal [(.int .i64 2)]) (fun _ =>
 ((ibin .add a1 (.int .i64 2)).bind fun v6 =>
 (ref04_in_s a0 v6 (.int .i64 128) (.int .i64 191)).bind fun v7 =>
 icond (nth v7 0) (fun _ =>
 (ref04_in_s a0 a1 (.int .i64 224) (.int .i64 224)).bind fun v8 =>
 icond (nth v8 0) (fun _ =>
 (ibin .add a1 (.int .i64 1)).bind fun v9 =>
 (ref04_in_s a0 v9 (.int .i64 160) (.int .i64 191)).bind fun v10 =>
 icond (nth v10 0) (fun _ =>
 some [(.bool true)]) (fun _ =>
 (ref04_in_s a0 a1 (.int .i64 225) (.int .i64 236)).bind fun v11 =>
 icond (nth v11 0) (fun _ =>
 (ibin .add a1 (.int .i64 1)).bind fun v12 =>
 (ref04_in_s a0 v12 (.int .i64 128) (.int .i64 191)).bind fun v13 =>
 icond (nth v13 0) (fun _ =>
 some [(.bool true)]) (fun _ =>
 (ref04_in_s a0 a1 (.int .i64 238) (.int .i64 239)).bind fun v14 =>
 icond (nth v14 0) (fun _ =>
 (ibin .add a1 (.int .i64 1)).bind fun v15 =>
 (ref04_in_s a0 v15 (.int .i64 128) (.int .i64 191)).bind fun v16 =>
 icond (nth v16 0) (fun _ =>
 some [(.bool true)]) (fun _ =>
 (ref04_in_s a0 a1 (.int .i64 237) (.int .i64 237)).bind fun v17 =>
 icond (nth v17 0) (fun _ =>
 (ibin .add a1 (.int .i64 1)).bind fun v18 =>
 (ref04_in_s a0 v18 (.int .i64 128) (.int .i64 159)).bind fun v19 =>
 some [(nth v19 0)]) (fun _ =>
 some [(.bool false)]))) (fun _ =>
 (ref04_in_s a0 a1 (.int .i64 237) (.int .i64 237)).bind fun v20 =>
 icond (nth v20 0) (fun _ =>
 (ibin .add a1 (.int .i64 1)).bind fun v21 =>
 (ref04_in_s a0 v21 (.int .i64 128) (.int .i64 159)).bind fun v22 =>
 some [(nth v22 0)]) (fun _ =>
 some [(.bool false)])))) (fun _ =>
 (ref04_in_s a0 a1 (.int .i64 238) (.int .i64 239)).bind fun v23 =>
 icond (nth v23 0) (fun _ =>
 (ibin .add a1 (.int .i64 1)).bind fun v24 =>
 (ref04_in_s a0 v24 (.int .i64 128) (.int .i64 191)).bind fun v25 =>
 icond (nth v25 0) (fun _ =>
 some [(.bool true)]) (fun _ =>
 (ref04_in_s a0 a1 (.int .i64 237) (.int .i64 237)).bind fun v26 =>
 icond (nth v26 0) (fun _ =>
 (ibin .add a1 (.int .i64 1)).bind fun v27 =>
 (ref04_in_s a0 v27 (.int .i64 128) (.int .i64 159)).bind fun v28 =>
 some [(nth v28 0)]) (fun _ =>
 some [(.bool false)]))) (fun _ =>
 (ref04_in_s a0 a1 (.int .i64 237) (.int .i64 237)).bind fun v29 =>
 icond (nth v29 0) (fun _ =>
 (ibin .add a1 (.int .i64 1)).bind fun v30 =>
 (ref04_in_s a0 v30 (.int .i64 128) (.int .i64 159)).bind fun v31 =>
 some [(nth v31 0)]) (fun _ =>
 some [(.bool false)]))))) (fun _ =>
 (ref04_in_s a0 a1 (.int .i64 225) (.int .i64 236)).bind fun v32 =>
 icond (nth v32 0) (fun _ =>
 (ibin .add a1 (.int .i64 1)).bind fun v33 =>
 (ref04_in_s a0 v33 (.int .i64 128) (.int .i64 191)).bind fun v34 =>
 icond (nth v34 0) (fun _ =>
 some [(.bool true)]) (fun _ =>
 (ref04_in_s a0 a1 (.int .i64 238) (.int .i64 239)).bind fun v35 =>
 icond (nth v35 0) (fun _ =>
 (ibin .add a1 (.int .i64 1)).bind fun v36 =>
 (ref04_in_s a0 v36 (.int .i64 128) (.int .i64 191)).bind fun v37 =>
 icond (nth v37 0) (fun _ =>
 some [(.bool true)]) (fun _ =>
 (ref04_in_s a0 a1 (.int .i64 237) (.int .i64 237)).bind fun v38 =>
 icond (nth v38 0) (fun _ =>
 (ibin .add a1 (.int .i64 1)).bind fun v39 =>
 (ref04_in_s a0 v39 (.int .i64 128) (.int .i64 159)).bind fun v40 =>
 some [(nth v40 0)]) (fun _ =>
 some [(.bool false)]))) (fun _ =>
 (ref04_in_s a0 a1 (.int .i64 237) (.int .i64 237)).bind fun v41 =>
 icond (nth v41 0) (fun _ =>
 (ibin .add a1 (.int .i64 1)).bind fun v42 =>
 (ref04_in_s a0 v42 (.int .i64 128) (.int .i64 159)).bind fun v43 =>
 some [(nth v43 0)]) (fun _ =>
 some [(.bool false)])))) (fun _ =>
 (ref04_in_s a0 a1 (.int .i64 238) (.int .i64 239)).bind fun v44 =>
 icond (nth v44 0) (fun _ =>
 (ibin .add a1 (.int .i64 1)).bind fun v45 =>
 (ref04_in_s a0 v45 (.int .i64 128) (.int .i64 191)).bind fun v46 =>
 icond (nth v46 0) (fun _ =>
 some [(.bool true)]) (fun _ =>
 (ref04_in_s a0 a1 (.int .i64 237) (.int .i64 237)).bind fun v47 =>
 icond (nth v47 0) (fun _ =>
 (ibin .add a1 (.int .i64 1)).bind fun v48 =>
 (ref04_in_s a0 v48 (.int .i64 128) (.int .i64 159)).bind fun v49 =>
 some [(nth v49 0)]) (fun _ =>
 some [(.bool false)]))) (fun _ =>
 (ref04_in_s a0 a1 (.int .i64 237) (.int .i64 237)).bind fun v50 =>
 icond (nth v50 0) (fun _ =>
 (ibin .add a1 (.int .i64 1)).bind fun v51 =>
 (ref04_in_s a0 v51 (.int .i64 128) (.int .i64 159)).bind fun v52 =>
 some [(nth v52 0)]) (fun _ =>
 some [(.bool false)]))))) (fun _ =>
 some [(.bool false)])).bind fun v53 =>
 icond (nth v53 0) (fun _ =>
 scal [(.int .i64 3)]) (fun _ =>
 ((ibin .add a1 (.int .i64 2)).bind fun v54 =>
 (ref04_in_s a0 v54 (.int .i64 128) (.int .i64 191)).bind fun v55 =>
 icond (nth v55 0) (fun _ =>
 (ibin .add a1 (.int .i64 3)).bind fun v56 =>
 (ref04_in_s a0 v56 (.int .i64 128) (.int .i64 191)).bind fun v57 =>
 icond (nth v57 0) (fun _ =>
 (ref04_in_s a0 a1 (.int .i64 240) (.int .i64 240)).bind fun v58 =>
 icond (nth v58 0) (fun _ =>
 (ibin .add a1 (.int .i64 1)).bind fun v59 =>
 (ref04_in_s a0 v59 (.int .i64 144) (.int .i64 191)).bind fun v60 =>
 icond (nth v60 0) (fun _ =>
 some [(.bool true)]) (fun _ =>
 (ref04_in_s a0 a1 (.int .i64 241) (.int .i64 243)).bind fun v61 =>
 icond (nth v61 0) (fun _ =>
 (ibin .add a1 (.int .i64 1)).bind fun v62 =>
 (ref04_in_s a0 v62 (.int .i64 128) (.int .i64 191)).bind fun v63 =>
 icond (nth v63 0) (fun _ =>
 some [(.bool true)]) (fun _ =>
 (ref04_in_s a0 a1 (.int .i64 244) (.int .i64 244)).bind fun v64 =>
 icond (nth v64 0) (fun _ =>
 (ibin .add a1 (.int .i64 1)).bind fun v65 =>
 (ref04_in_s a0 v65 (.int .i64 128) (.int .i64 143)).bind fun v66 =>
 some [(nth v66 0)]) (fun _ =>
 some [(.bool false)]))) (fun _ =>
 (ref04_in_s a0 a1 (.int .i64 244) (.int .i64 244)).bind fun v67 =>
 icond (nth v67 0) (fun _ =>
 (ibin .add a1 (.int .i64 1)).bind fun v68 =>
 (ref04_in_s a0 v68 (.int .i64 128) (.int .i64 143)).bind fun v69 =>
 some [(nth v69 0)]) (fun _ =>
 some [(.bool false)])))) (fun _ =>
 (ref04_in_s a0 a1 (.int .i64 241) (.int .i64 243)).bind fun v70 =>
 icond (nth v70 0) (fun _ =>
 (ibin .add a1 (.int .i64 1)).bind fun v71 =>
 (ref04_in_s a0 v71 (.int .i64 128) (.int .i64 191)).bind fun v72 =>
 icond (nth v72 0) (fun _ =>
 some [(.bool true)]) (fun _ =>
 (ref04_in_s a0 a1 (.int .i64 244) (.int .i64 244)).bind fun v73 =>
 icond (nth v73 0) (fun _ =>
 (ibin .add a1 (.int .i64 1)).bind fun v74 =>
 (ref04_in_s a0 v74 (.int .i64 128) (.int .i64 143)).bind fun v75 =>
 some [(nth v75 0)]) (fun _ =>
 some [(.bool false)]))) (fun _ =>
 (ref04_in_s a0 a1 (.int .i64 244) (.int .i64 244)).bind fun v76 =>
 icond (nth v76 0) (fun _ =>
 (ibin .add a1 (.int .i64 1)).bind fun v77 =>
 (ref04_in_s a0 v77 (.int .i64 128) (.int .i64 143)).bind fun v78 =>
 some [(nth v78 0)]) (fun _ =>
 some [(.bool false)])))) (fun _ =>
 some [(.bool false)])) (fun _ =>
 some [(.bool false)])).bind fun v79 =>
 icond (nth v79 0) (fun _ =>
 scal [(.int .i64 4)]) (fun _ =>
 scal [(.int .i64 0)]))))

def ref04_First_l2 (a0 : IV) (v1 : List IV) : Option SR :=
 (ilenS a0).bind fun v2 =>
 (ibin .lss (nth v1 0) v2).bind fun v3 =>
 icond v3 (fun _ =>
 (ref04_sign_s a0 (nth v1 0)).bind fun v4 =>
 (ibin .eql (nth v4 0) (.int .i64 0)).bind fun v5 =>
 icond v5 (fun _ =>
 some (.done 1 [(nth v1 0), (.bool true)])) (fun _ =>
 (ibin .add (nth v1 0) (nth v4 0)).bind fun v6 =>
 some (.next [v6]))) (fun _ =>
 some (.done 0 []))
def ref04_First_s (a0 : IV) : Option (List IV) :=
 (iter rounds (ref04_First_l2 a0) [(.int .i64 0)]).bind fun v7 =>
 sel v7.1 [scal [(.int .i64 0), (.bool false)],
 scal [(nth v7.2 0), (nth v7.2 1)]]

def ref04_Valid_s (a0 : IV) : Option (List IV) :=
 (ref04_First_s a0).bind fun v1 =>
 (iun .not (nth v1 1)).bind fun v2 =>
 scal [v2]

def ref12_One_s (a0 a1 a2 a3 : IV) : Option (List IV) :=
 ((ibin .geq a0 (.int .i64 1)).bind fun v1 =>
 icond v1 (fun _ =>
 (ibin .leq a0 (.int .i64 2147483647)).bind fun v2 =>
 icond v2 (fun _ =>
 (ibin .geq a1 (.int .i64 0)).bind fun v3 =>
 icond v3 (fun _ =>
 (ibin .leq a1 (.int .i64 2147483647)).bind fun v4 =>
 icond v4 (fun _ =>
 (ilenS a2).bind fun v5 =>
 (ibin .leq v5 (.int .i64 64)).bind fun v6 =>
 icond v6 (fun _ =>
 (ref04_Valid_s a2).bind fun v7 =>
 some [(nth v7 0)]) (fun _ =>
 some [(.bool false)])) (fun _ =>
 some [(.bool false)])) (fun _ =>
 some [(.bool false)])) (fun _ =>
 some [(.bool false)])) (fun _ =>
 some [(.bool false)])).bind fun v8 =>
 scal [(nth v8 0)]

def ref13_One_s (a0 a1 a2 a3 a4 a5 : IV) : Option (List IV) :=
 ((ref13_Time_s a0 a1).bind fun v1 =>
 icond (nth v1 0) (fun _ =>
 (ref13_Row_s a0 a1 a2 a3 a4 a5).bind fun v2 =>
 (ref12_One_s (nth v2 0) (nth v2 1) (nth v2 2) (nth v2 3)).bind fun v3 =>
 some [(nth v3 0)]) (fun _ =>
 some [(.bool false)])).bind fun v4 =>
 scal [(nth v4 0)]

def ref02_Before_s (a0 a1 a2 a3 : IV) : Option (List IV) :=
 ((ibin .lss a0 a2).bind fun v1 =>
 icond v1 (fun _ =>
 some [(.bool true)]) (fun _ =>
 (ibin .eql a0 a2).bind fun v2 =>
 icond v2 (fun _ =>
 (ibin .lss a1 a3).bind fun v3 =>
 some [v3]) (fun _ =>
 some [(.bool false)]))).bind fun v4 =>
 scal [(nth v4 0)]

def ref13_May_l4 (a0 : IV) (v3 : List IV) : Option SR :=
 (ilenL a0).bind fun v4 =>
 (ibin .lss (nth v3 0) v4).bind fun v5 =>
 icond v5 (fun _ =>
 ((iidx a0 (nth v3 0) 6).bind fun v6 =>
 (ildN a0 v6 0 6).bind fun v7 =>
 (ref13_One_s (nth v7 0) (nth v7 1) (nth v7 2) (nth v7 3) (nth v7 4) (nth v7 5)).bind fun v8 =>
 (iun .not (nth v8 0)).bind fun v9 =>
 icond v9 (fun _ =>
 some [(.bool true)]) (fun _ =>
 (ibin .gtr (nth v3 0) (.int .i64 0)).bind fun v10 =>
 icond v10 (fun _ =>
 (ibin .sub (nth v3 0) (.int .i64 1)).bind fun v11 =>
 (iidx a0 v11 6).bind fun v12 =>
 (ildN a0 v12 0 2).bind fun v13 =>
 (iidx a0 (nth v3 0) 6).bind fun v14 =>
 (ildN a0 v14 0 2).bind fun v15 =>
 (ref02_Before_s (nth v13 0) (nth v13 1) (nth v15 0) (nth v15 1)).bind fun v16 =>
 (iun .not (nth v16 0)).bind fun v17 =>
 some [v17]) (fun _ =>
 some [(.bool false)]))).bind fun v18 =>
 icond (nth v18 0) (fun _ =>
 some (.done 1 [(.bool false)])) (fun _ =>
 (ibin .add (nth v3 0) (.int .i64 1)).bind fun v19 =>
 some (.next [v19]))) (fun _ =>
 some (.done 0 []))
def ref13_May_s (a0 : IV) : Option (List IV) :=
 (ilenL a0).bind fun v1 =>
 (ibin .gtr v1 (.int .i64 2000)).bind fun v2 =>
 icond v2 (fun _ =>
 scal [(.bool false)]) (fun _ =>
 (iter rounds (ref13_May_l4 a0) [(.int .i64 0)]).bind fun v20 =>
 sel v20.1 [scal [(.bool true)],
 scal [(nth v20.2 0)]])

def law17_MarksMoves_l7 (a0 : IV) (v10 : List IV) (v13 : List IV) : Option SR :=
 (ilenL a0).bind fun v14 =>
 (ibin .lss (nth v13 0) v14).bind fun v15 =>
 icond v15 (fun _ =>
 (iidx a0 (nth v13 0) 6).bind fun v16 =>
 (ild a0 v16 0).bind fun v17 =>
 (iidx a0 (nth v13 0) 6).bind fun v18 =>
 (ild a0 v18 1).bind fun v19 =>
 (marks_Get_s (nth v10 0) v19).bind fun v20 =>
 (ibin .gtr v17 (nth v20 0)).bind fun v21 =>
 icond v21 (fun _ =>
 some (.done 1 [(.bool false)])) (fun _ =>
 (ibin .add (nth v13 0) (.int .i64 1)).bind fun v22 =>
 some (.next [v22]))) (fun _ =>
 some (.done 0 []))
def law17_MarksMoves_l16 (a0 : IV) (v10 : List IV) (v24 : List IV) (v27 : List IV) : Option SR :=
 (ilenL a0).bind fun v28 =>
 (ibin .lss (nth v27 1) v28).bind fun v29 =>
 icond v29 (fun _ =>
 (icond (nth v27 0) (fun _ =>
 some [(.bool true)]) (fun _ =>
 (iidx a0 (nth v27 1) 6).bind fun v30 =>
 (ild a0 v30 0).bind fun v31 =>
 (iidx (nth v10 0) (nth v24 0) 2).bind fun v32 =>
 (ild (nth v10 0) v32 1).bind fun v33 =>
 (ibin .eql v31 v33).bind fun v34 =>
 icond v34 (fun _ =>
 (iidx a0 (nth v27 1) 6).bind fun v35 =>
 (ild a0 v35 1).bind fun v36 =>
 (iidx (nth v10 0) (nth v24 0) 2).bind fun v37 =>
 (ild (nth v10 0) v37 0).bind fun v38 =>
 (ibin .eql v36 v38).bind fun v39 =>
 some [v39]) (fun _ =>
 some [(.bool false)]))).bind fun v40 =>
 (ibin .add (nth v27 1) (.int .i64 1)).bind fun v41 =>
 some (.next [(nth v40 0), v41])) (fun _ =>
 some (.done 0 [(nth v27 0)]))
def law17_MarksMoves_l12 (v10 : List IV) (a0 : IV) (v24 : List IV) : Option SR :=
 (ilenL (nth v10 0)).bind fun v25 =>
 (ibin .lss (nth v24 0) v25).bind fun v26 =>
 icond v26 (fun _ =>
 (iter rounds (law17_MarksMoves_l16 a0 v10 v24) [(.bool false), (.int .i64 0)]).bind fun v42 =>
 sel v42.1 [(iun .not (nth v42.2 0)).bind fun v43 =>
 icond v43 (fun _ =>
 some (.done 1 [(.bool false)])) (fun _ =>
 (ibin .add (nth v24 0) (.int .i64 1)).bind fun v44 =>
 some (.next [v44]))]) (fun _ =>
 some (.done 0 []))
def law17_MarksMoves_s (a0 a1 : IV) : Option (List IV) :=
 ((ref13_Few_s a0 (.int .i64 60)).bind fun v1 =>
 (iun .not (nth v1 0)).bind fun v2 =>
 icond v2 (fun _ =>
 some [(.bool true)]) (fun _ =>
 (ref13_May_s a0).bind fun v3 =>
 (iun .not (nth v3 0)).bind fun v4 =>
 icond v4 (fun _ =>
 some [(.bool true)]) (fun _ =>
 (ibin .lss a1 (.int .i64 0)).bind fun v5 =>
 icond v5 (fun _ =>
 some [(.bool true)]) (fun _ =>
 (ilenL a0).bind fun v6 =>
 (ibin .gtr a1 v6).bind fun v7 =>
 some [v7])))).bind fun v8 =>
 icond (nth v8 0) (fun _ =>
 (law17_live_s).bind fun v9 =>
 scal [(nth v9 0)]) (fun _ =>
 (marks_Of_s a0).bind fun v10 =>
 (marks_May_s (nth v10 0)).bind fun v11 =>
 (iun .not (nth v11 0)).bind fun v12 =>
 icond v12 (fun _ =>
 scal [(.bool false)]) (fun _ =>
 (iter rounds (law17_MarksMoves_l7 a0 v10) [(.int .i64 0)]).bind fun v23 =>
 sel v23.1 [(iter rounds (law17_MarksMoves_l12 v10 a0) [(.int .i64 0)]).bind fun v45 =>
 sel v45.1 [((islcL 6 a0 none (some a1)).bind fun v46 =>
 (marks_Of_s v46).bind fun v47 =>
 (islcL 6 a0 (some a1) none).bind fun v48 =>
 (marks_Of_s v48).bind fun v49 =>
 (marks_Join_s (nth v47 0) (nth v49 0)).bind fun v50 =>
 (ref17_Same_s (nth v10 0) (nth v50 0)).bind fun v51 =>
 icond (nth v51 0) (fun _ =>
 (law17_live_s).bind fun v52 =>
 some [(nth v52 0)]) (fun _ =>
 some [(.bool false)])).bind fun v53 =>
 scal [(nth v53 0)],
 scal [(nth v45.2 0)]],
 scal [(nth v23.2 0)]]))

def law17_MarksNext_l8 (a0 : IV) (v11 : List IV) (v16 : List IV) : Option SR :=
 (ilenL a0).bind fun v17 =>
 (ibin .lss (nth v16 0) v17).bind fun v18 =>
 icond v18 (fun _ =>
 (iidx a0 (nth v16 0) 6).bind fun v19 =>
 (ildN a0 v19 0 2).bind fun v20 =>
 (ref02_Before_s (nth v20 0) (nth v20 1) (nth v11 0) (nth v11 1)).bind fun v21 =>
 (iun .not (nth v21 0)).bind fun v22 =>
 icond v22 (fun _ =>
 some (.done 1 [(.bool false)])) (fun _ =>
 (ibin .add (nth v16 0) (.int .i64 1)).bind fun v23 =>
 some (.next [v23]))) (fun _ =>
 some (.done 0 []))
def law17_MarksNext_s (a0 a1 a2 a3 : IV) : Option (List IV) :=
 ((ref13_Few_s a0 (.int .i64 60)).bind fun v1 =>
 (iun .not (nth v1 0)).bind fun v2 =>
 icond v2 (fun _ =>
 some [(.bool true)]) (fun _ =>
 (ref13_May_s a0).bind fun v3 =>
 (iun .not (nth v3 0)).bind fun v4 =>
 icond v4 (fun _ =>
 some [(.bool true)]) (fun _ =>
 (ieqs .neq [.i, .i] [a1, a2] [(.int .i64 0), (.int .i64 0)]).bind fun v5 =>
 icond v5 (fun _ =>
 (ref13_Time_s a1 a2).bind fun v6 =>
 (iun .not (nth v6 0)).bind fun v7 =>
 some [v7]) (fun _ =>
 some [(.bool false)])))).bind fun v8 =>
 icond (nth v8 0) (fun _ =>
 (law17_live_s).bind fun v9 =>
 scal [(nth v9 0)]) (fun _ =>
 (marks_Of_s a0).bind fun v10 =>
 (marks_Next_s (nth v10 0) a1 a2 a3).bind fun v11 =>
 (iun .not (nth v11 2)).bind fun v12 =>
 icond v12 (fun _ =>
 ((ieqs .eql [.i, .i] [(nth v11 0), (nth v11 1)] [(.int .i64 0), (.int .i64 0)]).bind fun v13 =>
 icond v13 (fun _ =>
 (law17_live_s).bind fun v14 =>
 some [(nth v14 0)]) (fun _ =>
 some [(.bool false)])).bind fun v15 =>
 scal [(nth v15 0)]) (fun _ =>
 (iter rounds (law17_MarksNext_l8 a0 v11) [(.int .i64 0)]).bind fun v24 =>
 sel v24.1 [((ref02_Before_s a1 a2 (nth v11 0) (nth v11 1)).bind fun v25 =>
 icond (nth v25 0) (fun _ =>
 (ibin .eql (nth v11 1) a3).bind fun v26 =>
 icond v26 (fun _ =>
 (marks_Raise_s (nth v10 0) (nth v11 0) (nth v11 1)).bind fun v27 =>
 (marks_Get_s (nth v27 0) a3).bind fun v28 =>
 (ibin .eql (nth v28 0) (nth v11 0)).bind fun v29 =>
 icond v29 (fun _ =>
 (law17_live_s).bind fun v30 =>
 some [(nth v30 0)]) (fun _ =>
 some [(.bool false)])) (fun _ =>
 some [(.bool false)])) (fun _ =>
 some [(.bool false)])).bind fun v31 =>
 scal [(nth v31 0)],
 scal [(nth v24.2 0)]]))

def law17_MarksOrder_s (a0 a1 a2 a3 : IV) : Option (List IV) :=
 ((ilenL a0).bind fun v1 =>
 (ibin .gtr v1 (.int .i64 60)).bind fun v2 =>
 icond v2 (fun _ =>
 some [(.bool true)]) (fun _ =>
 (ilenL a1).bind fun v3 =>
 (ibin .gtr v3 (.int .i64 60)).bind fun v4 =>
 icond v4 (fun _ =>
 some [(.bool true)]) (fun _ =>
 (ref17_May_s a0).bind fun v5 =>
 (iun .not (nth v5 0)).bind fun v6 =>
 icond v6 (fun _ =>
 some [(.bool true)]) (fun _ =>
 (ref17_May_s a1).bind fun v7 =>
 (iun .not (nth v7 0)).bind fun v8 =>
 icond v8 (fun _ =>
 some [(.bool true)]) (fun _ =>
 (ref13_Time_s a2 a3).bind fun v9 =>
 (iun .not (nth v9 0)).bind fun v10 =>
 some [v10]))))).bind fun v11 =>
 icond (nth v11 0) (fun _ =>
 (law17_live_s).bind fun v12 =>
 scal [(nth v12 0)]) (fun _ =>
 (marks_Raise_s a1 a2 a3).bind fun v13 =>
 ((marks_Below_s a0 a1).bind fun v14 =>
 icond (nth v14 0) (fun _ =>
 (marks_Below_s a0 (nth v13 0)).bind fun v15 =>
 (iun .not (nth v15 0)).bind fun v16 =>
 icond v16 (fun _ =>
 some [(.bool true)]) (fun _ =>
 (marks_Below_s a0 a1).bind fun v17 =>
 icond (nth v17 0) (fun _ =>
 (marks_Below_s a1 a0).bind fun v18 =>
 icond (nth v18 0) (fun _ =>
 (ref17_Same_s a0 a1).bind fun v19 =>
 (iun .not (nth v19 0)).bind fun v20 =>
 some [v20]) (fun _ =>
 some [(.bool false)])) (fun _ =>
 some [(.bool false)]))) (fun _ =>
 (marks_Below_s a0 a1).bind fun v21 =>
 icond (nth v21 0) (fun _ =>
 (marks_Below_s a1 a0).bind fun v22 =>
 icond (nth v22 0) (fun _ =>
 (ref17_Same_s a0 a1).bind fun v23 =>
 (iun .not (nth v23 0)).bind fun v24 =>
 some [v24]) (fun _ =>
 some [(.bool false)])) (fun _ =>
 some [(.bool false)]))).bind fun v25 =>
 icond (nth v25 0) (fun _ =>
 scal [(.bool false)]) (fun _ =>
 (marks_Get_s a1 a3).bind fun v26 =>
 (ibin .leq a2 (nth v26 0)).bind fun v27 =>
 ((marks_Below_s (nth v13 0) a1).bind fun v28 =>
 (ibinB .eql (nth v28 0) v27).bind fun v29 =>
 icond v29 (fun _ =>
 (marks_Below_s a1 (nth v13 0)).bind fun v30 =>
 icond (nth v30 0) (fun _ =>
 (marks_Get_s (nth v13 0) a3).bind fun v31 =>
 (marks_Get_s a1 a3).bind fun v32 =>
 (imax a2 (nth v32 0)).bind fun v33 =>
 (ibin .eql (nth v31 0) v33).bind fun v34 =>
 icond v34 (fun _ =>
 (law17_live_s).bind fun v35 =>
 some [(nth v35 0)]) (fun _ =>
 some [(.bool false)])) (fun _ =>
 some [(.bool false)])) (fun _ =>
 some [(.bool false)])).bind fun v36 =>
 scal [(nth v36 0)]))

def moves_seek_l2 (C : IV → List Nat → List (List IV) → Option (List IV)) (v1 : IV) (a0 : IV) (a3 : IV) (a1 : IV) (a2 : IV) (v2 : List IV) : Option SR :=
 (ibin .lss (nth v2 0) v1).bind fun v3 =>
 icond v3 (fun _ =>
 (iidx a0 (nth v2 0) 6).bind fun v4 =>
 (ildN a0 v4 0 6).bind fun v5 =>
 (C a3 [1] [[a1, a2], [(nth v5 0), (nth v5 1), (nth v5 2), (nth v5 3), (nth v5 4), (nth v5 5)]]).bind fun v6 =>
 icond (nth v6 0) (fun _ =>
 some (.done 1 [(nth v2 0)])) (fun _ =>
 (ibin .add (nth v2 0) (.int .i64 1)).bind fun v7 =>
 some (.next [v7]))) (fun _ =>
 some (.done 0 []))
def moves_seek_s (C : IV → List Nat → List (List IV) → Option (List IV)) (a0 a1 a2 a3 : IV) : Option (List IV) :=
 (ilenL a0).bind fun v1 =>
 (iter rounds (moves_seek_l2 C v1 a0 a3 a1 a2) [(.int .i64 0)]).bind fun v8 =>
 sel v8.1 [(ilenL a0).bind fun v9 =>
 scal [v9],
 scal [(nth v8.2 0)]]

def moves_when_is_s (a0 a1 a2 a3 a4 a5 a6 a7 : IV) : Option (List IV) :=
 (ieqs .eql [.i, .i] [a2, a3] [a0, a1]).bind fun v1 =>
 scal [v1]

def rank_first_l2 (C : IV → List Nat → List (List IV) → Option (List IV)) (v1 : IV) (a0 : IV) (v2 : List IV) : Option SR :=
 (ibin .lss (nth v2 0) v1).bind fun v3 =>
 icond v3 (fun _ =>
 (iidx a0 (nth v2 0) 1).bind fun v4 =>
 (ild a0 v4 0).bind fun v5 =>
 (C v5 [1] []).bind fun v6 =>
 (ibin .neq (nth v6 0) (.int .i64 0)).bind fun v7 =>
 icond v7 (fun _ =>
 some (.done 1 [(nth v6 0)])) (fun _ =>
 (ibin .add (nth v2 0) (.int .i64 1)).bind fun v8 =>
 some (.next [v8]))) (fun _ =>
 some (.done 0 []))
def rank_first_s (C : IV → List Nat → List (List IV) → Option (List IV)) (a0 : IV) : Option (List IV) :=
 (ilenL a0).bind fun v1 =>
 (iter rounds (rank_first_l2 C v1 a0) [(.int .i64 0)]).bind fun v9 =>
 sel v9.1 [scal [(.int .i64 0)],
 scal [(nth v9.2 0)]]

def cmp_isNaN_int_s (a0 : IV) : Option (List IV) :=
 (ibin .neq a0 a0).bind fun v1 =>
 scal [v1]

def cmp_Compare_int_s (a0 a1 : IV) : Option (List IV) :=
 (cmp_isNaN_int_s a0).bind fun v1 =>
 (cmp_isNaN_int_s a1).bind fun v2 =>
 icond (nth v1 0) (fun _ =>
 icond (nth v2 0) (fun _ =>
 scal [(.int .i64 0)]) (fun _ =>
 scal [(.int .i64 (-1))])) (fun _ =>
 icond (nth v2 0) (fun _ =>
 scal [(.int .i64 1)]) (fun _ =>
 (ibin .lss a0 a1).bind fun v3 =>
 icond v3 (fun _ =>
 scal [(.int .i64 (-1))]) (fun _ =>
 (ibin .gtr a0 a1).bind fun v4 =>
 icond v4 (fun _ =>
 scal [(.int .i64 1)]) (fun _ =>
 scal [(.int .i64 0)]))))

def rank_Before_1_s (a0 a1 : IV) : Option (List IV) :=
 (ipnn a0).bind fun v1 =>
 (ipld v1 0).bind fun v2 =>
 (ipnn a1).bind fun v3 =>
 (ipld v3 0).bind fun v4 =>
 (cmp_Compare_int_s v2 v4).bind fun v5 =>
 scal [(nth v5 0)]

def rank_Before_2_s (a0 a1 : IV) : Option (List IV) :=
 (ipnn a0).bind fun v1 =>
 (ipld v1 1).bind fun v2 =>
 (ipnn a1).bind fun v3 =>
 (ipld v3 1).bind fun v4 =>
 (cmp_Compare_int_s v2 v4).bind fun v5 =>
 scal [(nth v5 0)]

def Cx_rank_Before : IV → List Nat → List (List IV) → Option (List IV) :=
  tbl n_rank_Before_1 [1] (fun caps l => match caps, l with | [a0, a1], [] => rank_Before_1_s a0 a1 | _, _ => none) <|
  tbl n_rank_Before_2 [1] (fun caps l => match caps, l with | [a0, a1], [] => rank_Before_2_s a0 a1 | _, _ => none) <|
  fun _ _ _ => none
def rank_Before_s (a0 a1 a2 a3 : IV) : Option (List IV) :=
 (rank_first_s (Cx_rank_Before) (.lst [[(.clo (.func n_rank_Before_1) [(.ptr [a0, a1] 0), (.ptr [a2, a3] 0)])], [(.clo (.func n_rank_Before_2) [(.ptr [a0, a1] 0), (.ptr [a2, a3] 0)])]])).bind fun v1 =>
 (ibin .lss (nth v1 0) (.int .i64 0)).bind fun v2 =>
 scal [v2]

def moves_when_before_s (a0 a1 a2 a3 a4 a5 a6 a7 : IV) : Option (List IV) :=
 (rank_Before_s a0 a1 a2 a3).bind fun v1 =>
 scal [(nth v1 0)]

def Cx_moves_Insert : IV → List Nat → List (List IV) → Option (List IV) :=
  tbl n_moves_when_is [1] (fun caps l => match caps, l with | [], [[a0, a1], [a2, a3, a4, a5, a6, a7]] => moves_when_is_s a0 a1 a2 a3 a4 a5 a6 a7 | _, _ => none) <|
  tbl n_moves_when_before [1] (fun caps l => match caps, l with | [], [[a0, a1], [a2, a3, a4, a5, a6, a7]] => moves_when_before_s a0 a1 a2 a3 a4 a5 a6 a7 | _, _ => none) <|
  fun _ _ _ => none
def moves_Insert_s (a0 a1 a2 a3 a4 a5 a6 : IV) : Option (List IV) :=
 (moves_seek_s (Cx_moves_Insert) a0 a1 a2 (.clo (.func n_moves_when_is) [])).bind fun v1 =>
 (ilenL a0).bind fun v2 =>
 (ibin .lss (nth v1 0) v2).bind fun v3 =>
 icond v3 (fun _ =>
 some [a0, (nth v1 0), (.bool false)]) (fun _ =>
 (moves_seek_s (Cx_moves_Insert) a0 a1 a2 (.clo (.func n_moves_when_before) [])).bind fun v4 =>
 (slices_Clone_Move_s a0).bind fun v5 =>
 (slices_Insert_Move_s (nth v5 0) (nth v4 0) (.lst [[a1, a2, a3, a4, a5, a6]])).bind fun v6 =>
 some [(nth v6 0), (nth v4 0), (.bool true)])

def moves_Since_l3 (v1 : IV) (a0 : IV) (a1 : IV) (a2 : IV) (v2 : List IV) : Option SR :=
 (ibin .lss (nth v2 1) v1).bind fun v3 =>
 icond v3 (fun _ =>
 (iidx a0 (nth v2 1) 6).bind fun v4 =>
 (ildN a0 v4 0 6).bind fun v5 =>
 (moves_when_before_s a1 a2 (nth v5 0) (nth v5 1) (nth v5 2) (nth v5 3) (nth v5 4) (nth v5 5)).bind fun v6 =>
 icond (nth v6 0) (fun _ =>
 (iapp 6 56 (nth v2 0) (.lst [[(nth v5 0), (nth v5 1), (nth v5 2), (nth v5 3), (nth v5 4), (nth v5 5)]])).bind fun v7 =>
 (ibin .add (nth v2 1) (.int .i64 1)).bind fun v8 =>
 some (.next [v7, v8])) (fun _ =>
 (ibin .add (nth v2 1) (.int .i64 1)).bind fun v9 =>
 some (.next [(nth v2 0), v9]))) (fun _ =>
 some (.done 0 [(nth v2 0)]))
def moves_Since_s (a0 a1 a2 : IV) : Option (List IV) :=
 (ilenL a0).bind fun v1 =>
 (iter rounds (moves_Since_l3 v1 a0 a1 a2) [(.lst []), (.int .i64 0)]).bind fun v10 =>
 sel v10.1 [some [(nth v10.2 0)]]

def moves_Union_l2 (v1 : IV) (a1 : IV) (v2 : List IV) : Option SR :=
 (ibin .lss (nth v2 1) v1).bind fun v3 =>
 icond v3 (fun _ =>
 (iidx a1 (nth v2 1) 6).bind fun v4 =>
 (ildN a1 v4 0 6).bind fun v5 =>
 (moves_Insert_s (nth v2 0) (nth v5 0) (nth v5 1) (nth v5 2) (nth v5 3) (nth v5 4) (nth v5 5)).bind fun v6 =>
 (ibin .add (nth v2 1) (.int .i64 1)).bind fun v7 =>
 some (.next [(nth v6 0), v7])) (fun _ =>
 some (.done 0 [(nth v2 0)]))
def moves_Union_s (a0 a1 : IV) : Option (List IV) :=
 (ilenL a1).bind fun v1 =>
 (iter rounds (moves_Union_l2 v1 a1) [a0, (.int .i64 0)]).bind fun v8 =>
 sel v8.1 [some [(nth v8.2 0)]]

def slices_IndexFunc_Move_l2 (C : IV → List Nat → List (List IV) → Option (List IV)) (v1 : IV) (a0 : IV) (a1 : IV) (v2 : List IV) : Option SR :=
 (ibin .lss (nth v2 0) v1).bind fun v3 =>
 icond v3 (fun _ =>
 (iidx a0 (nth v2 0) 6).bind fun v4 =>
 (ildN a0 v4 0 6).bind fun v5 =>
 (C a1 [1] [[(nth v5 0), (nth v5 1), (nth v5 2), (nth v5 3), (nth v5 4), (nth v5 5)]]).bind fun v6 =>
 icond (nth v6 0) (fun _ =>
 some (.done 1 [(nth v2 0)])) (fun _ =>
 (ibin .add (nth v2 0) (.int .i64 1)).bind fun v7 =>
 some (.next [v7]))) (fun _ =>
 some (.done 0 []))
def slices_IndexFunc_Move_s (C : IV → List Nat → List (List IV) → Option (List IV)) (a0 a1 : IV) : Option (List IV) :=
 (ilenL a0).bind fun v1 =>
 (iter rounds (slices_IndexFunc_Move_l2 C v1 a0 a1) [(.int .i64 0)]).bind fun v8 =>
 sel v8.1 [scal [(.int .i64 (-1))],
 scal [(nth v8.2 0)]]

def slices_ContainsFunc_Move_s (C : IV → List Nat → List (List IV) → Option (List IV)) (a0 a1 : IV) : Option (List IV) :=
 (slices_IndexFunc_Move_s C a0 a1).bind fun v1 =>
 (ibin .geq (nth v1 0) (.int .i64 0)).bind fun v2 =>
 scal [v2]

def moves_Row_s (a0 a1 a2 a3 a4 a5 : IV) : Option (List IV) :=
 scal [a3, a2, a4, a5]

def word_head_s (a0 : IV) : Option (List IV) :=
 (ibin .lss a0 (.int .u8 128)).bind fun v1 =>
 icond v1 (fun _ =>
 scal [(.int .i64 0), (.int .u8 128), (.int .u8 191), (.bool true)]) (fun _ =>
 (ibin .lss a0 (.int .u8 194)).bind fun v2 =>
 icond v2 (fun _ =>
 scal [(.int .i64 0), (.int .u8 128), (.int .u8 191), (.bool false)]) (fun _ =>
 (ibin .lss a0 (.int .u8 224)).bind fun v3 =>
 icond v3 (fun _ =>
 scal [(.int .i64 1), (.int .u8 128), (.int .u8 191), (.bool true)]) (fun _ =>
 (ibin .lss a0 (.int .u8 240)).bind fun v4 =>
 icond v4 (fun _ =>
 (ibin .eql a0 (.int .u8 224)).bind fun v5 =>
 icond v5 (fun _ =>
 scal [(.int .i64 2), (.int .u8 160), (.int .u8 191), (.bool true)]) (fun _ =>
 (ibin .eql a0 (.int .u8 237)).bind fun v6 =>
 icond v6 (fun _ =>
 scal [(.int .i64 2), (.int .u8 128), (.int .u8 159), (.bool true)]) (fun _ =>
 scal [(.int .i64 2), (.int .u8 128), (.int .u8 191), (.bool true)]))) (fun _ =>
 (ibin .lss a0 (.int .u8 245)).bind fun v7 =>
 icond v7 (fun _ =>
 (ibin .eql a0 (.int .u8 240)).bind fun v8 =>
 icond v8 (fun _ =>
 scal [(.int .i64 3), (.int .u8 144), (.int .u8 191), (.bool true)]) (fun _ =>
 (ibin .eql a0 (.int .u8 244)).bind fun v9 =>
 icond v9 (fun _ =>
 scal [(.int .i64 3), (.int .u8 128), (.int .u8 143), (.bool true)]) (fun _ =>
 scal [(.int .i64 3), (.int .u8 128), (.int .u8 191), (.bool true)]))) (fun _ =>
 scal [(.int .i64 0), (.int .u8 128), (.int .u8 191), (.bool false)])))))

def word_signs_l6 (v16 : IV) (v15 : IV) (v17 : List IV) : Option SR :=
 (ibin .lss (nth v17 2) v16).bind fun v18 =>
 icond v18 (fun _ =>
 (iidx v15 (nth v17 2) 1).bind fun v19 =>
 (ild v15 v19 0).bind fun v20 =>
 ((ibin .lss v20 (nth v17 0)).bind fun v21 =>
 icond v21 (fun _ =>
 some [(.bool true)]) (fun _ =>
 (ibin .gtr v20 (nth v17 1)).bind fun v22 =>
 some [v22])).bind fun v23 =>
 icond (nth v23 0) (fun _ =>
 some (.done 1 [])) (fun _ =>
 (ibin .add (nth v17 2) (.int .i64 1)).bind fun v24 =>
 some (.next [(.int .u8 128), (.int .u8 191), v24]))) (fun _ =>
 some (.done 0 []))
def word_signs_l2 (a0 : IV) (v1 : List IV) : Option SR :=
 (ilenS a0).bind fun v2 =>
 (ibin .lss (nth v1 1) v2).bind fun v3 =>
 icond v3 (fun _ =>
 (istr a0 (nth v1 1)).bind fun v4 =>
 (word_head_s v4).bind fun v5 =>
 ((iun .not (nth v5 3)).bind fun v6 =>
 icond v6 (fun _ =>
 some [(.bool true)]) (fun _ =>
 (ilenS a0).bind fun v7 =>
 (ibin .sub v7 (nth v1 1)).bind fun v8 =>
 (ibin .leq v8 (nth v5 0)).bind fun v9 =>
 some [v9])).bind fun v10 =>
 icond (nth v10 0) (fun _ =>
 some (.done 0 [(nth v1 0), (nth v1 1)])) (fun _ =>
 (ibin .add (nth v1 1) (.int .i64 1)).bind fun v11 =>
 (ibin .add (nth v1 1) (.int .i64 1)).bind fun v12 =>
 (ibin .add v12 (nth v5 0)).bind fun v13 =>
 (islcS a0 (some v11) (some v13)).bind fun v14 =>
 (icvb v14).bind fun v15 =>
 (ilenL v15).bind fun v16 =>
 (iter rounds (word_signs_l6 v16 v15) [(nth v5 1), (nth v5 2), (.int .i64 0)]).bind fun v25 =>
 sel v25.1 [(ibin .add (.int .i64 1) (nth v5 0)).bind fun v26 =>
 (ibin .add (nth v1 1) v26).bind fun v27 =>
 (ibin .add (nth v1 0) (.int .i64 1)).bind fun v28 =>
 some (.next [v28, v27]),
 some (.done 0 [(nth v1 0), (nth v1 1)])])) (fun _ =>
 some (.done 0 [(nth v1 0), (nth v1 1)]))
def word_signs_s (a0 : IV) : Option (List IV) :=
 (iter rounds (word_signs_l2 a0) [(.int .i64 0), (.int .i64 0)]).bind fun v29 =>
 sel v29.1 [scal [(nth v29.2 0), (nth v29.2 1)]]

def word_Valid_s (a0 : IV) : Option (List IV) :=
 (word_signs_s a0).bind fun v1 =>
 (ilenS a0).bind fun v2 =>
 (ibin .eql (nth v1 1) v2).bind fun v3 =>
 scal [v3]

def tree_One_s (a0 a1 a2 a3 : IV) : Option (List IV) :=
 ((ibin .geq a0 (.int .i64 1)).bind fun v1 =>
 icond v1 (fun _ =>
 (ibin .leq a0 (.int .i64 2147483647)).bind fun v2 =>
 icond v2 (fun _ =>
 (ibin .geq a1 (.int .i64 0)).bind fun v3 =>
 icond v3 (fun _ =>
 (ibin .leq a1 (.int .i64 2147483647)).bind fun v4 =>
 icond v4 (fun _ =>
 (ilenS a2).bind fun v5 =>
 (ibin .leq v5 (.int .i64 64)).bind fun v6 =>
 icond v6 (fun _ =>
 (word_Valid_s a2).bind fun v7 =>
 some [(nth v7 0)]) (fun _ =>
 some [(.bool false)])) (fun _ =>
 some [(.bool false)])) (fun _ =>
 some [(.bool false)])) (fun _ =>
 some [(.bool false)])) (fun _ =>
 some [(.bool false)])).bind fun v8 =>
 scal [(nth v8 0)]

def moves_One_s (a0 a1 a2 a3 a4 a5 : IV) : Option (List IV) :=
 ((ibin .geq a0 (.int .i64 1)).bind fun v1 =>
 icond v1 (fun _ =>
 (ibin .leq a0 (.int .i64 4611686018427387903)).bind fun v2 =>
 icond v2 (fun _ =>
 (ibin .geq a1 (.int .i64 1)).bind fun v3 =>
 icond v3 (fun _ =>
 (ibin .leq a1 (.int .i64 255)).bind fun v4 =>
 icond v4 (fun _ =>
 (moves_Row_s a0 a1 a2 a3 a4 a5).bind fun v5 =>
 (tree_One_s (nth v5 0) (nth v5 1) (nth v5 2) (nth v5 3)).bind fun v6 =>
 some [(nth v6 0)]) (fun _ =>
 some [(.bool false)])) (fun _ =>
 some [(.bool false)])) (fun _ =>
 some [(.bool false)])) (fun _ =>
 some [(.bool false)])).bind fun v7 =>
 scal [(nth v7 0)]

def moves_May_1_s (a0 a1 a2 a3 a4 a5 : IV) : Option (List IV) :=
 (moves_One_s a0 a1 a2 a3 a4 a5).bind fun v1 =>
 (iun .not (nth v1 0)).bind fun v2 =>
 scal [v2]

def Cx_moves_May : IV → List Nat → List (List IV) → Option (List IV) :=
  tbl n_moves_May_1 [1] (fun caps l => match caps, l with | [], [[a0, a1, a2, a3, a4, a5]] => moves_May_1_s a0 a1 a2 a3 a4 a5 | _, _ => none) <|
  fun _ _ _ => none
def moves_May_l2 (a0 : IV) (v1 : List IV) : Option SR :=
 (ilenL a0).bind fun v2 =>
 (ibin .lss (nth v1 0) v2).bind fun v3 =>
 icond v3 (fun _ =>
 (ibin .sub (nth v1 0) (.int .i64 1)).bind fun v4 =>
 (iidx a0 v4 6).bind fun v5 =>
 (ildN a0 v5 0 2).bind fun v6 =>
 (iidx a0 (nth v1 0) 6).bind fun v7 =>
 (ildN a0 v7 0 2).bind fun v8 =>
 (rank_Before_s (nth v6 0) (nth v6 1) (nth v8 0) (nth v8 1)).bind fun v9 =>
 (iun .not (nth v9 0)).bind fun v10 =>
 icond v10 (fun _ =>
 some (.done 1 [(.bool false)])) (fun _ =>
 (ibin .add (nth v1 0) (.int .i64 1)).bind fun v11 =>
 some (.next [v11]))) (fun _ =>
 some (.done 0 []))
def moves_May_s (a0 : IV) : Option (List IV) :=
 (iter rounds (moves_May_l2 a0) [(.int .i64 1)]).bind fun v12 =>
 sel v12.1 [((ilenL a0).bind fun v13 =>
 (ibin .leq v13 (.int .i64 2000)).bind fun v14 =>
 icond v14 (fun _ =>
 (slices_ContainsFunc_Move_s (Cx_moves_May) a0 (.clo (.func n_moves_May_1) [])).bind fun v15 =>
 (iun .not (nth v15 0)).bind fun v16 =>
 some [v16]) (fun _ =>
 some [(.bool false)])).bind fun v17 =>
 scal [(nth v17 0)],
 scal [(nth v12.2 0)]]

def slices_EqualFunc_Move_Move_l4 (C : IV → List Nat → List (List IV) → Option (List IV)) (v4 : IV) (a0 : IV) (a1 : IV) (a2 : IV) (v5 : List IV) : Option SR :=
 (ibin .lss (nth v5 0) v4).bind fun v6 =>
 icond v6 (fun _ =>
 (iidx a0 (nth v5 0) 6).bind fun v7 =>
 (ildN a0 v7 0 6).bind fun v8 =>
 (iidx a1 (nth v5 0) 6).bind fun v9 =>
 (ildN a1 v9 0 6).bind fun v10 =>
 (C a2 [1] [[(nth v8 0), (nth v8 1), (nth v8 2), (nth v8 3), (nth v8 4), (nth v8 5)], [(nth v10 0), (nth v10 1), (nth v10 2), (nth v10 3), (nth v10 4), (nth v10 5)]]).bind fun v11 =>
 (iun .not (nth v11 0)).bind fun v12 =>
 icond v12 (fun _ =>
 some (.done 1 [(.bool false)])) (fun _ =>
 (ibin .add (nth v5 0) (.int .i64 1)).bind fun v13 =>
 some (.next [v13]))) (fun _ =>
 some (.done 0 []))
def slices_EqualFunc_Move_Move_s (C : IV → List Nat → List (List IV) → Option (List IV)) (a0 a1 a2 : IV) : Option (List IV) :=
 (ilenL a0).bind fun v1 =>
 (ilenL a1).bind fun v2 =>
 (ibin .neq v1 v2).bind fun v3 =>
 icond v3 (fun _ =>
 scal [(.bool false)]) (fun _ =>
 (ilenL a0).bind fun v4 =>
 (iter rounds (slices_EqualFunc_Move_Move_l4 C v4 a0 a1 a2) [(.int .i64 0)]).bind fun v14 =>
 sel v14.1 [scal [(.bool true)],
 scal [(nth v14.2 0)]])

def bits_Minus_s (a0 : IV) : Option (List IV) :=
 ((ibin .lss a0 (.flt .f64 0)).bind fun v1 =>
 icond v1 (fun _ =>
 some [(.bool true)]) (fun _ =>
 (ibin .eql a0 (.flt .f64 0)).bind fun v2 =>
 icond v2 (fun _ =>
 (ibin .quo (.flt .f64 4607182418800017408) a0).bind fun v3 =>
 (ibin .lss v3 (.flt .f64 0)).bind fun v4 =>
 some [v4]) (fun _ =>
 some [(.bool false)]))).bind fun v5 =>
 scal [(nth v5 0)]

def bits_powers_s : Option (List IV) :=
 scal [(.int .i64 512), (.flt .f64 6913025428013711360), (.flt .f64 2301339409586323456), (.int .i64 256), (.flt .f64 5760103923406864384), (.flt .f64 3454260914193170432), (.int .i64 128), (.flt .f64 5183643171103440896), (.flt .f64 4030721666496593920), (.int .i64 64), (.flt .f64 4895412794951729152), (.flt .f64 4318952042648305664), (.int .i64 32), (.flt .f64 4751297606875873280), (.flt .f64 4463067230724161536), (.int .i64 16), (.flt .f64 4679240012837945344), (.flt .f64 4535124824762089472), (.int .i64 8), (.flt .f64 4643211215818981376), (.flt .f64 4571153621781053440), (.int .i64 4), (.flt .f64 4625196817309499392), (.flt .f64 4589168020290535424), (.int .i64 2), (.flt .f64 4616189618054758400), (.flt .f64 4598175219545276416), (.int .i64 1), (.flt .f64 4611686018427387904), (.flt .f64 4602678819172646912)]

def bits_split_l3 (v1 : List IV) (v2 : List IV) : Option SR :=
 (ibin .lss (nth v2 2) (.int .i64 10)).bind fun v3 =>
 icond v3 (fun _ =>
 (ibidx 10 (nth v2 2)).bind fun v4 =>
 (ibin .geq (nth v2 0) (nth [(nth v1 0), (nth v1 1), (nth v1 2), (nth v1 3), (nth v1 4), (nth v1 5), (nth v1 6), (nth v1 7), (nth v1 8), (nth v1 9), (nth v1 10), (nth v1 11), (nth v1 12), (nth v1 13), (nth v1 14), (nth v1 15), (nth v1 16), (nth v1 17), (nth v1 18), (nth v1 19), (nth v1 20), (nth v1 21), (nth v1 22), (nth v1 23), (nth v1 24), (nth v1 25), (nth v1 26), (nth v1 27), (nth v1 28), (nth v1 29)] (v4 * 3 + 1))).bind fun v5 =>
 icond v5 (fun _ =>
 (ibin .mul (nth v2 0) (nth [(nth v1 0), (nth v1 1), (nth v1 2), (nth v1 3), (nth v1 4), (nth v1 5), (nth v1 6), (nth v1 7), (nth v1 8), (nth v1 9), (nth v1 10), (nth v1 11), (nth v1 12), (nth v1 13), (nth v1 14), (nth v1 15), (nth v1 16), (nth v1 17), (nth v1 18), (nth v1 19), (nth v1 20), (nth v1 21), (nth v1 22), (nth v1 23), (nth v1 24), (nth v1 25), (nth v1 26), (nth v1 27), (nth v1 28), (nth v1 29)] (v4 * 3 + 2))).bind fun v6 =>
 (ibin .add (nth v2 1) (nth [(nth v1 0), (nth v1 1), (nth v1 2), (nth v1 3), (nth v1 4), (nth v1 5), (nth v1 6), (nth v1 7), (nth v1 8), (nth v1 9), (nth v1 10), (nth v1 11), (nth v1 12), (nth v1 13), (nth v1 14), (nth v1 15), (nth v1 16), (nth v1 17), (nth v1 18), (nth v1 19), (nth v1 20), (nth v1 21), (nth v1 22), (nth v1 23), (nth v1 24), (nth v1 25), (nth v1 26), (nth v1 27), (nth v1 28), (nth v1 29)] (v4 * 3 + 0))).bind fun v7 =>
 (ibin .lss v6 (nth [(nth v1 0), (nth v1 1), (nth v1 2), (nth v1 3), (nth v1 4), (nth v1 5), (nth v1 6), (nth v1 7), (nth v1 8), (nth v1 9), (nth v1 10), (nth v1 11), (nth v1 12), (nth v1 13), (nth v1 14), (nth v1 15), (nth v1 16), (nth v1 17), (nth v1 18), (nth v1 19), (nth v1 20), (nth v1 21), (nth v1 22), (nth v1 23), (nth v1 24), (nth v1 25), (nth v1 26), (nth v1 27), (nth v1 28), (nth v1 29)] (v4 * 3 + 2))).bind fun v8 =>
 icond v8 (fun _ =>
 (ibin .mul v6 (nth [(nth v1 0), (nth v1 1), (nth v1 2), (nth v1 3), (nth v1 4), (nth v1 5), (nth v1 6), (nth v1 7), (nth v1 8), (nth v1 9), (nth v1 10), (nth v1 11), (nth v1 12), (nth v1 13), (nth v1 14), (nth v1 15), (nth v1 16), (nth v1 17), (nth v1 18), (nth v1 19), (nth v1 20), (nth v1 21), (nth v1 22), (nth v1 23), (nth v1 24), (nth v1 25), (nth v1 26), (nth v1 27), (nth v1 28), (nth v1 29)] (v4 * 3 + 1))).bind fun v9 =>
 (ibin .sub v7 (nth [(nth v1 0), (nth v1 1), (nth v1 2), (nth v1 3), (nth v1 4), (nth v1 5), (nth v1 6), (nth v1 7), (nth v1 8), (nth v1 9), (nth v1 10), (nth v1 11), (nth v1 12), (nth v1 13), (nth v1 14), (nth v1 15), (nth v1 16), (nth v1 17), (nth v1 18), (nth v1 19), (nth v1 20), (nth v1 21), (nth v1 22), (nth v1 23), (nth v1 24), (nth v1 25), (nth v1 26), (nth v1 27), (nth v1 28), (nth v1 29)] (v4 * 3 + 0))).bind fun v10 =>
 (ibin .add (nth v2 2) (.int .i64 1)).bind fun v11 =>
 some (.next [v9, v10, v11])) (fun _ =>
 (ibin .add (nth v2 2) (.int .i64 1)).bind fun v12 =>
 some (.next [v6, v7, v12]))) (fun _ =>
 (ibin .lss (nth v2 0) (nth [(nth v1 0), (nth v1 1), (nth v1 2), (nth v1 3), (nth v1 4), (nth v1 5), (nth v1 6), (nth v1 7), (nth v1 8), (nth v1 9), (nth v1 10), (nth v1 11), (nth v1 12), (nth v1 13), (nth v1 14), (nth v1 15), (nth v1 16), (nth v1 17), (nth v1 18), (nth v1 19), (nth v1 20), (nth v1 21), (nth v1 22), (nth v1 23), (nth v1 24), (nth v1 25), (nth v1 26), (nth v1 27), (nth v1 28), (nth v1 29)] (v4 * 3 + 2))).bind fun v13 =>
 icond v13 (fun _ =>
 (ibin .mul (nth v2 0) (nth [(nth v1 0), (nth v1 1), (nth v1 2), (nth v1 3), (nth v1 4), (nth v1 5), (nth v1 6), (nth v1 7), (nth v1 8), (nth v1 9), (nth v1 10), (nth v1 11), (nth v1 12), (nth v1 13), (nth v1 14), (nth v1 15), (nth v1 16), (nth v1 17), (nth v1 18), (nth v1 19), (nth v1 20), (nth v1 21), (nth v1 22), (nth v1 23), (nth v1 24), (nth v1 25), (nth v1 26), (nth v1 27), (nth v1 28), (nth v1 29)] (v4 * 3 + 1))).bind fun v14 =>
 (ibin .sub (nth v2 1) (nth [(nth v1 0), (nth v1 1), (nth v1 2), (nth v1 3), (nth v1 4), (nth v1 5), (nth v1 6), (nth v1 7), (nth v1 8), (nth v1 9), (nth v1 10), (nth v1 11), (nth v1 12), (nth v1 13), (nth v1 14), (nth v1 15), (nth v1 16), (nth v1 17), (nth v1 18), (nth v1 19), (nth v1 20), (nth v1 21), (nth v1 22), (nth v1 23), (nth v1 24), (nth v1 25), (nth v1 26), (nth v1 27), (nth v1 28), (nth v1 29)] (v4 * 3 + 0))).bind fun v15 =>
 (ibin .add (nth v2 2) (.int .i64 1)).bind fun v16 =>
 some (.next [v14, v15, v16])) (fun _ =>
 (ibin .add (nth v2 2) (.int .i64 1)).bind fun v17 =>
 some (.next [(nth v2 0), (nth v2 1), v17])))) (fun _ =>
 some (.done 0 [(nth v2 0), (nth v2 1)]))
def bits_split_l12 (v19 : List IV) : Option SR :=
 (ibin .geq (nth v19 0) (.flt .f64 4611686018427387904)).bind fun v20 =>
 icond v20 (fun _ =>
 (ibin .mul (nth v19 0) (.flt .f64 4602678819172646912)).bind fun v21 =>
 (ibin .add (nth v19 1) (.int .i64 1)).bind fun v22 =>
 some (.next [v21, v22])) (fun _ =>
 some (.done 0 [(nth v19 0), (nth v19 1)]))
def bits_split_l15 (v24 : List IV) : Option SR :=
 (ibin .lss (nth v24 0) (.flt .f64 4607182418800017408)).bind fun v25 =>
 icond v25 (fun _ =>
 (ibin .mul (nth v24 0) (.flt .f64 4611686018427387904)).bind fun v26 =>
 (ibin .sub (nth v24 1) (.int .i64 1)).bind fun v27 =>
 some (.next [v26, v27])) (fun _ =>
 some (.done 0 [(nth v24 0), (nth v24 1)]))
def bits_split_s (a0 : IV) : Option (List IV) :=
 (bits_powers_s).bind fun v1 =>
 (iter rounds (bits_split_l3 v1) [a0, (.int .i64 0), (.int .i64 0)]).bind fun v18 =>
 sel v18.1 [(iter rounds (bits_split_l12) [(nth v18.2 0), (nth v18.2 1)]).bind fun v23 =>
 sel v23.1 [(iter rounds (bits_split_l15) [(nth v23.2 0), (nth v23.2 1)]).bind fun v28 =>
 sel v28.1 [scal [(nth v28.2 0), (nth v28.2 1)]]]]

def bits_Bits_s (a0 : IV) : Option (List IV) :=
 (bits_Minus_s a0).bind fun v1 =>
 icond (nth v1 0) (fun _ =>
 (iun .neg a0).bind fun v2 =>
 (ibin .neq v2 v2).bind fun v3 =>
 icond v3 (fun _ =>
 scal [(.int .u64 9221120237041090560)]) (fun _ =>
 (ibin .eql v2 (.flt .f64 0)).bind fun v4 =>
 icond v4 (fun _ =>
 scal [(.int .u64 9223372036854775808)]) (fun _ =>
 (ibin .mul v2 (.flt .f64 4611686018427387904)).bind fun v5 =>
 (ibin .eql v2 v5).bind fun v6 =>
 icond v6 (fun _ =>
 (ibin .or (.int .u64 9223372036854775808) (.int .u64 9218868437227405312)).bind fun v7 =>
 scal [v7]) (fun _ =>
 (bits_split_s v2).bind fun v8 =>
 (ibin .mul (nth v8 0) (.flt .f64 4841369599423283200)).bind fun v9 =>
 (icfi .u64 v9).bind fun v10 =>
 (ibin .add (nth v8 1) (.int .i64 1023)).bind fun v11 =>
 (ibin .gtr v11 (.int .i64 0)).bind fun v12 =>
 icond v12 (fun _ =>
 (icii .u64 v11).bind fun v13 =>
 (ibin .shl v13 (.int .u64 52)).bind fun v14 =>
 (ibin .or (.int .u64 9223372036854775808) v14).bind fun v15 =>
 (ibin .and v10 (.int .u64 4503599627370495)).bind fun v16 =>
 (ibin .or v15 v16).bind fun v17 =>
 scal [v17]) (fun _ =>
 (ibin .sub (.int .i64 1) (nth v8 1)).bind fun v18 =>
 (ibin .sub v18 (.int .i64 1023)).bind fun v19 =>
 (ibin .shr v10 v19).bind fun v20 =>
 (ibin .or (.int .u64 9223372036854775808) v20).bind fun v21 =>
 scal [v21]))))) (fun _ =>
 (ibin .neq a0 a0).bind fun v22 =>
 icond v22 (fun _ =>
 scal [(.int .u64 9221120237041090560)]) (fun _ =>
 (ibin .eql a0 (.flt .f64 0)).bind fun v23 =>
 icond v23 (fun _ =>
 scal [(.int .u64 0)]) (fun _ =>
 (ibin .mul a0 (.flt .f64 4611686018427387904)).bind fun v24 =>
 (ibin .eql a0 v24).bind fun v25 =>
 icond v25 (fun _ =>
 (ibin .or (.int .u64 0) (.int .u64 9218868437227405312)).bind fun v26 =>
 scal [v26]) (fun _ =>
 (bits_split_s a0).bind fun v27 =>
 (ibin .mul (nth v27 0) (.flt .f64 4841369599423283200)).bind fun v28 =>
 (icfi .u64 v28).bind fun v29 =>
 (ibin .add (nth v27 1) (.int .i64 1023)).bind fun v30 =>
 (ibin .gtr v30 (.int .i64 0)).bind fun v31 =>
 icond v31 (fun _ =>
 (icii .u64 v30).bind fun v32 =>
 (ibin .shl v32 (.int .u64 52)).bind fun v33 =>
 (ibin .or (.int .u64 0) v33).bind fun v34 =>
 (ibin .and v29 (.int .u64 4503599627370495)).bind fun v35 =>
 (ibin .or v34 v35).bind fun v36 =>
 scal [v36]) (fun _ =>
 (ibin .sub (.int .i64 1) (nth v27 1)).bind fun v37 =>
 (ibin .sub v37 (.int .i64 1023)).bind fun v38 =>
 (ibin .shr v29 v38).bind fun v39 =>
 (ibin .or (.int .u64 0) v39).bind fun v40 =>
 scal [v40])))))

def bits_Same_s (a0 a1 : IV) : Option (List IV) :=
 (bits_Bits_s a0).bind fun v1 =>
 (bits_Bits_s a1).bind fun v2 =>
 (ibin .eql (nth v1 0) (nth v2 0)).bind fun v3 =>
 scal [v3]

def moves_Same_1_s (a0 a1 a2 a3 a4 a5 a6 a7 a8 a9 a10 a11 : IV) : Option (List IV) :=
 ((ieqs .eql [.i, .i] [a0, a1] [a6, a7]).bind fun v1 =>
 icond v1 (fun _ =>
 (ibin .eql a3 a9).bind fun v2 =>
 icond v2 (fun _ =>
 (ibin .eql a2 a8).bind fun v3 =>
 icond v3 (fun _ =>
 (ibin .eql a4 a10).bind fun v4 =>
 icond v4 (fun _ =>
 (bits_Same_s a5 a11).bind fun v5 =>
 some [(nth v5 0)]) (fun _ =>
 some [(.bool false)])) (fun _ =>
 some [(.bool false)])) (fun _ =>
 some [(.bool false)])) (fun _ =>
 some [(.bool false)])).bind fun v6 =>
 scal [(nth v6 0)]

def Cx_moves_Same : IV → List Nat → List (List IV) → Option (List IV) :=
  tbl n_moves_Same_1 [1] (fun caps l => match caps, l with | [], [[a0, a1, a2, a3, a4, a5], [a6, a7, a8, a9, a10, a11]] => moves_Same_1_s a0 a1 a2 a3 a4 a5 a6 a7 a8 a9 a10 a11 | _, _ => none) <|
  fun _ _ _ => none
def moves_Same_s (a0 a1 : IV) : Option (List IV) :=
 (slices_EqualFunc_Move_Move_s (Cx_moves_Same) a0 a1 (.clo (.func n_moves_Same_1) [])).bind fun v1 =>
 scal [(nth v1 0)]

def law13_live_1_s (a0 a1 : IV) : Option (List IV) :=
 scal [a0, a1, (.int .i64 0), (.int .i64 5), (.str ⟨#[97]⟩), (.flt .f64 0)]

def Cx_law13_live : IV → List Nat → List (List IV) → Option (List IV) :=
  tbl n_law13_live_1 [6] (fun caps l => match caps, l with | [], [[a0], [a1]] => law13_live_1_s a0 a1 | _, _ => none) <|
  fun _ _ _ => none
def law13_live_s : Option (List IV) :=
 ((Cx_law13_live) (.clo (.func n_law13_live_1) []) [6] [[(.int .i64 1)], [(.int .i64 2)]]).bind fun v1 =>
 ((Cx_law13_live) (.clo (.func n_law13_live_1) []) [6] [[(.int .i64 3)], [(.int .i64 1)]]).bind fun v2 =>
 ((Cx_law13_live) (.clo (.func n_law13_live_1) []) [6] [[(.int .i64 2)], [(.int .i64 9)]]).bind fun v3 =>
 (moves_Insert_s (.lst [[(nth v1 0), (nth v1 1), (nth v1 2), (nth v1 3), (nth v1 4), (nth v1 5)], [(nth v2 0), (nth v2 1), (nth v2 2), (nth v2 3), (nth v2 4), (nth v2 5)]]) (nth v3 0) (nth v3 1) (nth v3 2) (nth v3 3) (nth v3 4) (nth v3 5)).bind fun v4 =>
 ((Cx_law13_live) (.clo (.func n_law13_live_1) []) [6] [[(.int .i64 3)], [(.int .i64 1)]]).bind fun v5 =>
 (moves_Insert_s (nth v4 0) (nth v5 0) (nth v5 1) (nth v5 2) (nth v5 3) (nth v5 4) (nth v5 5)).bind fun v6 =>
 ((Cx_law13_live) (.clo (.func n_law13_live_1) []) [6] [[(.int .i64 3)], [(.int .i64 2)]]).bind fun v7 =>
 (moves_Insert_s (nth v4 0) (nth v7 0) (nth v7 1) (nth v7 2) (nth v7 3) (nth v7 4) (nth v7 5)).bind fun v8 =>
 (icond (nth v4 2) (fun _ =>
 (ibin .eql (nth v4 1) (.int .i64 1)).bind fun v9 =>
 icond v9 (fun _ =>
 (ilenL (nth v4 0)).bind fun v10 =>
 (ibin .eql v10 (.int .i64 3)).bind fun v11 =>
 icond v11 (fun _ =>
 (iidx (nth v4 0) (.int .i64 1) 6).bind fun v12 =>
 (ild (nth v4 0) v12 0).bind fun v13 =>
 (ibin .eql v13 (.int .i64 2)).bind fun v14 =>
 icond v14 (fun _ =>
 (iun .not (nth v6 2)).bind fun v15 =>
 icond v15 (fun _ =>
 (ibin .eql (nth v6 1) (.int .i64 2)).bind fun v16 =>
 icond v16 (fun _ =>
 (ilenL (nth v6 0)).bind fun v17 =>
 (ibin .eql v17 (.int .i64 3)).bind fun v18 =>
 icond v18 (fun _ =>
 icond (nth v8 2) (fun _ =>
 (ibin .eql (nth v8 1) (.int .i64 3)).bind fun v19 =>
 icond v19 (fun _ =>
 (moves_Since_s (nth v4 0) (.int .i64 1) (.int .i64 2)).bind fun v20 =>
 (ilenL (nth v20 0)).bind fun v21 =>
 (ibin .eql v21 (.int .i64 2)).bind fun v22 =>
 icond v22 (fun _ =>
 ((Cx_law13_live) (.clo (.func n_law13_live_1) []) [6] [[(.int .i64 3)], [(.int .i64 1)]]).bind fun v23 =>
 ((Cx_law13_live) (.clo (.func n_law13_live_1) []) [6] [[(.int .i64 2)], [(.int .i64 1)]]).bind fun v24 =>
 (moves_Union_s (.lst [[(nth v1 0), (nth v1 1), (nth v1 2), (nth v1 3), (nth v1 4), (nth v1 5)], [(nth v2 0), (nth v2 1), (nth v2 2), (nth v2 3), (nth v2 4), (nth v2 5)]]) (.lst [[(nth v23 0), (nth v23 1), (nth v23 2), (nth v23 3), (nth v23 4), (nth v23 5)], [(nth v24 0), (nth v24 1), (nth v24 2), (nth v24 3), (nth v24 4), (nth v24 5)]])).bind fun v25 =>
 (ilenL (nth v25 0)).bind fun v26 =>
 (ibin .eql v26 (.int .i64 3)).bind fun v27 =>
 icond v27 (fun _ =>
 (moves_May_s (nth v4 0)).bind fun v28 =>
 icond (nth v28 0) (fun _ =>
 (iidx (nth v4 0) (.int .i64 1) 6).bind fun v29 =>
 (ildN (nth v4 0) v29 0 6).bind fun v30 =>
 (iidx (nth v4 0) (.int .i64 0) 6).bind fun v31 =>
 (ildN (nth v4 0) v31 0 6).bind fun v32 =>
 (moves_May_s (.lst [[(nth v30 0), (nth v30 1), (nth v30 2), (nth v30 3), (nth v30 4), (nth v30 5)], [(nth v32 0), (nth v32 1), (nth v32 2), (nth v32 3), (nth v32 4), (nth v32 5)]])).bind fun v33 =>
 (iun .not (nth v33 0)).bind fun v34 =>
 icond v34 (fun _ =>
 (ibidx 2 (.int .i64 0)).bind fun v35 =>
 (ildN (.lst [[(nth v1 0), (nth v1 1), (nth v1 2), (nth v1 3), (nth v1 4), (nth v1 5)], [(nth v2 0), (nth v2 1), (nth v2 2), (nth v2 3), (nth v2 4), (nth v2 5)]]) v35 0 6).bind fun v36 =>
 (moves_One_s (nth v36 0) (nth v36 1) (nth v36 2) (nth v36 3) (nth v36 4) (nth v36 5)).bind fun v37 =>
 icond (nth v37 0) (fun _ =>
 (moves_One_s (.int .i64 0) (.int .i64 0) (.int .i64 0) (.int .i64 0) (.str ⟨#[]⟩) (.flt .f64 0)).bind fun v38 =>
 (iun .not (nth v38 0)).bind fun v39 =>
 icond v39 (fun _ =>
 (ibidx 2 (.int .i64 0)).bind fun v40 =>
 (ildN (.lst [[(nth v1 0), (nth v1 1), (nth v1 2), (nth v1 3), (nth v1 4), (nth v1 5)], [(nth v2 0), (nth v2 1), (nth v2 2), (nth v2 3), (nth v2 4), (nth v2 5)]]) v40 0 6).bind fun v41 =>
 (moves_Row_s (nth v41 0) (nth v41 1) (nth v41 2) (nth v41 3) (nth v41 4) (nth v41 5)).bind fun v42 =>
 (ibin .eql (nth v42 0) (.int .i64 5)).bind fun v43 =>
 icond v43 (fun _ =>
 (moves_Same_s (.lst [[(nth v1 0), (nth v1 1), (nth v1 2), (nth v1 3), (nth v1 4), (nth v1 5)], [(nth v2 0), (nth v2 1), (nth v2 2), (nth v2 3), (nth v2 4), (nth v2 5)]]) (.lst [[(nth v1 0), (nth v1 1), (nth v1 2), (nth v1 3), (nth v1 4), (nth v1 5)], [(nth v2 0), (nth v2 1), (nth v2 2), (nth v2 3), (nth v2 4), (nth v2 5)]])).bind fun v44 =>
 icond (nth v44 0) (fun _ =>
 (moves_Same_s (.lst [[(nth v1 0), (nth v1 1), (nth v1 2), (nth v1 3), (nth v1 4), (nth v1 5)], [(nth v2 0), (nth v2 1), (nth v2 2), (nth v2 3), (nth v2 4), (nth v2 5)]]) (nth v4 0)).bind fun v45 =>
 (iun .not (nth v45 0)).bind fun v46 =>
 some [v46]) (fun _ =>
 some [(.bool false)])) (fun _ =>
 some [(.bool false)])) (fun _ =>
 some [(.bool false)])) (fun _ =>
 some [(.bool false)])) (fun _ =>
 some [(.bool false)])) (fun _ =>
 some [(.bool false)])) (fun _ =>
 some [(.bool false)])) (fun _ =>
 some [(.bool false)])) (fun _ =>
 some [(.bool false)])) (fun _ =>
 some [(.bool false)])) (fun _ =>
 some [(.bool false)])) (fun _ =>
 some [(.bool false)])) (fun _ =>
 some [(.bool false)])) (fun _ =>
 some [(.bool false)])) (fun _ =>
 some [(.bool false)])) (fun _ =>
 some [(.bool false)])) (fun _ =>
 some [(.bool false)])).bind fun v47 =>
 scal [(nth v47 0)]

def ref01_None_s : Option (List IV) :=
 scal [(.int .u64 9221120237041090560)]

def ref01_Minus_s (a0 : IV) : Option (List IV) :=
 ((ibin .lss a0 (.flt .f64 0)).bind fun v1 =>
 icond v1 (fun _ =>
 some [(.bool true)]) (fun _ =>
 (ibin .eql a0 (.flt .f64 0)).bind fun v2 =>
 icond v2 (fun _ =>
 (ibin .quo (.flt .f64 4607182418800017408) a0).bind fun v3 =>
 (ibin .lss v3 (.flt .f64 0)).bind fun v4 =>
 some [v4]) (fun _ =>
 some [(.bool false)]))).bind fun v5 =>
 scal [(nth v5 0)]

def ref01_top_s : Option (List IV) :=
 scal [(.int .u64 9223372036854775808)]

def ref01_Bits_l12 (v10 : List IV) : Option SR :=
 (ibin .geq (nth v10 0) (.flt .f64 4611686018427387904)).bind fun v11 =>
 icond v11 (fun _ =>
 (ibin .mul (nth v10 0) (.flt .f64 4602678819172646912)).bind fun v12 =>
 (ibin .add (nth v10 1) (.int .u64 1)).bind fun v13 =>
 some (.next [v12, v13])) (fun _ =>
 some (.done 0 [(nth v10 0), (nth v10 1)]))
def ref01_Bits_l15 (v15 : List IV) : Option SR :=
 ((ibin .lss (nth v15 0) (.flt .f64 4607182418800017408)).bind fun v16 =>
 icond v16 (fun _ =>
 (ibin .gtr (nth v15 1) (.int .u64 1)).bind fun v17 =>
 some [v17]) (fun _ =>
 some [(.bool false)])).bind fun v18 =>
 icond (nth v18 0) (fun _ =>
 (ibin .mul (nth v15 0) (.flt .f64 4611686018427387904)).bind fun v19 =>
 (ibin .sub (nth v15 1) (.int .u64 1)).bind fun v20 =>
 some (.next [v19, v20])) (fun _ =>
 some (.done 0 [(nth v15 0), (nth v15 1)]))
def ref01_Bits_l22 (v23 : List IV) : Option SR :=
 (ibin .lss (nth v23 1) (.int .i64 52)).bind fun v24 =>
 icond v24 (fun _ =>
 (ibin .mul (nth v23 0) (.flt .f64 4611686018427387904)).bind fun v25 =>
 (ibin .add (nth v23 1) (.int .i64 1)).bind fun v26 =>
 some (.next [v25, v26])) (fun _ =>
 some (.done 0 [(nth v23 0)]))
def ref01_Bits_l22_2 (v33 : List IV) : Option SR :=
 (ibin .lss (nth v33 1) (.int .i64 52)).bind fun v34 =>
 icond v34 (fun _ =>
 (ibin .mul (nth v33 0) (.flt .f64 4611686018427387904)).bind fun v35 =>
 (ibin .add (nth v33 1) (.int .i64 1)).bind fun v36 =>
 some (.next [v35, v36])) (fun _ =>
 some (.done 0 [(nth v33 0)]))
def ref01_Bits_l12_2 (v46 : List IV) : Option SR :=
 (ibin .geq (nth v46 0) (.flt .f64 4611686018427387904)).bind fun v47 =>
 icond v47 (fun _ =>
 (ibin .mul (nth v46 0) (.flt .f64 4602678819172646912)).bind fun v48 =>
 (ibin .add (nth v46 1) (.int .u64 1)).bind fun v49 =>
 some (.next [v48, v49])) (fun _ =>
 some (.done 0 [(nth v46 0), (nth v46 1)]))
def ref01_Bits_l15_2 (v51 : List IV) : Option SR :=
 ((ibin .lss (nth v51 0) (.flt .f64 4607182418800017408)).bind fun v52 =>
 icond v52 (fun _ =>
 (ibin .gtr (nth v51 1) (.int .u64 1)).bind fun v53 =>
 some [v53]) (fun _ =>
 some [(.bool false)])).bind fun v54 =>
 icond (nth v54 0) (fun _ =>
 (ibin .mul (nth v51 0) (.flt .f64 4611686018427387904)).bind fun v55 =>
 (ibin .sub (nth v51 1) (.int .u64 1)).bind fun v56 =>
 some (.next [v55, v56])) (fun _ =>
 some (.done 0 [(nth v51 0), (nth v51 1)]))
def ref01_Bits_l22_3 (v59 : List IV) : Option SR :=
 (ibin .lss (nth v59 1) (.int .i64 52)).bind fun v60 =>
 icond v60 (fun _ =>
 (ibin .mul (nth v59 0) (.flt .f64 4611686018427387904)).bind fun v61 =>
 (ibin .add (nth v59 1) (.int .i64 1)).bind fun v62 =>
 some (.next [v61, v62])) (fun _ =>
 some (.done 0 [(nth v59 0)]))
def ref01_Bits_l22_4 (v69 : List IV) : Option SR :=
 (ibin .lss (nth v69 1) (.int .i64 52)).bind fun v70 =>
 icond v70 (fun _ =>
 (ibin .mul (nth v69 0) (.flt .f64 4611686018427387904)).bind fun v71 =>
 (ibin .add (nth v69 1) (.int .i64 1)).bind fun v72 =>
 some (.next [v71, v72])) (fun _ =>
 some (.done 0 [(nth v69 0)]))
def ref01_Bits_s (a0 : IV) : Option (List IV) :=
 (ibin .neq a0 a0).bind fun v1 =>
 icond v1 (fun _ =>
 (ref01_None_s).bind fun v2 =>
 scal [(nth v2 0)]) (fun _ =>
 (ref01_Minus_s a0).bind fun v3 =>
 icond (nth v3 0) (fun _ =>
 (ref01_top_s).bind fun v4 =>
 (iun .neg a0).bind fun v5 =>
 (ibin .eql v5 (.flt .f64 0)).bind fun v6 =>
 icond v6 (fun _ =>
 scal [(nth v4 0)]) (fun _ =>
 (ibin .mul v5 (.flt .f64 4611686018427387904)).bind fun v7 =>
 (ibin .eql v7 v5).bind fun v8 =>
 icond v8 (fun _ =>
 (ibin .add (nth v4 0) (.int .u64 9218868437227405312)).bind fun v9 =>
 scal [v9]) (fun _ =>
 (iter rounds (ref01_Bits_l12) [v5, (.int .u64 1023)]).bind fun v14 =>
 sel v14.1 [(iter rounds (ref01_Bits_l15) [(nth v14.2 0), (nth v14.2 1)]).bind fun v21 =>
 sel v21.1 [(ibin .lss (nth v21.2 0) (.flt .f64 4607182418800017408)).bind fun v22 =>
 icond v22 (fun _ =>
 (iter rounds (ref01_Bits_l22) [(nth v21.2 0), (.int .i64 0)]).bind fun v27 =>
 sel v27.1 [(ibin .shl (.int .u64 0) (.int .u64 52)).bind fun v28 =>
 (ibin .add (nth v4 0) v28).bind fun v29 =>
 (icfi .u64 (nth v27.2 0)).bind fun v30 =>
 (ibin .add v29 v30).bind fun v31 =>
 scal [v31]]) (fun _ =>
 (ibin .sub (nth v21.2 0) (.flt .f64 4607182418800017408)).bind fun v32 =>
 (iter rounds (ref01_Bits_l22_2) [v32, (.int .i64 0)]).bind fun v37 =>
 sel v37.1 [(ibin .shl (nth v21.2 1) (.int .u64 52)).bind fun v38 =>
 (ibin .add (nth v4 0) v38).bind fun v39 =>
 (icfi .u64 (nth v37.2 0)).bind fun v40 =>
 (ibin .add v39 v40).bind fun v41 =>
 scal [v41]])]]))) (fun _ =>
 (ibin .eql a0 (.flt .f64 0)).bind fun v42 =>
 icond v42 (fun _ =>
 scal [(.int .u64 0)]) (fun _ =>
 (ibin .mul a0 (.flt .f64 4611686018427387904)).bind fun v43 =>
 (ibin .eql v43 a0).bind fun v44 =>
 icond v44 (fun _ =>
 (ibin .add (.int .u64 0) (.int .u64 9218868437227405312)).bind fun v45 =>
 scal [v45]) (fun _ =>
 (iter rounds (ref01_Bits_l12_2) [a0, (.int .u64 1023)]).bind fun v50 =>
 sel v50.1 [(iter rounds (ref01_Bits_l15_2) [(nth v50.2 0), (nth v50.2 1)]).bind fun v57 =>
 sel v57.1 [(ibin .lss (nth v57.2 0) (.flt .f64 4607182418800017408)).bind fun v58 =>
 icond v58 (fun _ =>
 (iter rounds (ref01_Bits_l22_3) [(nth v57.2 0), (.int .i64 0)]).bind fun v63 =>
 sel v63.1 [(ibin .shl (.int .u64 0) (.int .u64 52)).bind fun v64 =>
 (ibin .add (.int .u64 0) v64).bind fun v65 =>
 (icfi .u64 (nth v63.2 0)).bind fun v66 =>
 (ibin .add v65 v66).bind fun v67 =>
 scal [v67]]) (fun _ =>
 (ibin .sub (nth v57.2 0) (.flt .f64 4607182418800017408)).bind fun v68 =>
 (iter rounds (ref01_Bits_l22_4) [v68, (.int .i64 0)]).bind fun v73 =>
 sel v73.1 [(ibin .shl (nth v57.2 1) (.int .u64 52)).bind fun v74 =>
 (ibin .add (.int .u64 0) v74).bind fun v75 =>
 (icfi .u64 (nth v73.2 0)).bind fun v76 =>
 (ibin .add v75 v76).bind fun v77 =>
 scal [v77]])]]))))

def ref01_Same_s (a0 a1 : IV) : Option (List IV) :=
 (ref01_Bits_s a0).bind fun v1 =>
 (ref01_Bits_s a1).bind fun v2 =>
 (ibin .eql (nth v1 0) (nth v2 0)).bind fun v3 =>
 scal [v3]

def ref12_Alike_s (a0 a1 a2 a3 a4 a5 a6 a7 : IV) : Option (List IV) :=
 ((ibin .eql a0 a4).bind fun v1 =>
 icond v1 (fun _ =>
 (ibin .eql a1 a5).bind fun v2 =>
 icond v2 (fun _ =>
 (ibin .eql a2 a6).bind fun v3 =>
 icond v3 (fun _ =>
 (ref01_Same_s a3 a7).bind fun v4 =>
 some [(nth v4 0)]) (fun _ =>
 some [(.bool false)])) (fun _ =>
 some [(.bool false)])) (fun _ =>
 some [(.bool false)])).bind fun v5 =>
 scal [(nth v5 0)]

def ref13_Alike_s (a0 a1 a2 a3 a4 a5 a6 a7 a8 a9 a10 a11 : IV) : Option (List IV) :=
 ((ieqs .eql [.i, .i] [a0, a1] [a6, a7]).bind fun v1 =>
 icond v1 (fun _ =>
 (ref13_Row_s a0 a1 a2 a3 a4 a5).bind fun v2 =>
 (ref13_Row_s a6 a7 a8 a9 a10 a11).bind fun v3 =>
 (ref12_Alike_s (nth v2 0) (nth v2 1) (nth v2 2) (nth v2 3) (nth v3 0) (nth v3 1) (nth v3 2) (nth v3 3)).bind fun v4 =>
 some [(nth v4 0)]) (fun _ =>
 some [(.bool false)])).bind fun v5 =>
 scal [(nth v5 0)]

def ref13_Same_l4 (a0 : IV) (a1 : IV) (v4 : List IV) : Option SR :=
 (ilenL a0).bind fun v5 =>
 (ibin .lss (nth v4 0) v5).bind fun v6 =>
 icond v6 (fun _ =>
 (iidx a0 (nth v4 0) 6).bind fun v7 =>
 (ildN a0 v7 0 6).bind fun v8 =>
 (iidx a1 (nth v4 0) 6).bind fun v9 =>
 (ildN a1 v9 0 6).bind fun v10 =>
 (ref13_Alike_s (nth v8 0) (nth v8 1) (nth v8 2) (nth v8 3) (nth v8 4) (nth v8 5) (nth v10 0) (nth v10 1) (nth v10 2) (nth v10 3) (nth v10 4) (nth v10 5)).bind fun v11 =>
 (iun .not (nth v11 0)).bind fun v12 =>
 icond v12 (fun _ =>
 some (.done 1 [(.bool false)])) (fun _ =>
 (ibin .add (nth v4 0) (.int .i64 1)).bind fun v13 =>
 some (.next [v13]))) (fun _ =>
 some (.done 0 []))
def ref13_Same_s (a0 a1 : IV) : Option (List IV) :=
 (ilenL a0).bind fun v1 =>
 (ilenL a1).bind fun v2 =>
 (ibin .neq v1 v2).bind fun v3 =>
 icond v3 (fun _ =>
 scal [(.bool false)]) (fun _ =>
 (iter rounds (ref13_Same_l4 a0 a1) [(.int .i64 0)]).bind fun v14 =>
 sel v14.1 [scal [(.bool true)],
 scal [(nth v14.2 0)]])

def ref13_Since_l3 (a0 : IV) (a1 : IV) (a2 : IV) (v1 : List IV) : Option SR :=
 (ilenL a0).bind fun v2 =>
 (ibin .lss (nth v1 1) v2).bind fun v3 =>
 icond v3 (fun _ =>
 (iidx a0 (nth v1 1) 6).bind fun v4 =>
 (ildN a0 v4 0 2).bind fun v5 =>
 (ref02_Before_s a1 a2 (nth v5 0) (nth v5 1)).bind fun v6 =>
 icond (nth v6 0) (fun _ =>
 (iidx a0 (nth v1 1) 6).bind fun v7 =>
 (ildN a0 v7 0 6).bind fun v8 =>
 (iapp 6 56 (nth v1 0) (.lst [[(nth v8 0), (nth v8 1), (nth v8 2), (nth v8 3), (nth v8 4), (nth v8 5)]])).bind fun v9 =>
 (ibin .add (nth v1 1) (.int .i64 1)).bind fun v10 =>
 some (.next [v9, v10])) (fun _ =>
 (ibin .add (nth v1 1) (.int .i64 1)).bind fun v11 =>
 some (.next [(nth v1 0), v11]))) (fun _ =>
 some (.done 0 [(nth v1 0)]))
def ref13_Since_s (a0 a1 a2 : IV) : Option (List IV) :=
 (iter rounds (ref13_Since_l3 a0 a1 a2) [(.lst []), (.int .i64 0)]).bind fun v12 =>
 sel v12.1 [some [(nth v12.2 0)]]

def ref13_Insert_l2 (a0 : IV) (a1 : IV) (a2 : IV) (v1 : List IV) : Option SR :=
 (ilenL a0).bind fun v2 =>
 (ibin .lss (nth v1 0) v2).bind fun v3 =>
 icond v3 (fun _ =>
 (iidx a0 (nth v1 0) 6).bind fun v4 =>
 (ildN a0 v4 0 2).bind fun v5 =>
 (ieqs .eql [.i, .i] [(nth v5 0), (nth v5 1)] [a1, a2]).bind fun v6 =>
 icond v6 (fun _ =>
 some (.done 1 [a0, (nth v1 0), (.bool false)])) (fun _ =>
 (ibin .add (nth v1 0) (.int .i64 1)).bind fun v7 =>
 some (.next [v7]))) (fun _ =>
 some (.done 0 []))
def ref13_Insert_l7 (a0 : IV) (a1 : IV) (a2 : IV) (v9 : List IV) : Option SR :=
 ((ilenL a0).bind fun v10 =>
 (ibin .lss (nth v9 0) v10).bind fun v11 =>
 icond v11 (fun _ =>
 (iidx a0 (nth v9 0) 6).bind fun v12 =>
 (ildN a0 v12 0 2).bind fun v13 =>
 (ref02_Before_s a1 a2 (nth v13 0) (nth v13 1)).bind fun v14 =>
 (iun .not (nth v14 0)).bind fun v15 =>
 some [v15]) (fun _ =>
 some [(.bool false)])).bind fun v16 =>
 icond (nth v16 0) (fun _ =>
 (ibin .add (nth v9 0) (.int .i64 1)).bind fun v17 =>
 some (.next [v17])) (fun _ =>
 some (.done 0 [(nth v9 0)]))
def ref13_Insert_s (a0 a1 a2 a3 a4 a5 a6 : IV) : Option (List IV) :=
 (iter rounds (ref13_Insert_l2 a0 a1 a2) [(.int .i64 0)]).bind fun v8 =>
 sel v8.1 [(iter rounds (ref13_Insert_l7 a0 a1 a2) [(.int .i64 0)]).bind fun v18 =>
 sel v18.1 [(islcL 6 a0 none (some (nth v18.2 0))).bind fun v19 =>
 (iapp 6 56 (.lst []) v19).bind fun v20 =>
 (iapp 6 56 v20 (.lst [[a1, a2, a3, a4, a5, a6]])).bind fun v21 =>
 (islcL 6 a0 (some (nth v18.2 0)) none).bind fun v22 =>
 (iapp 6 56 v21 v22).bind fun v23 =>
 some [v23, (nth v18.2 0), (.bool true)]],
 some [(nth v8.2 0), (nth v8.2 1), (nth v8.2 2)]]

def ref13_Union_l3 (a1 : IV) (v1 : List IV) : Option SR :=
 (ilenL a1).bind fun v2 =>
 (ibin .lss (nth v1 1) v2).bind fun v3 =>
 icond v3 (fun _ =>
 (iidx a1 (nth v1 1) 6).bind fun v4 =>
 (ildN a1 v4 0 6).bind fun v5 =>
 (ref13_Insert_s (nth v1 0) (nth v5 0) (nth v5 1) (nth v5 2) (nth v5 3) (nth v5 4) (nth v5 5)).bind fun v6 =>
 (ibin .add (nth v1 1) (.int .i64 1)).bind fun v7 =>
 some (.next [(nth v6 0), v7])) (fun _ =>
 some (.done 0 [(nth v1 0)]))
def ref13_Union_s (a0 a1 : IV) : Option (List IV) :=
 (iter rounds (ref13_Union_l3 a1) [a0, (.int .i64 0)]).bind fun v8 =>
 sel v8.1 [some [(nth v8.2 0)]]

def law13_MovesTells_l4 (a0 : IV) (v7 : List IV) : Option SR :=
 (ilenL a0).bind fun v8 =>
 (ibin .lss (nth v7 0) v8).bind fun v9 =>
 icond v9 (fun _ =>
 ((iidx a0 (nth v7 0) 6).bind fun v10 =>
 (ildN a0 v10 0 6).bind fun v11 =>
 (moves_One_s (nth v11 0) (nth v11 1) (nth v11 2) (nth v11 3) (nth v11 4) (nth v11 5)).bind fun v12 =>
 (iidx a0 (nth v7 0) 6).bind fun v13 =>
 (ildN a0 v13 0 6).bind fun v14 =>
 (ref13_One_s (nth v14 0) (nth v14 1) (nth v14 2) (nth v14 3) (nth v14 4) (nth v14 5)).bind fun v15 =>
 (ibinB .neq (nth v12 0) (nth v15 0)).bind fun v16 =>
 icond v16 (fun _ =>
 some [(.bool true)]) (fun _ =>
 (iidx a0 (nth v7 0) 6).bind fun v17 =>
 (ildN a0 v17 0 6).bind fun v18 =>
 (moves_Row_s (nth v18 0) (nth v18 1) (nth v18 2) (nth v18 3) (nth v18 4) (nth v18 5)).bind fun v19 =>
 (iidx a0 (nth v7 0) 6).bind fun v20 =>
 (ildN a0 v20 0 6).bind fun v21 =>
 (ref13_Row_s (nth v21 0) (nth v21 1) (nth v21 2) (nth v21 3) (nth v21 4) (nth v21 5)).bind fun v22 =>
 (ref12_Alike_s (nth v19 0) (nth v19 1) (nth v19 2) (nth v19 3) (nth v22 0) (nth v22 1) (nth v22 2) (nth v22 3)).bind fun v23 =>
 (iun .not (nth v23 0)).bind fun v24 =>
 some [v24])).bind fun v25 =>
 icond (nth v25 0) (fun _ =>
 some (.done 1 [(.bool false)])) (fun _ =>
 (ibin .add (nth v7 0) (.int .i64 1)).bind fun v26 =>
 some (.next [v26]))) (fun _ =>
 some (.done 0 []))
def law13_MovesTells_s (a0 a1 a2 a3 : IV) : Option (List IV) :=
 ((ref13_Few_s a0 (.int .i64 60)).bind fun v1 =>
 (iun .not (nth v1 0)).bind fun v2 =>
 icond v2 (fun _ =>
 some [(.bool true)]) (fun _ =>
 (ref13_Few_s a1 (.int .i64 60)).bind fun v3 =>
 (iun .not (nth v3 0)).bind fun v4 =>
 some [v4])).bind fun v5 =>
 icond (nth v5 0) (fun _ =>
 (law13_live_s).bind fun v6 =>
 scal [(nth v6 0)]) (fun _ =>
 (iter rounds (law13_MovesTells_l4 a0) [(.int .i64 0)]).bind fun v27 =>
 sel v27.1 [((moves_May_s a0).bind fun v28 =>
 (ref13_May_s a0).bind fun v29 =>
 (ibinB .eql (nth v28 0) (nth v29 0)).bind fun v30 =>
 icond v30 (fun _ =>
 (moves_Same_s a0 a1).bind fun v31 =>
 (ref13_Same_s a0 a1).bind fun v32 =>
 (ibinB .eql (nth v31 0) (nth v32 0)).bind fun v33 =>
 icond v33 (fun _ =>
 (moves_Since_s a0 a2 a3).bind fun v34 =>
 (ref13_Since_s a0 a2 a3).bind fun v35 =>
 (ref13_Same_s (nth v34 0) (nth v35 0)).bind fun v36 =>
 icond (nth v36 0) (fun _ =>
 (moves_Union_s a0 a1).bind fun v37 =>
 (ref13_Union_s a0 a1).bind fun v38 =>
 (ref13_Same_s (nth v37 0) (nth v38 0)).bind fun v39 =>
 icond (nth v39 0) (fun _ =>
 (law13_live_s).bind fun v40 =>
 some [(nth v40 0)]) (fun _ =>
 some [(.bool false)])) (fun _ =>
 some [(.bool false)])) (fun _ =>
 some [(.bool false)])) (fun _ =>
 some [(.bool false)])).bind fun v41 =>
 scal [(nth v41 0)],
 scal [(nth v27.2 0)]])

def law13_MovesInserts_s (a0 a1 a2 a3 a4 a5 a6 : IV) : Option (List IV) :=
 ((ref13_Few_s a0 (.int .i64 60)).bind fun v1 =>
 (iun .not (nth v1 0)).bind fun v2 =>
 icond v2 (fun _ =>
 some [(.bool true)]) (fun _ =>
 (ilenS a5).bind fun v3 =>
 (ibin .gtr v3 (.int .i64 100)).bind fun v4 =>
 some [v4])).bind fun v5 =>
 icond (nth v5 0) (fun _ =>
 (law13_live_s).bind fun v6 =>
 scal [(nth v6 0)]) (fun _ =>
 (moves_Insert_s a0 a1 a2 a3 a4 a5 a6).bind fun v7 =>
 (ref13_Insert_s a0 a1 a2 a3 a4 a5 a6).bind fun v8 =>
 ((ref13_Same_s (nth v7 0) (nth v8 0)).bind fun v9 =>
 icond (nth v9 0) (fun _ =>
 (ibin .eql (nth v7 1) (nth v8 1)).bind fun v10 =>
 icond v10 (fun _ =>
 (ibinB .eql (nth v7 2) (nth v8 2)).bind fun v11 =>
 icond v11 (fun _ =>
 (law13_live_s).bind fun v12 =>
 some [(nth v12 0)]) (fun _ =>
 some [(.bool false)])) (fun _ =>
 some [(.bool false)])) (fun _ =>
 some [(.bool false)])).bind fun v13 =>
 scal [(nth v13 0)])

def law13_MovesMay_s (a0 a1 a2 a3 a4 a5 a6 : IV) : Option (List IV) :=
 ((ref13_Few_s a0 (.int .i64 60)).bind fun v1 =>
 (iun .not (nth v1 0)).bind fun v2 =>
 icond v2 (fun _ =>
 some [(.bool true)]) (fun _ =>
 (ilenS a5).bind fun v3 =>
 (ibin .gtr v3 (.int .i64 100)).bind fun v4 =>
 icond v4 (fun _ =>
 some [(.bool true)]) (fun _ =>
 (ref13_May_s a0).bind fun v5 =>
 (iun .not (nth v5 0)).bind fun v6 =>
 icond v6 (fun _ =>
 some [(.bool true)]) (fun _ =>
 (ref13_One_s a1 a2 a3 a4 a5 a6).bind fun v7 =>
 (iun .not (nth v7 0)).bind fun v8 =>
 some [v8])))).bind fun v9 =>
 icond (nth v9 0) (fun _ =>
 (law13_live_s).bind fun v10 =>
 scal [(nth v10 0)]) (fun _ =>
 (moves_Insert_s a0 a1 a2 a3 a4 a5 a6).bind fun v11 =>
 (moves_Insert_s (nth v11 0) a1 a2 a3 a4 a5 a6).bind fun v12 =>
 ((moves_May_s (nth v11 0)).bind fun v13 =>
 (iun .not (nth v13 0)).bind fun v14 =>
 icond v14 (fun _ =>
 some [(.bool true)]) (fun _ =>
 icond (nth v12 2) (fun _ =>
 some [(.bool true)]) (fun _ =>
 (ibin .neq (nth v11 1) (nth v12 1)).bind fun v15 =>
 icond v15 (fun _ =>
 some [(.bool true)]) (fun _ =>
 (ref13_Same_s (nth v11 0) (nth v12 0)).bind fun v16 =>
 (iun .not (nth v16 0)).bind fun v17 =>
 icond v17 (fun _ =>
 some [(.bool true)]) (fun _ =>
 (ibin .lss (nth v11 1) (.int .i64 0)).bind fun v18 =>
 icond v18 (fun _ =>
 some [(.bool true)]) (fun _ =>
 (ilenL (nth v11 0)).bind fun v19 =>
 (ibin .geq (nth v11 1) v19).bind fun v20 =>
 icond v20 (fun _ =>
 some [(.bool true)]) (fun _ =>
 (iidx (nth v11 0) (nth v11 1) 6).bind fun v21 =>
 (ildN (nth v11 0) v21 0 2).bind fun v22 =>
 (ieqs .neq [.i, .i] [(nth v22 0), (nth v22 1)] [a1, a2]).bind fun v23 =>
 some [v23]))))))).bind fun v24 =>
 icond (nth v24 0) (fun _ =>
 scal [(.bool false)]) (fun _ =>
 (iun .not (nth v11 2)).bind fun v25 =>
 icond v25 (fun _ =>
 ((ref13_Same_s (nth v11 0) a0).bind fun v26 =>
 icond (nth v26 0) (fun _ =>
 (law13_live_s).bind fun v27 =>
 some [(nth v27 0)]) (fun _ =>
 some [(.bool false)])).bind fun v28 =>
 scal [(nth v28 0)]) (fun _ =>
 (ibin .add (nth v11 1) (.int .i64 1)).bind fun v29 =>
 (islcL 6 (nth v11 0) (some v29) none).bind fun v30 =>
 (islcL 6 (nth v11 0) none (some (nth v11 1))).bind fun v31 =>
 (iapp 6 56 (.lst []) v31).bind fun v32 =>
 (iapp 6 56 v32 v30).bind fun v33 =>
 ((iidx (nth v11 0) (nth v11 1) 6).bind fun v34 =>
 (ildN (nth v11 0) v34 0 6).bind fun v35 =>
 (ref13_Alike_s (nth v35 0) (nth v35 1) (nth v35 2) (nth v35 3) (nth v35 4) (nth v35 5) a1 a2 a3 a4 a5 a6).bind fun v36 =>
 icond (nth v36 0) (fun _ =>
 (ref13_Same_s v33 a0).bind fun v37 =>
 icond (nth v37 0) (fun _ =>
 (law13_live_s).bind fun v38 =>
 some [(nth v38 0)]) (fun _ =>
 some [(.bool false)])) (fun _ =>
 some [(.bool false)])).bind fun v39 =>
 scal [(nth v39 0)])))

def law13_MovesOrder_l7 (v7 : List IV) (a0 : IV) (v10 : List IV) : Option SR :=
 (ibin .lss (nth v10 0) (nth v7 0)).bind fun v11 =>
 icond v11 (fun _ =>
 ((iidx a0 (nth v7 0) 6).bind fun v12 =>
 (ildN a0 v12 0 2).bind fun v13 =>
 (iidx a0 (nth v10 0) 6).bind fun v14 =>
 (ildN a0 v14 0 2).bind fun v15 =>
 (ieqs .eql [.i, .i] [(nth v13 0), (nth v13 1)] [(nth v15 0), (nth v15 1)]).bind fun v16 =>
 icond v16 (fun _ =>
 (iidx a0 (nth v7 0) 6).bind fun v17 =>
 (ildN a0 v17 0 6).bind fun v18 =>
 (iidx a0 (nth v10 0) 6).bind fun v19 =>
 (ildN a0 v19 0 6).bind fun v20 =>
 (ref13_Alike_s (nth v18 0) (nth v18 1) (nth v18 2) (nth v18 3) (nth v18 4) (nth v18 5) (nth v20 0) (nth v20 1) (nth v20 2) (nth v20 3) (nth v20 4) (nth v20 5)).bind fun v21 =>
 (iun .not (nth v21 0)).bind fun v22 =>
 some [v22]) (fun _ =>
 some [(.bool false)])).bind fun v23 =>
 icond (nth v23 0) (fun _ =>
 (law13_live_s).bind fun v24 =>
 some (.done 1 [(nth v24 0)])) (fun _ =>
 (ibin .add (nth v10 0) (.int .i64 1)).bind fun v25 =>
 some (.next [v25]))) (fun _ =>
 some (.done 0 []))
def law13_MovesOrder_l4 (a0 : IV) (v7 : List IV) : Option SR :=
 (ilenL a0).bind fun v8 =>
 (ibin .lss (nth v7 0) v8).bind fun v9 =>
 icond v9 (fun _ =>
 (iter rounds (law13_MovesOrder_l7 v7 a0) [(.int .i64 0)]).bind fun v26 =>
 sel v26.1 [(ibin .add (nth v7 0) (.int .i64 1)).bind fun v27 =>
 some (.next [v27]),
 some (.done 1 [(nth v26.2 0)])]) (fun _ =>
 some (.done 0 []))
def law13_MovesOrder_l13 (a1 : IV) (a0 : IV) (v29 : List IV) : Option SR :=
 (ilenL a1).bind fun v30 =>
 (ibin .lss (nth v29 1) v30).bind fun v31 =>
 icond v31 (fun _ =>
 ((iidx a1 (nth v29 1) 1).bind fun v32 =>
 (ild a1 v32 0).bind fun v33 =>
 (ibin .geq v33 (.int .i64 0)).bind fun v34 =>
 icond v34 (fun _ =>
 (iidx a1 (nth v29 1) 1).bind fun v35 =>
 (ild a1 v35 0).bind fun v36 =>
 (ilenL a0).bind fun v37 =>
 (ibin .lss v36 v37).bind fun v38 =>
 some [v38]) (fun _ =>
 some [(.bool false)])).bind fun v39 =>
 icond (nth v39 0) (fun _ =>
 (iidx a1 (nth v29 1) 1).bind fun v40 =>
 (ild a1 v40 0).bind fun v41 =>
 (iidx a0 v41 6).bind fun v42 =>
 (ildN a0 v42 0 6).bind fun v43 =>
 (moves_Insert_s (nth v29 0) (nth v43 0) (nth v43 1) (nth v43 2) (nth v43 3) (nth v43 4) (nth v43 5)).bind fun v44 =>
 (ibin .add (nth v29 1) (.int .i64 1)).bind fun v45 =>
 some (.next [(nth v44 0), v45])) (fun _ =>
 (ibin .add (nth v29 1) (.int .i64 1)).bind fun v46 =>
 some (.next [(nth v29 0), v46]))) (fun _ =>
 some (.done 0 [(nth v29 0)]))
def law13_MovesOrder_l20 (v48 : List IV) (v50 : List IV) : Option SR :=
 (ilenL (nth v48 0)).bind fun v51 =>
 (ibin .lss (nth v50 0) v51).bind fun v52 =>
 icond v52 (fun _ =>
 (ibin .sub (nth v50 0) (.int .i64 1)).bind fun v53 =>
 (iidx (nth v48 0) v53 6).bind fun v54 =>
 (ildN (nth v48 0) v54 0 2).bind fun v55 =>
 (iidx (nth v48 0) (nth v50 0) 6).bind fun v56 =>
 (ildN (nth v48 0) v56 0 2).bind fun v57 =>
 (ref02_Before_s (nth v55 0) (nth v55 1) (nth v57 0) (nth v57 1)).bind fun v58 =>
 (iun .not (nth v58 0)).bind fun v59 =>
 icond v59 (fun _ =>
 some (.done 1 [(.bool false)])) (fun _ =>
 (ibin .add (nth v50 0) (.int .i64 1)).bind fun v60 =>
 some (.next [v60]))) (fun _ =>
 some (.done 0 []))
def law13_MovesOrder_s (a0 a1 : IV) : Option (List IV) :=
 ((ref13_Few_s a0 (.int .i64 40)).bind fun v1 =>
 (iun .not (nth v1 0)).bind fun v2 =>
 icond v2 (fun _ =>
 some [(.bool true)]) (fun _ =>
 (ilenL a1).bind fun v3 =>
 (ibin .gtr v3 (.int .i64 80)).bind fun v4 =>
 some [v4])).bind fun v5 =>
 icond (nth v5 0) (fun _ =>
 (law13_live_s).bind fun v6 =>
 scal [(nth v6 0)]) (fun _ =>
 (iter rounds (law13_MovesOrder_l4 a0) [(.int .i64 0)]).bind fun v28 =>
 sel v28.1 [(iter rounds (law13_MovesOrder_l13 a1 a0) [(.lst []), (.int .i64 0)]).bind fun v47 =>
 sel v47.1 [(moves_Union_s (nth v47.2 0) a0).bind fun v48 =>
 (moves_Union_s (.lst []) a0).bind fun v49 =>
 (iter rounds (law13_MovesOrder_l20 v48) [(.int .i64 1)]).bind fun v61 =>
 sel v61.1 [((ref13_Same_s (nth v48 0) (nth v49 0)).bind fun v62 =>
 icond (nth v62 0) (fun _ =>
 (moves_Union_s (nth v49 0) (nth v47.2 0)).bind fun v63 =>
 (ref13_Same_s (nth v63 0) (nth v49 0)).bind fun v64 =>
 icond (nth v64 0) (fun _ =>
 (law13_live_s).bind fun v65 =>
 some [(nth v65 0)]) (fun _ =>
 some [(.bool false)])) (fun _ =>
 some [(.bool false)])).bind fun v66 =>
 scal [(nth v66 0)],
 scal [(nth v61.2 0)]]],
 scal [(nth v28.2 0)]])

def law13_MovesSince_l8 (a0 : IV) (a1 : IV) (a2 : IV) (v10 : IV) (v16 : List IV) : Option SR :=
 (ilenL a0).bind fun v17 =>
 (ibin .lss (nth v16 0) v17).bind fun v18 =>
 icond v18 (fun _ =>
 (iidx a0 (nth v16 0) 6).bind fun v19 =>
 (ildN a0 v19 0 2).bind fun v20 =>
 (ref02_Before_s a1 a2 (nth v20 0) (nth v20 1)).bind fun v21 =>
 (ibin .geq (nth v16 0) v10).bind fun v22 =>
 (ibinB .neq (nth v21 0) v22).bind fun v23 =>
 icond v23 (fun _ =>
 some (.done 1 [(.bool false)])) (fun _ =>
 (ibin .add (nth v16 0) (.int .i64 1)).bind fun v24 =>
 some (.next [v24]))) (fun _ =>
 some (.done 0 []))
def law13_MovesSince_s (a0 a1 a2 : IV) : Option (List IV) :=
 ((ref13_Few_s a0 (.int .i64 60)).bind fun v1 =>
 (iun .not (nth v1 0)).bind fun v2 =>
 icond v2 (fun _ =>
 some [(.bool true)]) (fun _ =>
 (ref13_May_s a0).bind fun v3 =>
 (iun .not (nth v3 0)).bind fun v4 =>
 some [v4])).bind fun v5 =>
 icond (nth v5 0) (fun _ =>
 (law13_live_s).bind fun v6 =>
 scal [(nth v6 0)]) (fun _ =>
 (moves_Since_s a0 a1 a2).bind fun v7 =>
 (ilenL a0).bind fun v8 =>
 (ilenL (nth v7 0)).bind fun v9 =>
 (ibin .sub v8 v9).bind fun v10 =>
 ((ibin .lss v10 (.int .i64 0)).bind fun v11 =>
 icond v11 (fun _ =>
 some [(.bool true)]) (fun _ =>
 (islcL 6 a0 (some v10) none).bind fun v12 =>
 (ref13_Same_s v12 (nth v7 0)).bind fun v13 =>
 (iun .not (nth v13 0)).bind fun v14 =>
 some [v14])).bind fun v15 =>
 icond (nth v15 0) (fun _ =>
 scal [(.bool false)]) (fun _ =>
 (iter rounds (law13_MovesSince_l8 a0 a1 a2 v10) [(.int .i64 0)]).bind fun v25 =>
 sel v25.1 [((islcL 6 a0 none (some v10)).bind fun v26 =>
 (moves_Union_s v26 (nth v7 0)).bind fun v27 =>
 (ref13_Same_s (nth v27 0) a0).bind fun v28 =>
 icond (nth v28 0) (fun _ =>
 (law13_live_s).bind fun v29 =>
 some [(nth v29 0)]) (fun _ =>
 some [(.bool false)])).bind fun v30 =>
 scal [(nth v30 0)],
 scal [(nth v25.2 0)]]))

def law13_MovesUnion_l8 (v18 : List IV) (v17 : IV) (v20 : List IV) : Option SR :=
 (ibin .lss (nth v20 0) (nth v18 0)).bind fun v21 =>
 icond v21 (fun _ =>
 ((ibidx (llen v17) (nth v18 0)).bind fun v22 =>
 (ildN v17 v22 0 2).bind fun v23 =>
 (ibidx (llen v17) (nth v20 0)).bind fun v24 =>
 (ildN v17 v24 0 2).bind fun v25 =>
 (ieqs .eql [.i, .i] [(nth v23 0), (nth v23 1)] [(nth v25 0), (nth v25 1)]).bind fun v26 =>
 icond v26 (fun _ =>
 (ibidx (llen v17) (nth v18 0)).bind fun v27 =>
 (ildN v17 v27 0 6).bind fun v28 =>
 (ibidx (llen v17) (nth v20 0)).bind fun v29 =>
 (ildN v17 v29 0 6).bind fun v30 =>
 (ref13_Alike_s (nth v28 0) (nth v28 1) (nth v28 2) (nth v28 3) (nth v28 4) (nth v28 5) (nth v30 0) (nth v30 1) (nth v30 2) (nth v30 3) (nth v30 4) (nth v30 5)).bind fun v31 =>
 (iun .not (nth v31 0)).bind fun v32 =>
 some [v32]) (fun _ =>
 some [(.bool false)])).bind fun v33 =>
 icond (nth v33 0) (fun _ =>
 (law13_live_s).bind fun v34 =>
 some (.done 1 [(nth v34 0)])) (fun _ =>
 (ibin .add (nth v20 0) (.int .i64 1)).bind fun v35 =>
 some (.next [v35]))) (fun _ =>
 some (.done 0 []))
def law13_MovesUnion_l5 (v17 : IV) (v18 : List IV) : Option SR :=
 (ibin .lss (nth v18 0) (.int .i64 ((llen v17) : Nat))).bind fun v19 =>
 icond v19 (fun _ =>
 (iter rounds (law13_MovesUnion_l8 v18 v17) [(.int .i64 0)]).bind fun v36 =>
 sel v36.1 [(ibin .add (nth v18 0) (.int .i64 1)).bind fun v37 =>
 some (.next [v37]),
 some (.done 1 [(nth v36.2 0)])]) (fun _ =>
 some (.done 0 []))
def law13_MovesUnion_l16 (v17 : IV) (v40 : List IV) (v45 : List IV) : Option SR :=
 (ibin .lss (nth v45 0) (.int .i64 ((llen v17) : Nat))).bind fun v46 =>
 icond v46 (fun _ =>
 (ibidx (llen v17) (nth v45 0)).bind fun v47 =>
 (ildN v17 v47 0 6).bind fun v48 =>
 (moves_Insert_s (nth v40 0) (nth v48 0) (nth v48 1) (nth v48 2) (nth v48 3) (nth v48 4) (nth v48 5)).bind fun v49 =>
 (icond (nth v49 2) (fun _ =>
 some [(.bool true)]) (fun _ =>
 (ibin .lss (nth v49 1) (.int .i64 0)).bind fun v50 =>
 icond v50 (fun _ =>
 some [(.bool true)]) (fun _ =>
 (ilenL (nth v40 0)).bind fun v51 =>
 (ibin .geq (nth v49 1) v51).bind fun v52 =>
 icond v52 (fun _ =>
 some [(.bool true)]) (fun _ =>
 (iidx (nth v40 0) (nth v49 1) 6).bind fun v53 =>
 (ildN (nth v40 0) v53 0 6).bind fun v54 =>
 (ibidx (llen v17) (nth v45 0)).bind fun v55 =>
 (ildN v17 v55 0 6).bind fun v56 =>
 (ref13_Alike_s (nth v54 0) (nth v54 1) (nth v54 2) (nth v54 3) (nth v54 4) (nth v54 5) (nth v56 0) (nth v56 1) (nth v56 2) (nth v56 3) (nth v56 4) (nth v56 5)).bind fun v57 =>
 (iun .not (nth v57 0)).bind fun v58 =>
 some [v58])))).bind fun v59 =>
 icond (nth v59 0) (fun _ =>
 some (.done 1 [(.bool false)])) (fun _ =>
 (ibin .add (nth v45 0) (.int .i64 1)).bind fun v60 =>
 some (.next [v60]))) (fun _ =>
 some (.done 0 []))
def law13_MovesUnion_s (a0 a1 a2 : IV) : Option (List IV) :=
 ((ref13_Few_s a0 (.int .i64 20)).bind fun v1 =>
 (iun .not (nth v1 0)).bind fun v2 =>
 icond v2 (fun _ =>
 some [(.bool true)]) (fun _ =>
 (ref13_Few_s a1 (.int .i64 20)).bind fun v3 =>
 (iun .not (nth v3 0)).bind fun v4 =>
 icond v4 (fun _ =>
 some [(.bool true)]) (fun _ =>
 (ref13_Few_s a2 (.int .i64 20)).bind fun v5 =>
 (iun .not (nth v5 0)).bind fun v6 =>
 icond v6 (fun _ =>
 some [(.bool true)]) (fun _ =>
 (ref13_May_s a0).bind fun v7 =>
 (iun .not (nth v7 0)).bind fun v8 =>
 icond v8 (fun _ =>
 some [(.bool true)]) (fun _ =>
 (ref13_May_s a1).bind fun v9 =>
 (iun .not (nth v9 0)).bind fun v10 =>
 icond v10 (fun _ =>
 some [(.bool true)]) (fun _ =>
 (ref13_May_s a2).bind fun v11 =>
 (iun .not (nth v11 0)).bind fun v12 =>
 some [v12])))))).bind fun v13 =>
 icond (nth v13 0) (fun _ =>
 (law13_live_s).bind fun v14 =>
 scal [(nth v14 0)]) (fun _ =>
 (iapp 6 56 (.lst []) a0).bind fun v15 =>
 (iapp 6 56 v15 a1).bind fun v16 =>
 (iapp 6 56 v16 a2).bind fun v17 =>
 (iter rounds (law13_MovesUnion_l5 v17) [(.int .i64 0)]).bind fun v38 =>
 sel v38.1 [(moves_Union_s a0 a1).bind fun v39 =>
 (moves_Union_s (nth v39 0) a2).bind fun v40 =>
 (moves_Union_s a1 a2).bind fun v41 =>
 (moves_Union_s a0 (nth v41 0)).bind fun v42 =>
 (moves_Union_s a1 a0).bind fun v43 =>
 (moves_Union_s a2 (nth v43 0)).bind fun v44 =>
 (iter rounds (law13_MovesUnion_l16 v17 v40) [(.int .i64 0)]).bind fun v61 =>
 sel v61.1 [((moves_May_s (nth v40 0)).bind fun v62 =>
 icond (nth v62 0) (fun _ =>
 (ref13_Same_s (nth v40 0) (nth v42 0)).bind fun v63 =>
 icond (nth v63 0) (fun _ =>
 (ref13_Same_s (nth v40 0) (nth v44 0)).bind fun v64 =>
 icond (nth v64 0) (fun _ =>
 (law13_live_s).bind fun v65 =>
 some [(nth v65 0)]) (fun _ =>
 some [(.bool false)])) (fun _ =>
 some [(.bool false)])) (fun _ =>
 some [(.bool false)])).bind fun v66 =>
 scal [(nth v66 0)],
 scal [(nth v61.2 0)]],
 scal [(nth v38.2 0)]])

end Go.AM

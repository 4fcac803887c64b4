/- The functions of the program that are reached, as the abstract machine runs them; printed by a program of this work. -/
import Derived.Test.YtjgbgmedbfhgdaaGreatAe
set_option linter.unusedVariables false
namespace Go.AM
abbrev n_law18_FloorTells : Nat := 3
abbrev n_law18_FloorMerges : Nat := 4
abbrev n_law18_FloorMay : Nat := 5
abbrev n_law18_FloorKeeps : Nat := 6
abbrev n_law18_FloorOrder : Nat := 7
abbrev n_law18_FloorTwice : Nat := 8
abbrev n_law18_FloorMarks : Nat := 9
abbrev n_ref18_Few : Nat := 10
abbrev n_law18_live : Nat := 11
abbrev n_floor_Add : Nat := 12
abbrev n_ref18_Add : Nat := 13
abbrev n_floor_Prune : Nat := 14
abbrev n_ref18_Prune : Nat := 15
abbrev n_floor_May : Nat := 16
abbrev n_ref18_May : Nat := 17
abbrev n_ref12_Same : Nat := 18
abbrev n_floor_Tree : Nat := 19
abbrev n_ref18_Tree : Nat := 20
abbrev n_floor_Same : Nat := 21
abbrev n_ref18_Same : Nat := 22
abbrev n_ref13_Few : Nat := 23
abbrev n_floor_Merge : Nat := 24
abbrev n_ref18_Merge : Nat := 25
abbrev n_ref13_One : Nat := 26
abbrev n_ref02_Before : Nat := 27
abbrev n_marks_Get : Nat := 28
abbrev n_marks_Below : Nat := 29
abbrev n_ref17_Same : Nat := 30
abbrev n_ref13_Alike : Nat := 31
abbrev n_marks_Join : Nat := 32
abbrev n_marks_Of : Nat := 33
abbrev n_ref12_Few : Nat := 34
abbrev n_law18_live_1 : Nat := 35
abbrev n_moves_One : Nat := 36
abbrev n_rank_Before : Nat := 37
abbrev n_moves_Insert : Nat := 38
abbrev n_floor_children : Nat := 39
abbrev n_marks_Raise : Nat := 40
abbrev n_ref13_Insert : Nat := 41
abbrev n_ref18_Children : Nat := 42
abbrev n_ref17_Raise : Nat := 43
abbrev n_floor_known : Nat := 44
abbrev n_moves_Since : Nat := 45
abbrev n_fold_All : Nat := 46
abbrev n_ref13_Time : Nat := 47
abbrev n_ref17_Get : Nat := 48
abbrev n_ref13_Since : Nat := 49
abbrev n_ref14_All : Nat := 50
abbrev n_floor_May_1 : Nat := 51
abbrev n_tree_May : Nat := 52
abbrev n_moves_May : Nat := 53
abbrev n_marks_May : Nat := 54
abbrev n_floor_May_2 : Nat := 55
abbrev n_floor_May_3 : Nat := 56
abbrev n_floor_May_4 : Nat := 57
abbrev n_floor_May_5 : Nat := 58
abbrev n_ref12_May : Nat := 59
abbrev n_ref13_May : Nat := 60
abbrev n_ref17_May : Nat := 61
abbrev n_ref17_Below : Nat := 62
abbrev n_ref17_Of : Nat := 63
abbrev n_ref12_Alike : Nat := 64
abbrev n_tree_Same : Nat := 65
abbrev n_moves_Same : Nat := 66
abbrev n_slices_Equal_Mark : Nat := 67
abbrev n_ref13_Same : Nat := 68
abbrev n_ref12_One : Nat := 69
abbrev n_ref13_Row : Nat := 70
abbrev n_marks_place : Nat := 71
abbrev n_slices_ContainsFunc_Mark : Nat := 72
abbrev n_marks_Below_1 : Nat := 73
abbrev n_tree_One : Nat := 74
abbrev n_moves_Row : Nat := 75
abbrev n_rank_first : Nat := 76
abbrev n_rank_Before_1 : Nat := 77
abbrev n_cmp_Compare_int : Nat := 78
abbrev n_rank_Before_2 : Nat := 79
abbrev n_moves_seek : Nat := 80
abbrev n_moves_when_is : Nat := 81
abbrev n_moves_when_before : Nat := 82
abbrev n_slices_Insert_Move : Nat := 83
abbrev n_slices_Clone_Move : Nat := 84
abbrev n_slices_Clone_Mark : Nat := 85
abbrev n_marks_greatest : Nat := 86
abbrev n_slices_IndexFunc_Mark : Nat := 87
abbrev n_marks_Raise_1 : Nat := 88
abbrev n_slices_Insert_Mark : Nat := 89
abbrev n_fold_Do : Nat := 90
abbrev n_ref14_Do : Nat := 91
abbrev n_tree_parents : Nat := 92
abbrev n_tree_ways : Nat := 93
abbrev n_slices_ContainsFunc_Move : Nat := 94
abbrev n_moves_May_1 : Nat := 95
abbrev n_ref12_Above : Nat := 96
abbrev n_ref01_Same : Nat := 97
abbrev n_slices_EqualFunc_Row_Row : Nat := 98
abbrev n_tree_Same_1 : Nat := 99
abbrev n_bits_Same : Nat := 100
abbrev n_slices_EqualFunc_Move_Move : Nat := 101
abbrev n_moves_Same_1 : Nat := 102
abbrev n_ref04_Valid : Nat := 103
abbrev n_marks_place_1 : Nat := 104
abbrev n_word_Valid : Nat := 105
abbrev n_cmp_isNaN_int : Nat := 106
abbrev n_slices_overlaps_Move : Nat := 107
abbrev n_slices_rotateRight_Move : Nat := 108
abbrev n_slices_overlaps_Mark : Nat := 109
abbrev n_slices_rotateRight_Mark : Nat := 110
abbrev n_fold_Barred : Nat := 111
abbrev n_tree_Set : Nat := 112
abbrev n_ref14_Barred : Nat := 113
abbrev n_ref12_Set : Nat := 114
abbrev n_tree_ways_1 : Nat := 115
abbrev n_slices_IndexFunc_Move : Nat := 116
abbrev n_ref12_Find : Nat := 117
abbrev n_ref01_Bits : Nat := 118
abbrev n_bits_Bits : Nat := 119
abbrev n_ref04_First : Nat := 120
abbrev n_word_signs : Nat := 121
abbrev n_slices_rotateLeft_Move : Nat := 122
abbrev n_slices_rotateLeft_Mark : Nat := 123
abbrev n_tree_Above : Nat := 124
abbrev n_slices_Clone_Row : Nat := 125
abbrev n_tree_place : Nat := 126
abbrev n_slices_IndexFunc_Row : Nat := 127
abbrev n_tree_Set_1 : Nat := 128
abbrev n_slices_Insert_Row : Nat := 129
abbrev n_ref12_place : Nat := 130
abbrev n_ref01_None : Nat := 131
abbrev n_ref01_Minus : Nat := 132
abbrev n_ref01_top : Nat := 133
abbrev n_bits_Minus : Nat := 134
abbrev n_bits_split : Nat := 135
abbrev n_ref04_sign : Nat := 136
abbrev n_word_head : Nat := 137
abbrev n_slices_Reverse_Move : Nat := 138
abbrev n_slices_Reverse_Mark : Nat := 139
abbrev n_tree_place_1 : Nat := 140
abbrev n_slices_overlaps_Row : Nat := 141
abbrev n_slices_rotateRight_Row : Nat := 142
abbrev n_bits_powers : Nat := 143
abbrev n_ref04_in : Nat := 144
abbrev n_slices_rotateLeft_Row : Nat := 145
abbrev n_slices_Reverse_Row : Nat := 146
abbrev n_runtime_boundsError_Error : Nat := 147
abbrev n_runtime_boundsError_RuntimeError : Nat := 148
abbrev n_runtime_errorString_Error : Nat := 149
abbrev n_runtime_errorString_RuntimeError : Nat := 150
abbrev n_runtime_plainError_Error : Nat := 151
abbrev n_runtime_plainError_RuntimeError : Nat := 152
abbrev n_runtime_errorAddressString_Error : Nat := 153
abbrev n_runtime_errorAddressString_RuntimeError : Nat := 154
abbrev n_runtime_TypeAssertionError_Error : Nat := 155
abbrev n_runtime_TypeAssertionError_RuntimeError : Nat := 156
abbrev n_runtime_PanicNilError_Error : Nat := 157
abbrev n_runtime_PanicNilError_RuntimeError : Nat := 158
abbrev n_abi_Type_Align : Nat := 159
abbrev n_maps_unhashableTypeError_Error : Nat := 160
abbrev n_maps_unhashableTypeError_RuntimeError : Nat := 161
abbrev n_abi_Kind_String : Nat := 162
abbrev slices_Insert_Move_s := insertS 6 56
abbrev slices_Clone_Move_s := cloneS 6 56
abbrev slices_Clone_Mark_s := cloneS 2 16
abbrev slices_Insert_Mark_s := insertS 2 16
abbrev tree_Above_s := aboveS
abbrev slices_Clone_Row_s := cloneS 4 40
abbrev slices_Insert_Row_s := insertS 4 40
def word_head_s (a0 : IV) : Option (List IV) :=
 (ibin .lss a0 (.int .u8 128)).bind fun v1 =>
 icond v1 (fun _ =>
 scal [(.int .i64 0), (.int .u8 128), (.int .u8 191), (.bool true)]) (fun _ =>
 (ibin .lss a0 (.int .u8 194)).bind fun v2 =>
 icond v2 (fun _ =>
 scal [(.int .i64 0), (.int .u8 128), (.int .u8 191), (.bool false)]) (fun _ =>
 (ibin .lss a0 (.int .u8 224)).bind fun v3 =>
 icond v3 (fun _ =>
 scal [(.int .i64 1), (.int .u8 128), (.int .u8 191), (.bool true)]) (fun _ =>
 (ibin .lss a0 (.int .u8 240)).bind fun v4 =>
 icond v4 (fun _ =>
 (ibin .eql a0 (.int .u8 224)).bind fun v5 =>
 icond v5 (fun _ =>
 scal [(.int .i64 2), (.int .u8 160), (.int .u8 191), (.bool true)]) (fun _ =>
 (ibin .eql a0 (.int .u8 237)).bind fun v6 =>
 icond v6 (fun _ =>
 scal [(.int .i64 2), (.int .u8 128), (.int .u8 159), (.bool true)]) (fun _ =>
 scal [(.int .i64 2), (.int .u8 128), (.int .u8 191), (.bool true)]))) (fun _ =>
 (ibin .lss a0 (.int .u8 245)).bind fun v7 =>
 icond v7 (fun _ =>
 (ibin .eql a0 (.int .u8 240)).bind fun v8 =>
 icond v8 (fun _ =>
 scal [(.int .i64 3), (.int .u8 144), (.int .u8 191), (.bool true)]) (fun _ =>
 (ibin .eql a0 (.int .u8 244)).bind fun v9 =>
 icond v9 (fun _ =>
 scal [(.int .i64 3), (.int .u8 128), (.int .u8 143), (.bool true)]) (fun _ =>
 scal [(.int .i64 3), (.int .u8 128), (.int .u8 191), (.bool true)]))) (fun _ =>
 scal [(.int .i64 0), (.int .u8 128), (.int .u8 191), (.bool false)])))))

def word_signs_l6 (v16 : IV) (v15 : IV) (v17 : List IV) : Option SR :=
 (ibin .lss (nth v17 2) v16).bind fun v18 =>
 icond v18 (fun _ =>
 (iidx v15 (nth v17 2) 1).bind fun v19 =>
 (ild v15 v19 0).bind fun v20 =>
 ((ibin .lss v20 (nth v17 0)).bind fun v21 =>
 icond v21 (fun _ =>
 some [(.bool true)]) (fun _ =>
 (ibin .gtr v20 (nth v17 1)).bind fun v22 =>
 some [v22])).bind fun v23 =>
 icond (nth v23 0) (fun _ =>
 some (.done 1 [])) (fun _ =>
 (ibin .add (nth v17 2) (.int .i64 1)).bind fun v24 =>
 some (.next [(.int .u8 128), (.int .u8 191), v24]))) (fun _ =>
 some (.done 0 []))
def word_signs_l2 (a0 : IV) (v1 : List IV) : Option SR :=
 (ilenS a0).bind fun v2 =>
 (ibin .lss (nth v1 1) v2).bind fun v3 =>
 icond v3 (fun _ =>
 (istr a0 (nth v1 1)).bind fun v4 =>
 (word_head_s v4).bind fun v5 =>
 ((iun .not (nth v5 3)).bind fun v6 =>
 icond v6 (fun _ =>
 some [(.bool true)]) (fun _ =>
 (ilenS a0).bind fun v7 =>
 (ibin .sub v7 (nth v1 1)).bind fun v8 =>
 (ibin .leq v8 (nth v5 0)).bind fun v9 =>
 some [v9])).bind fun v10 =>
 icond (nth v10 0) (fun _ =>
 some (.done 0 [(nth v1 0), (nth v1 1)])) (fun _ =>
 (ibin .add (nth v1 1) (.int .i64 1)).bind fun v11 =>
 (ibin .add (nth v1 1) (.int .i64 1)).bind fun v12 =>
 (ibin .add v12 (nth v5 0)).bind fun v13 =>
 (islcS a0 (some v11) (some v13)).bind fun v14 =>
 (icvb v14).bind fun v15 =>
 (ilenL v15).bind fun v16 =>
 (iter rounds (word_signs_l6 v16 v15) [(nth v5 1), (nth v5 2), (.int .i64 0)]).bind fun v25 =>
 sel v25.1 [(ibin .add (.int .i64 1) (nth v5 0)).bind fun v26 =>
 (ibin .add (nth v1 1) v26).bind fun v27 =>
 (ibin .add (nth v1 0) (.int .i64 1)).bind fun v28 =>
 some (.next [v28, v27]),
 some (.done 0 [(nth v1 0), (nth v1 1)])])) (fun _ =>
 some (.done 0 [(nth v1 0), (nth v1 1)]))
def word_signs_s (a0 : IV) : Option (List IV) :=
 (iter rounds (word_signs_l2 a0) [(.int .i64 0), (.int .i64 0)]).bind fun v29 =>
 sel v29.1 [scal [(nth v29.2 0), (nth v29.2 1)]]

def word_Valid_s (a0 : IV) : Option (List IV) :=
 (word_signs_s a0).bind fun v1 =>
 (ilenS a0).bind fun v2 =>
 (ibin .eql (nth v1 1) v2).bind fun v3 =>
 scal [v3]

def tree_One_s (a0 a1 a2 a3 : IV) : Option (List IV) :=
 ((ibin .geq a0 (.int .i64 1)).bind fun v1 =>
 icond v1 (fun _ =>
 (ibin .leq a0 (.int .i64 2147483647)).bind fun v2 =>
 icond v2 (fun _ =>
 (ibin .geq a1 (.int .i64 0)).bind fun v3 =>
 icond v3 (fun _ =>
 (ibin .leq a1 (.int .i64 2147483647)).bind fun v4 =>
 icond v4 (fun _ =>
 (ilenS a2).bind fun v5 =>
 (ibin .leq v5 (.int .i64 64)).bind fun v6 =>
 icond v6 (fun _ =>
 (word_Valid_s a2).bind fun v7 =>
 some [(nth v7 0)]) (fun _ =>
 some [(.bool false)])) (fun _ =>
 some [(.bool false)])) (fun _ =>
 some [(.bool false)])) (fun _ =>
 some [(.bool false)])) (fun _ =>
 some [(.bool false)])).bind fun v8 =>
 scal [(nth v8 0)]

abbrev tree_May_s (x : IV) : Option (List IV) := mayS (fun l => match l with | [[x0, x1, x2, x3]] => tree_One_s x0 x1 x2 x3 | _ => none) x
def ref12_Few_l4 (a0 : IV) (v3 : List IV) : Option SR :=
 (ilenL a0).bind fun v4 =>
 (ibin .lss (nth v3 0) v4).bind fun v5 =>
 icond v5 (fun _ =>
 (iidx a0 (nth v3 0) 4).bind fun v6 =>
 (ild a0 v6 2).bind fun v7 =>
 (ilenS v7).bind fun v8 =>
 (ibin .gtr v8 (.int .i64 100)).bind fun v9 =>
 icond v9 (fun _ =>
 some (.done 1 [(.bool false)])) (fun _ =>
 (ibin .add (nth v3 0) (.int .i64 1)).bind fun v10 =>
 some (.next [v10]))) (fun _ =>
 some (.done 0 []))
def ref12_Few_s (a0 : IV) : Option (List IV) :=
 (ilenL a0).bind fun v1 =>
 (ibin .gtr v1 (.int .i64 60)).bind fun v2 =>
 icond v2 (fun _ =>
 scal [(.bool false)]) (fun _ =>
 (iter rounds (ref12_Few_l4 a0) [(.int .i64 0)]).bind fun v11 =>
 sel v11.1 [scal [(.bool true)],
 scal [(nth v11.2 0)]])

def ref13_Few_l4 (a0 : IV) (v3 : List IV) : Option SR :=
 (ilenL a0).bind fun v4 =>
 (ibin .lss (nth v3 0) v4).bind fun v5 =>
 icond v5 (fun _ =>
 (iidx a0 (nth v3 0) 6).bind fun v6 =>
 (ild a0 v6 4).bind fun v7 =>
 (ilenS v7).bind fun v8 =>
 (ibin .gtr v8 (.int .i64 100)).bind fun v9 =>
 icond v9 (fun _ =>
 some (.done 1 [(.bool false)])) (fun _ =>
 (ibin .add (nth v3 0) (.int .i64 1)).bind fun v10 =>
 some (.next [v10]))) (fun _ =>
 some (.done 0 []))
def ref13_Few_s (a0 a1 : IV) : Option (List IV) :=
 (ilenL a0).bind fun v1 =>
 (ibin .gtr v1 a1).bind fun v2 =>
 icond v2 (fun _ =>
 scal [(.bool false)]) (fun _ =>
 (iter rounds (ref13_Few_l4 a0) [(.int .i64 0)]).bind fun v11 =>
 sel v11.1 [scal [(.bool true)],
 scal [(nth v11.2 0)]])

def ref18_Few_s (a0 a1 a2 a3 a4 : IV) : Option (List IV) :=
 ((ref12_Few_s a0).bind fun v1 =>
 icond (nth v1 0) (fun _ =>
 (ref13_Few_s a3 (.int .i64 60)).bind fun v2 =>
 icond (nth v2 0) (fun _ =>
 (ilenL a4).bind fun v3 =>
 (ibin .leq v3 (.int .i64 60)).bind fun v4 =>
 some [v4]) (fun _ =>
 some [(.bool false)])) (fun _ =>
 some [(.bool false)])).bind fun v5 =>
 scal [(nth v5 0)]

def rank_first_l2 (C : IV → List Nat → List (List IV) → Option (List IV)) (v1 : IV) (a0 : IV) (v2 : List IV) : Option SR :=
 (ibin .lss (nth v2 0) v1).bind fun v3 =>
 icond v3 (fun _ =>
 (iidx a0 (nth v2 0) 1).bind fun v4 =>
 (ild a0 v4 0).bind fun v5 =>
 (C v5 [1] []).bind fun v6 =>
 (ibin .neq (nth v6 0) (.int .i64 0)).bind fun v7 =>
 icond v7 (fun _ =>
 some (.done 1 [(nth v6 0)])) (fun _ =>
 (ibin .add (nth v2 0) (.int .i64 1)).bind fun v8 =>
 some (.next [v8]))) (fun _ =>
 some (.done 0 []))
def rank_first_s (C : IV → List Nat → List (List IV) → Option (List IV)) (a0 : IV) : Option (List IV) :=
 (ilenL a0).bind fun v1 =>
 (iter rounds (rank_first_l2 C v1 a0) [(.int .i64 0)]).bind fun v9 =>
 sel v9.1 [scal [(.int .i64 0)],
 scal [(nth v9.2 0)]]

def cmp_isNaN_int_s (a0 : IV) : Option (List IV) :=
 (ibin .neq a0 a0).bind fun v1 =>
 scal [v1]

def cmp_Compare_int_s (a0 a1 : IV) : Option (List IV) :=
 (cmp_isNaN_int_s a0).bind fun v1 =>
 (cmp_isNaN_int_s a1).bind fun v2 =>
 icond (nth v1 0) (fun _ =>
 icond (nth v2 0) (fun _ =>
 scal [(.int .i64 0)]) (fun _ =>
 scal [(.int .i64 (-1))])) (fun _ =>
 icond (nth v2 0) (fun _ =>
 scal [(.int .i64 1)]) (fun _ =>
 (ibin .lss a0 a1).bind fun v3 =>
 icond v3 (fun _ =>
 scal [(.int .i64 (-1))]) (fun _ =>
 (ibin .gtr a0 a1).bind fun v4 =>
 icond v4 (fun _ =>
 scal [(.int .i64 1)]) (fun _ =>
 scal [(.int .i64 0)]))))

def rank_Before_1_s (a0 a1 : IV) : Option (List IV) :=
 (ipnn a0).bind fun v1 =>
 (ipld v1 0).bind fun v2 =>
 (ipnn a1).bind fun v3 =>
 (ipld v3 0).bind fun v4 =>
 (cmp_Compare_int_s v2 v4).bind fun v5 =>
 scal [(nth v5 0)]

def rank_Before_2_s (a0 a1 : IV) : Option (List IV) :=
 (ipnn a0).bind fun v1 =>
 (ipld v1 1).bind fun v2 =>
 (ipnn a1).bind fun v3 =>
 (ipld v3 1).bind fun v4 =>
 (cmp_Compare_int_s v2 v4).bind fun v5 =>
 scal [(nth v5 0)]

def Cx_rank_Before : IV → List Nat → List (List IV) → Option (List IV) :=
  tbl n_rank_Before_1 [1] (fun caps l => match caps, l with | [a0, a1], [] => rank_Before_1_s a0 a1 | _, _ => none) <|
  tbl n_rank_Before_2 [1] (fun caps l => match caps, l with | [a0, a1], [] => rank_Before_2_s a0 a1 | _, _ => none) <|
  fun _ _ _ => none
def rank_Before_s (a0 a1 a2 a3 : IV) : Option (List IV) :=
 (rank_first_s (Cx_rank_Before) (.lst [[(.clo (.func n_rank_Before_1) [(.ptr [a0, a1] 0), (.ptr [a2, a3] 0)])], [(.clo (.func n_rank_Before_2) [(.ptr [a0, a1] 0), (.ptr [a2, a3] 0)])]])).bind fun v1 =>
 (ibin .lss (nth v1 0) (.int .i64 0)).bind fun v2 =>
 scal [v2]

def slices_IndexFunc_Move_l2 (C : IV → List Nat → List (List IV) → Option (List IV)) (v1 : IV) (a0 : IV) (a1 : IV) (v2 : List IV) : Option SR :=
 (ibin .lss (nth v2 0) v1).bind fun v3 =>
 icond v3 (fun _ =>
 (iidx a0 (nth v2 0) 6).bind fun v4 =>
 (ildN a0 v4 0 6).bind fun v5 =>
 (C a1 [1] [[(nth v5 0), (nth v5 1), (nth v5 2), (nth v5 3), (nth v5 4), (nth v5 5)]]).bind fun v6 =>
 icond (nth v6 0) (fun _ =>
 some (.done 1 [(nth v2 0)])) (fun _ =>
 (ibin .add (nth v2 0) (.int .i64 1)).bind fun v7 =>
 some (.next [v7]))) (fun _ =>
 some (.done 0 []))
def slices_IndexFunc_Move_s (C : IV → List Nat → List (List IV) → Option (List IV)) (a0 a1 : IV) : Option (List IV) :=
 (ilenL a0).bind fun v1 =>
 (iter rounds (slices_IndexFunc_Move_l2 C v1 a0 a1) [(.int .i64 0)]).bind fun v8 =>
 sel v8.1 [scal [(.int .i64 (-1))],
 scal [(nth v8.2 0)]]

def slices_ContainsFunc_Move_s (C : IV → List Nat → List (List IV) → Option (List IV)) (a0 a1 : IV) : Option (List IV) :=
 (slices_IndexFunc_Move_s C a0 a1).bind fun v1 =>
 (ibin .geq (nth v1 0) (.int .i64 0)).bind fun v2 =>
 scal [v2]

def moves_Row_s (a0 a1 a2 a3 a4 a5 : IV) : Option (List IV) :=
 scal [a3, a2, a4, a5]

def moves_One_s (a0 a1 a2 a3 a4 a5 : IV) : Option (List IV) :=
 ((ibin .geq a0 (.int .i64 1)).bind fun v1 =>
 icond v1 (fun _ =>
 (ibin .leq a0 (.int .i64 4611686018427387903)).bind fun v2 =>
 icond v2 (fun _ =>
 (ibin .geq a1 (.int .i64 1)).bind fun v3 =>
 icond v3 (fun _ =>
 (ibin .leq a1 (.int .i64 255)).bind fun v4 =>
 icond v4 (fun _ =>
 (moves_Row_s a0 a1 a2 a3 a4 a5).bind fun v5 =>
 (tree_One_s (nth v5 0) (nth v5 1) (nth v5 2) (nth v5 3)).bind fun v6 =>
 some [(nth v6 0)]) (fun _ =>
 some [(.bool false)])) (fun _ =>
 some [(.bool false)])) (fun _ =>
 some [(.bool false)])) (fun _ =>
 some [(.bool false)])).bind fun v7 =>
 scal [(nth v7 0)]

def moves_May_1_s (a0 a1 a2 a3 a4 a5 : IV) : Option (List IV) :=
 (moves_One_s a0 a1 a2 a3 a4 a5).bind fun v1 =>
 (iun .not (nth v1 0)).bind fun v2 =>
 scal [v2]

def Cx_moves_May : IV → List Nat → List (List IV) → Option (List IV) :=
  tbl n_moves_May_1 [1] (fun caps l => match caps, l with | [], [[a0, a1, a2, a3, a4, a5]] => moves_May_1_s a0 a1 a2 a3 a4 a5 | _, _ => none) <|
  fun _ _ _ => none
def moves_May_l2 (a0 : IV) (v1 : List IV) : Option SR :=
 (ilenL a0).bind fun v2 =>
 (ibin .lss (nth v1 0) v2).bind fun v3 =>
 icond v3 (fun _ =>
 (ibin .sub (nth v1 0) (.int .i64 1)).bind fun v4 =>
 (iidx a0 v4 6).bind fun v5 =>
 (ildN a0 v5 0 2).bind fun v6 =>
 (iidx a0 (nth v1 0) 6).bind fun v7 =>
 (ildN a0 v7 0 2).bind fun v8 =>
 (rank_Before_s (nth v6 0) (nth v6 1) (nth v8 0) (nth v8 1)).bind fun v9 =>
 (iun .not (nth v9 0)).bind fun v10 =>
 icond v10 (fun _ =>
 some (.done 1 [(.bool false)])) (fun _ =>
 (ibin .add (nth v1 0) (.int .i64 1)).bind fun v11 =>
 some (.next [v11]))) (fun _ =>
 some (.done 0 []))
def moves_May_s (a0 : IV) : Option (List IV) :=
 (iter rounds (moves_May_l2 a0) [(.int .i64 1)]).bind fun v12 =>
 sel v12.1 [((ilenL a0).bind fun v13 =>
 (ibin .leq v13 (.int .i64 2000)).bind fun v14 =>
 icond v14 (fun _ =>
 (slices_ContainsFunc_Move_s (Cx_moves_May) a0 (.clo (.func n_moves_May_1) [])).bind fun v15 =>
 (iun .not (nth v15 0)).bind fun v16 =>
 some [v16]) (fun _ =>
 some [(.bool false)])).bind fun v17 =>
 scal [(nth v17 0)],
 scal [(nth v12.2 0)]]

def marks_May_l2 (v1 : IV) (a0 : IV) (v2 : List IV) : Option SR :=
 (ibin .lss (nth v2 0) v1).bind fun v3 =>
 icond v3 (fun _ =>
 (iidx a0 (nth v2 0) 2).bind fun v4 =>
 (ildN a0 v4 0 2).bind fun v5 =>
 ((ibin .lss (nth v5 0) (.int .i64 1)).bind fun v6 =>
 icond v6 (fun _ =>
 some [(.bool true)]) (fun _ =>
 (ibin .gtr (nth v5 0) (.int .i64 255)).bind fun v7 =>
 icond v7 (fun _ =>
 some [(.bool true)]) (fun _ =>
 (ibin .lss (nth v5 1) (.int .i64 1)).bind fun v8 =>
 icond v8 (fun _ =>
 some [(.bool true)]) (fun _ =>
 (ibin .gtr (nth v5 1) (.int .i64 4611686018427387903)).bind fun v9 =>
 icond v9 (fun _ =>
 some [(.bool true)]) (fun _ =>
 (ibin .gtr (nth v2 0) (.int .i64 0)).bind fun v10 =>
 icond v10 (fun _ =>
 (ibin .sub (nth v2 0) (.int .i64 1)).bind fun v11 =>
 (iidx a0 v11 2).bind fun v12 =>
 (ild a0 v12 0).bind fun v13 =>
 (ibin .geq v13 (nth v5 0)).bind fun v14 =>
 some [v14]) (fun _ =>
 some [(.bool false)])))))).bind fun v15 =>
 icond (nth v15 0) (fun _ =>
 some (.done 1 [(.bool false)])) (fun _ =>
 (ibin .add (nth v2 0) (.int .i64 1)).bind fun v16 =>
 some (.next [v16]))) (fun _ =>
 some (.done 0 []))
def marks_May_s (a0 : IV) : Option (List IV) :=
 (ilenL a0).bind fun v1 =>
 (iter rounds (marks_May_l2 v1 a0) [(.int .i64 0)]).bind fun v17 =>
 sel v17.1 [scal [(.bool true)],
 scal [(nth v17.2 0)]]

def floor_May_1_s (a0 : IV) : Option (List IV) :=
 ((ipnn a0).bind fun v1 =>
 (ipld v1 0).bind fun v2 =>
 (tree_May_s v2).bind fun v3 =>
 icond (nth v3 0) (fun _ =>
 (ipnn a0).bind fun v4 =>
 (ipld v4 3).bind fun v5 =>
 (moves_May_s v5).bind fun v6 =>
 icond (nth v6 0) (fun _ =>
 (ipnn a0).bind fun v7 =>
 (ipld v7 4).bind fun v8 =>
 (marks_May_s v8).bind fun v9 =>
 some [(nth v9 0)]) (fun _ =>
 some [(.bool false)])) (fun _ =>
 some [(.bool false)])).bind fun v10 =>
 scal [(nth v10 0)]

def slices_IndexFunc_Mark_l2 (C : IV → List Nat → List (List IV) → Option (List IV)) (v1 : IV) (a0 : IV) (a1 : IV) (v2 : List IV) : Option SR :=
 (ibin .lss (nth v2 0) v1).bind fun v3 =>
 icond v3 (fun _ =>
 (iidx a0 (nth v2 0) 2).bind fun v4 =>
 (ildN a0 v4 0 2).bind fun v5 =>
 (C a1 [1] [[(nth v5 0), (nth v5 1)]]).bind fun v6 =>
 icond (nth v6 0) (fun _ =>
 some (.done 1 [(nth v2 0)])) (fun _ =>
 (ibin .add (nth v2 0) (.int .i64 1)).bind fun v7 =>
 some (.next [v7]))) (fun _ =>
 some (.done 0 []))
def slices_IndexFunc_Mark_s (C : IV → List Nat → List (List IV) → Option (List IV)) (a0 a1 : IV) : Option (List IV) :=
 (ilenL a0).bind fun v1 =>
 (iter rounds (slices_IndexFunc_Mark_l2 C v1 a0 a1) [(.int .i64 0)]).bind fun v8 =>
 sel v8.1 [scal [(.int .i64 (-1))],
 scal [(nth v8.2 0)]]

def marks_place_1_s (a0 a1 a2 : IV) : Option (List IV) :=
 (ipld a2 0).bind fun v1 =>
 (ibin .eql a0 v1).bind fun v2 =>
 scal [v2]

def Cx_marks_place : IV → List Nat → List (List IV) → Option (List IV) :=
  tbl n_marks_place_1 [1] (fun caps l => match caps, l with | [a2], [[a0, a1]] => marks_place_1_s a0 a1 a2 | _, _ => none) <|
  fun _ _ _ => none
def marks_place_s (a0 a1 : IV) : Option (List IV) :=
 (slices_IndexFunc_Mark_s (Cx_marks_place) a0 (.clo (.func n_marks_place_1) [(.ptr [a1] 0)])).bind fun v1 =>
 (ibin .geq (nth v1 0) (.int .i64 0)).bind fun v2 =>
 scal [(nth v1 0), v2]

def marks_greatest_l2 (v1 : IV) (a1 : IV) (v2 : List IV) : Option SR :=
 (ibin .lss (nth v2 1) v1).bind fun v3 =>
 icond v3 (fun _ =>
 (iidx a1 (nth v2 1) 1).bind fun v4 =>
 (ild a1 v4 0).bind fun v5 =>
 (imax (nth v2 0) v5).bind fun v6 =>
 (ibin .add (nth v2 1) (.int .i64 1)).bind fun v7 =>
 some (.next [v6, v7])) (fun _ =>
 some (.done 0 [(nth v2 0)]))
def marks_greatest_s (a0 a1 : IV) : Option (List IV) :=
 (ilenL a1).bind fun v1 =>
 (iter rounds (marks_greatest_l2 v1 a1) [a0, (.int .i64 0)]).bind fun v8 =>
 sel v8.1 [scal [(nth v8.2 0)]]

def marks_Raise_1_s (a0 a1 a2 : IV) : Option (List IV) :=
 (ipnn a2).bind fun v1 =>
 (ipld v1 1).bind fun v2 =>
 (ibin .gtr a0 v2).bind fun v3 =>
 scal [v3]

def Cx_marks_Raise : IV → List Nat → List (List IV) → Option (List IV) :=
  tbl n_marks_Raise_1 [1] (fun caps l => match caps, l with | [a2], [[a0, a1]] => marks_Raise_1_s a0 a1 a2 | _, _ => none) <|
  fun _ _ _ => none
def marks_Raise_s (a0 a1 a2 : IV) : Option (List IV) :=
 (slices_Clone_Mark_s a0).bind fun v1 =>
 (marks_place_s a0 a2).bind fun v2 =>
 icond (nth v2 1) (fun _ =>
 (ibidx (llen (nth v1 0)) (nth v2 0)).bind fun v3 =>
 (ild (nth v1 0) v3 1).bind fun v4 =>
 (marks_greatest_s v4 (.lst [[a1]])).bind fun v5 =>
 (ibidx (llen (nth v1 0)) (nth v2 0)).bind fun v6 =>
 (iset (nth v1 0) v6 1 [(nth v5 0)]).bind fun v7 =>
 some [v7]) (fun _ =>
 (ibin .leq a1 (.int .i64 0)).bind fun v8 =>
 icond v8 (fun _ =>
 some [(nth v1 0)]) (fun _ =>
 (slices_IndexFunc_Mark_s (Cx_marks_Raise) a0 (.clo (.func n_marks_Raise_1) [(.ptr [a1, a2] 0)])).bind fun v9 =>
 (ibin .lss (nth v9 0) (.int .i64 0)).bind fun v10 =>
 icond v10 (fun _ =>
 (ilenL a0).bind fun v11 =>
 (slices_Insert_Mark_s (nth v1 0) v11 (.lst [[a2, a1]])).bind fun v12 =>
 some [(nth v12 0)]) (fun _ =>
 (slices_Insert_Mark_s (nth v1 0) (nth v9 0) (.lst [[a2, a1]])).bind fun v13 =>
 some [(nth v13 0)])))

def marks_Of_l3 (v1 : IV) (a0 : IV) (v2 : List IV) : Option SR :=
 (ibin .lss (nth v2 1) v1).bind fun v3 =>
 icond v3 (fun _ =>
 (iidx a0 (nth v2 1) 6).bind fun v4 =>
 (ildN a0 v4 0 6).bind fun v5 =>
 (marks_Raise_s (nth v2 0) (nth v5 0) (nth v5 1)).bind fun v6 =>
 (ibin .add (nth v2 1) (.int .i64 1)).bind fun v7 =>
 some (.next [(nth v6 0), v7])) (fun _ =>
 some (.done 0 [(nth v2 0)]))
def marks_Of_s (a0 : IV) : Option (List IV) :=
 (ilenL a0).bind fun v1 =>
 (iter rounds (marks_Of_l3 v1 a0) [(.lst []), (.int .i64 0)]).bind fun v8 =>
 sel v8.1 [some [(nth v8.2 0)]]

def slices_ContainsFunc_Mark_s (C : IV → List Nat → List (List IV) → Option (List IV)) (a0 a1 : IV) : Option (List IV) :=
 (slices_IndexFunc_Mark_s C a0 a1).bind fun v1 =>
 (ibin .geq (nth v1 0) (.int .i64 0)).bind fun v2 =>
 scal [v2]

def marks_Get_s (a0 a1 : IV) : Option (List IV) :=
 (marks_place_s a0 a1).bind fun v1 =>
 icond (nth v1 1) (fun _ =>
 (iidx a0 (nth v1 0) 2).bind fun v2 =>
 (ild a0 v2 1).bind fun v3 =>
 scal [v3]) (fun _ =>
 scal [(.int .i64 0)])

def marks_Below_1_s (a0 a1 a2 a3 : IV) : Option (List IV) :=
 (ipld a2 0).bind fun v1 =>
 (marks_Get_s v1 a0).bind fun v2 =>
 (ipld a3 0).bind fun v3 =>
 (marks_Get_s v3 a0).bind fun v4 =>
 (ibin .gtr (nth v2 0) (nth v4 0)).bind fun v5 =>
 scal [v5]

def Cx_marks_Below : IV → List Nat → List (List IV) → Option (List IV) :=
  tbl n_marks_Below_1 [1] (fun caps l => match caps, l with | [a2, a3], [[a0, a1]] => marks_Below_1_s a0 a1 a2 a3 | _, _ => none) <|
  fun _ _ _ => none
def marks_Below_s (a0 a1 : IV) : Option (List IV) :=
 (slices_ContainsFunc_Mark_s (Cx_marks_Below) a0 (.clo (.func n_marks_Below_1) [(.ptr [a0] 0), (.ptr [a1] 0)])).bind fun v1 =>
 (iun .not (nth v1 0)).bind fun v2 =>
 scal [v2]

def floor_May_2_s (a0 : IV) : Option (List IV) :=
 (ipnn a0).bind fun v1 =>
 (ipld v1 3).bind fun v2 =>
 (marks_Of_s v2).bind fun v3 =>
 (ipnn a0).bind fun v4 =>
 (ipld v4 4).bind fun v5 =>
 (marks_Below_s (nth v3 0) v5).bind fun v6 =>
 scal [(nth v6 0)]

def floor_known_s (a0 a1 a2 : IV) : Option (List IV) :=
 ((ibin .geq a1 (.int .i64 1)).bind fun v1 =>
 icond v1 (fun _ =>
 (ibin .leq a1 (.int .i64 4611686018427387903)).bind fun v2 =>
 icond v2 (fun _ =>
 (ibin .geq a2 (.int .i64 1)).bind fun v3 =>
 icond v3 (fun _ =>
 (ibin .leq a2 (.int .i64 255)).bind fun v4 =>
 icond v4 (fun _ =>
 (marks_Get_s a0 a2).bind fun v5 =>
 (ibin .leq a1 (nth v5 0)).bind fun v6 =>
 some [v6]) (fun _ =>
 some [(.bool false)])) (fun _ =>
 some [(.bool false)])) (fun _ =>
 some [(.bool false)])) (fun _ =>
 some [(.bool false)])).bind fun v7 =>
 scal [(nth v7 0)]

def floor_May_3_s (a0 : IV) : Option (List IV) :=
 ((ipnn a0).bind fun v1 =>
 (ipldN v1 1 2).bind fun v2 =>
 (ieqs .eql [.i, .i] [(nth v2 0), (nth v2 1)] [(.int .i64 0), (.int .i64 0)]).bind fun v3 =>
 icond v3 (fun _ =>
 some [(.bool true)]) (fun _ =>
 (ipnn a0).bind fun v4 =>
 (ipld v4 4).bind fun v5 =>
 (ipnn a0).bind fun v6 =>
 (ipldN v6 1 2).bind fun v7 =>
 (floor_known_s v5 (nth v7 0) (nth v7 1)).bind fun v8 =>
 some [(nth v8 0)])).bind fun v9 =>
 scal [(nth v9 0)]

def moves_when_before_s (a0 a1 a2 a3 a4 a5 a6 a7 : IV) : Option (List IV) :=
 (rank_Before_s a0 a1 a2 a3).bind fun v1 =>
 scal [(nth v1 0)]

def moves_Since_l3 (v1 : IV) (a0 : IV) (a1 : IV) (a2 : IV) (v2 : List IV) : Option SR :=
 (ibin .lss (nth v2 1) v1).bind fun v3 =>
 icond v3 (fun _ =>
 (iidx a0 (nth v2 1) 6).bind fun v4 =>
 (ildN a0 v4 0 6).bind fun v5 =>
 (moves_when_before_s a1 a2 (nth v5 0) (nth v5 1) (nth v5 2) (nth v5 3) (nth v5 4) (nth v5 5)).bind fun v6 =>
 icond (nth v6 0) (fun _ =>
 (iapp 6 56 (nth v2 0) (.lst [[(nth v5 0), (nth v5 1), (nth v5 2), (nth v5 3), (nth v5 4), (nth v5 5)]])).bind fun v7 =>
 (ibin .add (nth v2 1) (.int .i64 1)).bind fun v8 =>
 some (.next [v7, v8])) (fun _ =>
 (ibin .add (nth v2 1) (.int .i64 1)).bind fun v9 =>
 some (.next [(nth v2 0), v9]))) (fun _ =>
 some (.done 0 [(nth v2 0)]))
def moves_Since_s (a0 a1 a2 : IV) : Option (List IV) :=
 (ilenL a0).bind fun v1 =>
 (iter rounds (moves_Since_l3 v1 a0 a1 a2) [(.lst []), (.int .i64 0)]).bind fun v10 =>
 sel v10.1 [some [(nth v10.2 0)]]

def floor_May_4_s (a0 : IV) : Option (List IV) :=
 (ipnn a0).bind fun v1 =>
 (ipld v1 3).bind fun v2 =>
 (ipnn a0).bind fun v3 =>
 (ipldN v3 1 2).bind fun v4 =>
 (moves_Since_s v2 (nth v4 0) (nth v4 1)).bind fun v5 =>
 (ilenL (nth v5 0)).bind fun v6 =>
 (ipnn a0).bind fun v7 =>
 (ipld v7 3).bind fun v8 =>
 (ilenL v8).bind fun v9 =>
 (ibin .eql v6 v9).bind fun v10 =>
 scal [v10]

def floor_children_l3 (v1 : IV) (a0 : IV) (v2 : List IV) : Option SR :=
 (ibin .lss (nth v2 1) v1).bind fun v3 =>
 icond v3 (fun _ =>
 (iidx a0 (nth v2 1) 4).bind fun v4 =>
 (ildN a0 v4 0 4).bind fun v5 =>
 (imputK (.int .i64) (nth v2 0) (nth v5 0) (.bool true)).bind fun v6 =>
 (ibin .add (nth v2 1) (.int .i64 1)).bind fun v7 =>
 some (.next [v6, v7])) (fun _ =>
 some (.done 0 [(nth v2 0)]))
def floor_children_l8 (v9 : IV) (a3 : IV) (v10 : List IV) : Option SR :=
 (ibin .lss (nth v10 1) v9).bind fun v11 =>
 icond v11 (fun _ =>
 (iidx a3 (nth v10 1) 6).bind fun v12 =>
 (ildN a3 v12 0 6).bind fun v13 =>
 (imputK (.int .i64) (nth v10 0) (nth v13 3) (.bool true)).bind fun v14 =>
 (ibin .add (nth v10 1) (.int .i64 1)).bind fun v15 =>
 some (.next [v14, v15])) (fun _ =>
 some (.done 0 [(nth v10 0)]))
def floor_children_s (a0 a1 a2 a3 a4 : IV) : Option (List IV) :=
 (ilenL a0).bind fun v1 =>
 (iter rounds (floor_children_l3 v1 a0) [(.map []), (.int .i64 0)]).bind fun v8 =>
 sel v8.1 [(ilenL a3).bind fun v9 =>
 (iter rounds (floor_children_l8 v9 a3) [(nth v8.2 0), (.int .i64 0)]).bind fun v16 =>
 sel v16.1 [some [(nth v16.2 0)]]]

def floor_May_5_s (a0 : IV) : Option (List IV) :=
 (ipldN a0 0 5).bind fun v1 =>
 (floor_children_s (nth v1 0) (nth v1 1) (nth v1 2) (nth v1 3) (nth v1 4)).bind fun v2 =>
 (imlen (nth v2 0)).bind fun v3 =>
 (ibin .leq v3 (.int .i64 2000)).bind fun v4 =>
 scal [v4]

def Cx_floor_May : IV → List Nat → List (List IV) → Option (List IV) :=
  tbl n_floor_May_1 [1] (fun caps l => match caps, l with | [a0], [] => floor_May_1_s a0 | _, _ => none) <|
  tbl n_floor_May_2 [1] (fun caps l => match caps, l with | [a0], [] => floor_May_2_s a0 | _, _ => none) <|
  tbl n_floor_May_3 [1] (fun caps l => match caps, l with | [a0], [] => floor_May_3_s a0 | _, _ => none) <|
  tbl n_floor_May_4 [1] (fun caps l => match caps, l with | [a0], [] => floor_May_4_s a0 | _, _ => none) <|
  tbl n_floor_May_5 [1] (fun caps l => match caps, l with | [a0], [] => floor_May_5_s a0 | _, _ => none) <|
  fun _ _ _ => none
def floor_May_l2 (a0 : IV) (a1 : IV) (a2 : IV) (a3 : IV) (a4 : IV) (v1 : List IV) : Option SR :=
 (ibin .lss (nth v1 0) (.int .i64 (5 : Nat))).bind fun v2 =>
 icond v2 (fun _ =>
 (ibidx 5 (nth v1 0)).bind fun v3 =>
 (ild (.lst [[(.clo (.func n_floor_May_1) [(.ptr [a0, a1, a2, a3, a4] 0)])], [(.clo (.func n_floor_May_2) [(.ptr [a0, a1, a2, a3, a4] 0)])], [(.clo (.func n_floor_May_3) [(.ptr [a0, a1, a2, a3, a4] 0)])], [(.clo (.func n_floor_May_4) [(.ptr [a0, a1, a2, a3, a4] 0)])], [(.clo (.func n_floor_May_5) [(.ptr [a0, a1, a2, a3, a4] 0)])]]) v3 0).bind fun v4 =>
 ((Cx_floor_May) v4 [1] []).bind fun v5 =>
 (iun .not (nth v5 0)).bind fun v6 =>
 icond v6 (fun _ =>
 some (.done 1 [(.bool false)])) (fun _ =>
 (ibin .add (nth v1 0) (.int .i64 1)).bind fun v7 =>
 some (.next [v7]))) (fun _ =>
 some (.done 0 []))
def floor_May_s (a0 a1 a2 a3 a4 : IV) : Option (List IV) :=
 (iter rounds (floor_May_l2 a0 a1 a2 a3 a4) [(.int .i64 0)]).bind fun v8 =>
 sel v8.1 [scal [(.bool true)],
 scal [(nth v8.2 0)]]

def moves_seek_l2 (C : IV → List Nat → List (List IV) → Option (List IV)) (v1 : IV) (a0 : IV) (a3 : IV) (a1 : IV) (a2 : IV) (v2 : List IV) : Option SR :=
 (ibin .lss (nth v2 0) v1).bind fun v3 =>
 icond v3 (fun _ =>
 (iidx a0 (nth v2 0) 6).bind fun v4 =>
 (ildN a0 v4 0 6).bind fun v5 =>
 (C a3 [1] [[a1, a2], [(nth v5 0), (nth v5 1), (nth v5 2), (nth v5 3), (nth v5 4), (nth v5 5)]]).bind fun v6 =>
 icond (nth v6 0) (fun _ =>
 some (.done 1 [(nth v2 0)])) (fun _ =>
 (ibin .add (nth v2 0) (.int .i64 1)).bind fun v7 =>
 some (.next [v7]))) (fun _ =>
 some (.done 0 []))
def moves_seek_s (C : IV → List Nat → List (List IV) → Option (List IV)) (a0 a1 a2 a3 : IV) : Option (List IV) :=
 (ilenL a0).bind fun v1 =>
 (iter rounds (moves_seek_l2 C v1 a0 a3 a1 a2) [(.int .i64 0)]).bind fun v8 =>
 sel v8.1 [(ilenL a0).bind fun v9 =>
 scal [v9],
 scal [(nth v8.2 0)]]

def moves_when_is_s (a0 a1 a2 a3 a4 a5 a6 a7 : IV) : Option (List IV) :=
 (ieqs .eql [.i, .i] [a2, a3] [a0, a1]).bind fun v1 =>
 scal [v1]

def Cx_moves_Insert : IV → List Nat → List (List IV) → Option (List IV) :=
  tbl n_moves_when_is [1] (fun caps l => match caps, l with | [], [[a0, a1], [a2, a3, a4, a5, a6, a7]] => moves_when_is_s a0 a1 a2 a3 a4 a5 a6 a7 | _, _ => none) <|
  tbl n_moves_when_before [1] (fun caps l => match caps, l with | [], [[a0, a1], [a2, a3, a4, a5, a6, a7]] => moves_when_before_s a0 a1 a2 a3 a4 a5 a6 a7 | _, _ => none) <|
  fun _ _ _ => none
def moves_Insert_s (a0 a1 a2 a3 a4 a5 a6 : IV) : Option (List IV) :=
 (moves_seek_s (Cx_moves_Insert) a0 a1 a2 (.clo (.func n_moves_when_is) [])).bind fun v1 =>
 (ilenL a0).bind fun v2 =>
 (ibin .lss (nth v1 0) v2).bind fun v3 =>
 icond v3 (fun _ =>
 some [a0, (nth v1 0), (.bool false)]) (fun _ =>
 (moves_seek_s (Cx_moves_Insert) a0 a1 a2 (.clo (.func n_moves_when_before) [])).bind fun v4 =>
 (slices_Clone_Move_s a0).bind fun v5 =>
 (slices_Insert_Move_s (nth v5 0) (nth v4 0) (.lst [[a1, a2, a3, a4, a5, a6]])).bind fun v6 =>
 some [(nth v6 0), (nth v4 0), (.bool true)])

def floor_Add_s (a0 a1 a2 a3 a4 a5 a6 a7 a8 a9 a10 : IV) : Option (List IV) :=
 ((floor_May_s a0 a1 a2 a3 a4).bind fun v1 =>
 (iun .not (nth v1 0)).bind fun v2 =>
 icond v2 (fun _ =>
 some [(.bool true)]) (fun _ =>
 (moves_One_s a5 a6 a7 a8 a9 a10).bind fun v3 =>
 (iun .not (nth v3 0)).bind fun v4 =>
 some [v4])).bind fun v5 =>
 icond (nth v5 0) (fun _ =>
 some [a0, a1, a2, a3, a4, (.bool false), (.int .i64 1)]) (fun _ =>
 (rank_Before_s a1 a2 a5 a6).bind fun v6 =>
 (iun .not (nth v6 0)).bind fun v7 =>
 icond v7 (fun _ =>
 some [a0, a1, a2, a3, a4, (.bool false), (.int .i64 9)]) (fun _ =>
 (moves_Insert_s a3 a5 a6 a7 a8 a9 a10).bind fun v8 =>
 (iun .not (nth v8 2)).bind fun v9 =>
 icond v9 (fun _ =>
 some [a0, a1, a2, a3, a4, (.bool false), (.int .i64 0)]) (fun _ =>
 (floor_children_s a0 a1 a2 a3 a4).bind fun v10 =>
 ((ilenL a3).bind fun v11 =>
 (ibin .eql v11 (.int .i64 2000)).bind fun v12 =>
 icond v12 (fun _ =>
 some [(.bool true)]) (fun _ =>
 (imlen (nth v10 0)).bind fun v13 =>
 (ibin .eql v13 (.int .i64 2000)).bind fun v14 =>
 icond v14 (fun _ =>
 (imgetK (.int .i64) (nth v10 0) a8 (.bool false)).bind fun v15 =>
 (iun .not (nth v15 0)).bind fun v16 =>
 some [v16]) (fun _ =>
 some [(.bool false)]))).bind fun v17 =>
 icond (nth v17 0) (fun _ =>
 some [a0, a1, a2, a3, a4, (.bool false), (.int .i64 10)]) (fun _ =>
 (marks_Raise_s a4 a5 a6).bind fun v18 =>
 some [a0, a1, a2, (nth v8 0), (nth v18 0), (.bool true), (.int .i64 0)]))))

def floor_Merge_l3 (v1 : IV) (a5 : IV) (a0 : IV) (a1 : IV) (a2 : IV) (a3 : IV) (a4 : IV) (v2 : List IV) : Option SR :=
 (ibin .lss (nth v2 10) v1).bind fun v3 =>
 icond v3 (fun _ =>
 (iidx a5 (nth v2 10) 6).bind fun v4 =>
 (ildN a5 v4 0 6).bind fun v5 =>
 (floor_Add_s (nth v2 5) (nth v2 6) (nth v2 7) (nth v2 8) (nth v2 9) (nth v5 0) (nth v5 1) (nth v5 2) (nth v5 3) (nth v5 4) (nth v5 5)).bind fun v6 =>
 (ibin .neq (nth v6 6) (.int .i64 0)).bind fun v7 =>
 icond v7 (fun _ =>
 some (.done 1 [a0, a1, a2, a3, a4, (nth v6 6)])) (fun _ =>
 (ibin .add (nth v2 10) (.int .i64 1)).bind fun v8 =>
 some (.next [(nth v2 0), (nth v2 1), (nth v2 2), (nth v2 3), (nth v2 4), (nth v6 0), (nth v6 1), (nth v6 2), (nth v6 3), (nth v6 4), v8]))) (fun _ =>
 some (.done 0 [(nth v2 0), (nth v2 1), (nth v2 2), (nth v2 3), (nth v2 4), (nth v2 5), (nth v2 6), (nth v2 7), (nth v2 8), (nth v2 9)]))
def floor_Merge_s (a0 a1 a2 a3 a4 a5 : IV) : Option (List IV) :=
 (ilenL a5).bind fun v1 =>
 (iter rounds (floor_Merge_l3 v1 a5 a0 a1 a2 a3 a4) [(.lst []), (.int .i64 0), (.int .i64 0), (.lst []), (.lst []), a0, a1, a2, a3, a4, (.int .i64 0)]).bind fun v9 =>
 sel v9.1 [some [(nth v9.2 5), (nth v9.2 6), (nth v9.2 7), (nth v9.2 8), (nth v9.2 9), (.int .i64 0)],
 some [(nth v9.2 0), (nth v9.2 1), (nth v9.2 2), (nth v9.2 3), (nth v9.2 4), (nth v9.2 5)]]

def fold_Barred_s (a0 a1 a2 a3 a4 a5 a6 : IV) : Option (List IV) :=
 ((ibin .eql a4 (.int .i64 0)).bind fun v1 =>
 icond v1 (fun _ =>
 some [(.bool true)]) (fun _ =>
 (ibin .eql a4 a3).bind fun v2 =>
 icond v2 (fun _ =>
 some [(.bool true)]) (fun _ =>
 (tree_Above_s a0 a4 a3).bind fun v3 =>
 some [(nth v3 0)]))).bind fun v4 =>
 scal [(nth v4 0)]

def slices_IndexFunc_Row_l2 (C : IV → List Nat → List (List IV) → Option (List IV)) (v1 : IV) (a0 : IV) (a1 : IV) (v2 : List IV) : Option SR :=
 (ibin .lss (nth v2 0) v1).bind fun v3 =>
 icond v3 (fun _ =>
 (iidx a0 (nth v2 0) 4).bind fun v4 =>
 (ildN a0 v4 0 4).bind fun v5 =>
 (C a1 [1] [[(nth v5 0), (nth v5 1), (nth v5 2), (nth v5 3)]]).bind fun v6 =>
 icond (nth v6 0) (fun _ =>
 some (.done 1 [(nth v2 0)])) (fun _ =>
 (ibin .add (nth v2 0) (.int .i64 1)).bind fun v7 =>
 some (.next [v7]))) (fun _ =>
 some (.done 0 []))
def slices_IndexFunc_Row_s (C : IV → List Nat → List (List IV) → Option (List IV)) (a0 a1 : IV) : Option (List IV) :=
 (ilenL a0).bind fun v1 =>
 (iter rounds (slices_IndexFunc_Row_l2 C v1 a0 a1) [(.int .i64 0)]).bind fun v8 =>
 sel v8.1 [scal [(.int .i64 (-1))],
 scal [(nth v8.2 0)]]

def tree_place_1_s (a0 a1 a2 a3 a4 : IV) : Option (List IV) :=
 (ipld a4 0).bind fun v1 =>
 (ibin .eql a0 v1).bind fun v2 =>
 scal [v2]

def Cx_tree_place : IV → List Nat → List (List IV) → Option (List IV) :=
  tbl n_tree_place_1 [1] (fun caps l => match caps, l with | [a4], [[a0, a1, a2, a3]] => tree_place_1_s a0 a1 a2 a3 a4 | _, _ => none) <|
  fun _ _ _ => none
def tree_place_s (a0 a1 : IV) : Option (List IV) :=
 (slices_IndexFunc_Row_s (Cx_tree_place) a0 (.clo (.func n_tree_place_1) [(.ptr [a1] 0)])).bind fun v1 =>
 (ibin .geq (nth v1 0) (.int .i64 0)).bind fun v2 =>
 scal [(nth v1 0), v2]

def tree_Set_1_s (a0 a1 a2 a3 a4 : IV) : Option (List IV) :=
 (ipnn a4).bind fun v1 =>
 (ipld v1 0).bind fun v2 =>
 (ibin .gtr a0 v2).bind fun v3 =>
 scal [v3]

def Cx_tree_Set : IV → List Nat → List (List IV) → Option (List IV) :=
  tbl n_tree_Set_1 [1] (fun caps l => match caps, l with | [a4], [[a0, a1, a2, a3]] => tree_Set_1_s a0 a1 a2 a3 a4 | _, _ => none) <|
  fun _ _ _ => none
def tree_Set_s (a0 a1 a2 a3 a4 : IV) : Option (List IV) :=
 (slices_Clone_Row_s a0).bind fun v1 =>
 (tree_place_s a0 a1).bind fun v2 =>
 icond (nth v2 1) (fun _ =>
 (ibidx (llen (nth v1 0)) (nth v2 0)).bind fun v3 =>
 (iset (nth v1 0) v3 0 [a1, a2, a3, a4]).bind fun v4 =>
 some [v4]) (fun _ =>
 (slices_IndexFunc_Row_s (Cx_tree_Set) a0 (.clo (.func n_tree_Set_1) [(.ptr [a1, a2, a3, a4] 0)])).bind fun v5 =>
 (ibin .lss (nth v5 0) (.int .i64 0)).bind fun v6 =>
 icond v6 (fun _ =>
 (ilenL a0).bind fun v7 =>
 (slices_Insert_Row_s (nth v1 0) v7 (.lst [[a1, a2, a3, a4]])).bind fun v8 =>
 some [(nth v8 0)]) (fun _ =>
 (slices_Insert_Row_s (nth v1 0) (nth v5 0) (.lst [[a1, a2, a3, a4]])).bind fun v9 =>
 some [(nth v9 0)]))

def fold_Do_s (a0 a1 a2 a3 a4 a5 a6 : IV) : Option (List IV) :=
 (fold_Barred_s a0 a1 a2 a3 a4 a5 a6).bind fun v1 =>
 icond (nth v1 0) (fun _ =>
 some [a0, (.bool false)]) (fun _ =>
 (moves_Row_s a1 a2 a3 a4 a5 a6).bind fun v2 =>
 (tree_Set_s a0 (nth v2 0) (nth v2 1) (nth v2 2) (nth v2 3)).bind fun v3 =>
 some [(nth v3 0), (.bool true)])

def fold_All_l2 (v1 : IV) (a1 : IV) (v2 : List IV) : Option SR :=
 (ibin .lss (nth v2 1) v1).bind fun v3 =>
 icond v3 (fun _ =>
 (iidx a1 (nth v2 1) 6).bind fun v4 =>
 (ildN a1 v4 0 6).bind fun v5 =>
 (fold_Do_s (nth v2 0) (nth v5 0) (nth v5 1) (nth v5 2) (nth v5 3) (nth v5 4) (nth v5 5)).bind fun v6 =>
 (ibin .add (nth v2 1) (.int .i64 1)).bind fun v7 =>
 some (.next [(nth v6 0), v7])) (fun _ =>
 some (.done 0 [(nth v2 0)]))
def fold_All_s (a0 a1 : IV) : Option (List IV) :=
 (ilenL a1).bind fun v1 =>
 (iter rounds (fold_All_l2 v1 a1) [a0, (.int .i64 0)]).bind fun v8 =>
 sel v8.1 [some [(nth v8.2 0)]]

def floor_Prune_s (a0 a1 a2 a3 a4 a5 a6 : IV) : Option (List IV) :=
 ((floor_May_s a0 a1 a2 a3 a4).bind fun v1 =>
 (iun .not (nth v1 0)).bind fun v2 =>
 icond v2 (fun _ =>
 some [(.bool true)]) (fun _ =>
 (floor_known_s a4 a5 a6).bind fun v3 =>
 (iun .not (nth v3 0)).bind fun v4 =>
 some [v4])).bind fun v5 =>
 icond (nth v5 0) (fun _ =>
 some [a0, a1, a2, a3, a4, (.int .i64 1)]) (fun _ =>
 (rank_Before_s a1 a2 a5 a6).bind fun v6 =>
 (iun .not (nth v6 0)).bind fun v7 =>
 icond v7 (fun _ =>
 some [a0, a1, a2, a3, a4, (.int .i64 0)]) (fun _ =>
 (moves_Since_s a3 a5 a6).bind fun v8 =>
 (ilenL a3).bind fun v9 =>
 (ilenL (nth v8 0)).bind fun v10 =>
 (ibin .sub v9 v10).bind fun v11 =>
 (islcL 6 a3 none (some v11)).bind fun v12 =>
 (fold_All_s a0 v12).bind fun v13 =>
 some [(nth v13 0), a5, a6, (nth v8 0), a4, (.int .i64 0)]))

def floor_Tree_s (a0 a1 a2 a3 a4 : IV) : Option (List IV) :=
 (fold_All_s a0 a3).bind fun v1 =>
 some [(nth v1 0)]

def slices_EqualFunc_Row_Row_l4 (C : IV → List Nat → List (List IV) → Option (List IV)) (v4 : IV) (a0 : IV) (a1 : IV) (a2 : IV) (v5 : List IV) : Option SR :=
 (ibin .lss (nth v5 0) v4).bind fun v6 =>
 icond v6 (fun _ =>
 (iidx a0 (nth v5 0) 4).bind fun v7 =>
 (ildN a0 v7 0 4).bind fun v8 =>
 (iidx a1 (nth v5 0) 4).bind fun v9 =>
 (ildN a1 v9 0 4).bind fun v10 =>
 (C a2 [1] [[(nth v8 0), (nth v8 1), (nth v8 2), (nth v8 3)], [(nth v10 0), (nth v10 1), (nth v10 2), (nth v10 3)]]).bind fun v11 =>
 (iun .not (nth v11 0)).bind fun v12 =>
 icond v12 (fun _ =>
 some (.done 1 [(.bool false)])) (fun _ =>
 (ibin .add (nth v5 0) (.int .i64 1)).bind fun v13 =>
 some (.next [v13]))) (fun _ =>
 some (.done 0 []))
def slices_EqualFunc_Row_Row_s (C : IV → List Nat → List (List IV) → Option (List IV)) (a0 a1 a2 : IV) : Option (List IV) :=
 (ilenL a0).bind fun v1 =>
 (ilenL a1).bind fun v2 =>
 (ibin .neq v1 v2).bind fun v3 =>
 icond v3 (fun _ =>
 scal [(.bool false)]) (fun _ =>
 (ilenL a0).bind fun v4 =>
 (iter rounds (slices_EqualFunc_Row_Row_l4 C v4 a0 a1 a2) [(.int .i64 0)]).bind fun v14 =>
 sel v14.1 [scal [(.bool true)],
 scal [(nth v14.2 0)]])

def bits_Minus_s (a0 : IV) : Option (List IV) :=
 ((ibin .lss a0 (.flt .f64 0)).bind fun v1 =>
 icond v1 (fun _ =>
 some [(.bool true)]) (fun _ =>
 (ibin .eql a0 (.flt .f64 0)).bind fun v2 =>
 icond v2 (fun _ =>
 (ibin .quo (.flt .f64 4607182418800017408) a0).bind fun v3 =>
 (ibin .lss v3 (.flt .f64 0)).bind fun v4 =>
 some [v4]) (fun _ =>
 some [(.bool false)]))).bind fun v5 =>
 scal [(nth v5 0)]

def bits_powers_s : Option (List IV) :=
 scal [(.int .i64 512), (.flt .f64 6913025428013711360), (.flt .f64 2301339409586323456), (.int .i64 256), (.flt .f64 5760103923406864384), (.flt .f64 3454260914193170432), (.int .i64 128), (.flt .f64 5183643171103440896), (.flt .f64 4030721666496593920), (.int .i64 64), (.flt .f64 4895412794951729152), (.flt .f64 4318952042648305664), (.int .i64 32), (.flt .f64 4751297606875873280), (.flt .f64 4463067230724161536), (.int .i64 16), (.flt .f64 4679240012837945344), (.flt .f64 4535124824762089472), (.int .i64 8), (.flt .f64 4643211215818981376), (.flt .f64 4571153621781053440), (.int .i64 4), (.flt .f64 4625196817309499392), (.flt .f64 4589168020290535424), (.int .i64 2), (.flt .f64 4616189618054758400), (.flt .f64 4598175219545276416), (.int .i64 1), (.flt .f64 4611686018427387904), (.flt .f64 4602678819172646912)]

def bits_split_l3 (v1 : List IV) (v2 : List IV) : Option SR :=
 (ibin .lss (nth v2 2) (.int .i64 10)).bind fun v3 =>
 icond v3 (fun _ =>
 (ibidx 10 (nth v2 2)).bind fun v4 =>
 (ibin .geq (nth v2 0) (nth [(nth v1 0), (nth v1 1), (nth v1 2), (nth v1 3), (nth v1 4), (nth v1 5), (nth v1 6), (nth v1 7), (nth v1 8), (nth v1 9), (nth v1 10), (nth v1 11), (nth v1 12), (nth v1 13), (nth v1 14), (nth v1 15), (nth v1 16), (nth v1 17), (nth v1 18), (nth v1 19), (nth v1 20), (nth v1 21), (nth v1 22), (nth v1 23), (nth v1 24), (nth v1 25), (nth v1 26), (nth v1 27), (nth v1 28), (nth v1 29)] (v4 * 3 + 1))).bind fun v5 =>
 icond v5 (fun _ =>
 (ibin .mul (nth v2 0) (nth [(nth v1 0), (nth v1 1), (nth v1 2), (nth v1 3), (nth v1 4), (nth v1 5), (nth v1 6), (nth v1 7), (nth v1 8), (nth v1 9), (nth v1 10), (nth v1 11), (nth v1 12), (nth v1 13), (nth v1 14), (nth v1 15), (nth v1 16), (nth v1 17), (nth v1 18), (nth v1 19), (nth v1 20), (nth v1 21), (nth v1 22), (nth v1 23), (nth v1 24), (nth v1 25), (nth v1 26), (nth v1 27), (nth v1 28), (nth v1 29)] (v4 * 3 + 2))).bind fun v6 =>
 (ibin .add (nth v2 1) (nth [(nth v1 0), (nth v1 1), (nth v1 2), (nth v1 3), (nth v1 4), (nth v1 5), (nth v1 6), (nth v1 7), (nth v1 8), (nth v1 9), (nth v1 10), (nth v1 11), (nth v1 12), (nth v1 13), (nth v1 14), (nth v1 15), (nth v1 16), (nth v1 17), (nth v1 18), (nth v1 19), (nth v1 20), (nth v1 21), (nth v1 22), (nth v1 23), (nth v1 24), (nth v1 25), (nth v1 26), (nth v1 27), (nth v1 28), (nth v1 29)] (v4 * 3 + 0))).bind fun v7 =>
 (ibin .lss v6 (nth [(nth v1 0), (nth v1 1), (nth v1 2), (nth v1 3), (nth v1 4), (nth v1 5), (nth v1 6), (nth v1 7), (nth v1 8), (nth v1 9), (nth v1 10), (nth v1 11), (nth v1 12), (nth v1 13), (nth v1 14), (nth v1 15), (nth v1 16), (nth v1 17), (nth v1 18), (nth v1 19), (nth v1 20), (nth v1 21), (nth v1 22), (nth v1 23), (nth v1 24), (nth v1 25), (nth v1 26), (nth v1 27), (nth v1 28), (nth v1 29)] (v4 * 3 + 2))).bind fun v8 =>
 icond v8 (fun _ =>
 (ibin .mul v6 (nth [(nth v1 0), (nth v1 1), (nth v1 2), (nth v1 3), (nth v1 4), (nth v1 5), (nth v1 6), (nth v1 7), (nth v1 8), (nth v1 9), (nth v1 10), (nth v1 11), (nth v1 12), (nth v1 13), (nth v1 14), (nth v1 15), (nth v1 16), (nth v1 17), (nth v1 18), (nth v1 19), (nth v1 20), (nth v1 21), (nth v1 22), (nth v1 23), (nth v1 24), (nth v1 25), (nth v1 26), (nth v1 27), (nth v1 28), (nth v1 29)] (v4 * 3 + 1))).bind fun v9 =>
 (ibin .sub v7 (nth [(nth v1 0), (nth v1 1), (nth v1 2), (nth v1 3), (nth v1 4), (nth v1 5), (nth v1 6), (nth v1 7), (nth v1 8), (nth v1 9), (nth v1 10), (nth v1 11), (nth v1 12), (nth v1 13), (nth v1 14), (nth v1 15), (nth v1 16), (nth v1 17), (nth v1 18), (nth v1 19), (nth v1 20), (nth v1 21), (nth v1 22), (nth v1 23), (nth v1 24), (nth v1 25), (nth v1 26), (nth v1 27), (nth v1 28), (nth v1 29)] (v4 * 3 + 0))).bind fun v10 =>
 (ibin .add (nth v2 2) (.int .i64 1)).bind fun v11 =>
 some (.next [v9, v10, v11])) (fun _ =>
 (ibin .add (nth v2 2) (.int .i64 1)).bind fun v12 =>
 some (.next [v6, v7, v12]))) (fun _ =>
 (ibin .lss (nth v2 0) (nth [(nth v1 0), (nth v1 1), (nth v1 2), (nth v1 3), (nth v1 4), (nth v1 5), (nth v1 6), (nth v1 7), (nth v1 8), (nth v1 9), (nth v1 10), (nth v1 11), (nth v1 12), (nth v1 13), (nth v1 14), (nth v1 15), (nth v1 16), (nth v1 17), (nth v1 18), (nth v1 19), (nth v1 20), (nth v1 21), (nth v1 22), (nth v1 23), (nth v1 24), (nth v1 25), (nth v1 26), (nth v1 27), (nth v1 28), (nth v1 29)] (v4 * 3 + 2))).bind fun v13 =>
 icond v13 (fun _ =>
 (ibin .mul (nth v2 0) (nth [(nth v1 0), (nth v1 1), (nth v1 2), (nth v1 3), (nth v1 4), (nth v1 5), (nth v1 6), (nth v1 7), (nth v1 8), (nth v1 9), (nth v1 10), (nth v1 11), (nth v1 12), (nth v1 13), (nth v1 14), (nth v1 15), (nth v1 16), (nth v1 17), (nth v1 18), (nth v1 19), (nth v1 20), (nth v1 21), (nth v1 22), (nth v1 23), (nth v1 24), (nth v1 25), (nth v1 26), (nth v1 27), (nth v1 28), (nth v1 29)] (v4 * 3 + 1))).bind fun v14 =>
 (ibin .sub (nth v2 1) (nth [(nth v1 0), (nth v1 1), (nth v1 2), (nth v1 3), (nth v1 4), (nth v1 5), (nth v1 6), (nth v1 7), (nth v1 8), (nth v1 9), (nth v1 10), (nth v1 11), (nth v1 12), (nth v1 13), (nth v1 14), (nth v1 15), (nth v1 16), (nth v1 17), (nth v1 18), (nth v1 19), (nth v1 20), (nth v1 21), (nth v1 22), (nth v1 23), (nth v1 24), (nth v1 25), (nth v1 26), (nth v1 27), (nth v1 28), (nth v1 29)] (v4 * 3 + 0))).bind fun v15 =>
 (ibin .add (nth v2 2) (.int .i64 1)).bind fun v16 =>
 some (.next [v14, v15, v16])) (fun _ =>
 (ibin .add (nth v2 2) (.int .i64 1)).bind fun v17 =>
 some (.next [(nth v2 0), (nth v2 1), v17])))) (fun _ =>
 some (.done 0 [(nth v2 0), (nth v2 1)]))
def bits_split_l12 (v19 : List IV) : Option SR :=
 (ibin .geq (nth v19 0) (.flt .f64 4611686018427387904)).bind fun v20 =>
 icond v20 (fun _ =>
 (ibin .mul (nth v19 0) (.flt .f64 4602678819172646912)).bind fun v21 =>
 (ibin .add (nth v19 1) (.int .i64 1)).bind fun v22 =>
 some (.next [v21, v22])) (fun _ =>
 some (.done 0 [(nth v19 0), (nth v19 1)]))
def bits_split_l15 (v24 : List IV) : Option SR :=
 (ibin .lss (nth v24 0) (.flt .f64 4607182418800017408)).bind fun v25 =>
 icond v25 (fun _ =>
 (ibin .mul (nth v24 0) (.flt .f64 4611686018427387904)).bind fun v26 =>
 (ibin .sub (nth v24 1) (.int .i64 1)).bind fun v27 =>
 some (.next [v26, v27])) (fun _ =>
 some (.done 0 [(nth v24 0), (nth v24 1)]))
def bits_split_s (a0 : IV) : Option (List IV) :=
 (bits_powers_s).bind fun v1 =>
 (iter rounds (bits_split_l3 v1) [a0, (.int .i64 0), (.int .i64 0)]).bind fun v18 =>
 sel v18.1 [(iter rounds (bits_split_l12) [(nth v18.2 0), (nth v18.2 1)]).bind fun v23 =>
 sel v23.1 [(iter rounds (bits_split_l15) [(nth v23.2 0), (nth v23.2 1)]).bind fun v28 =>
 sel v28.1 [scal [(nth v28.2 0), (nth v28.2 1)]]]]

def bits_Bits_s (a0 : IV) : Option (List IV) :=
 (bits_Minus_s a0).bind fun v1 =>
 icond (nth v1 0) (fun _ =>
 (iun .neg a0).bind fun v2 =>
 (ibin .neq v2 v2).bind fun v3 =>
 icond v3 (fun _ =>
 scal [(.int .u64 9221120237041090560)]) (fun _ =>
 (ibin .eql v2 (.flt .f64 0)).bind fun v4 =>
 icond v4 (fun _ =>
 scal [(.int .u64 9223372036854775808)]) (fun _ =>
 (ibin .mul v2 (.flt .f64 4611686018427387904)).bind fun v5 =>
 (ibin .eql v2 v5).bind fun v6 =>
 icond v6 (fun _ =>
 (ibin .or (.int .u64 9223372036854775808) (.int .u64 9218868437227405312)).bind fun v7 =>
 scal [v7]) (fun _ =>
 (bits_split_s v2).bind fun v8 =>
 (ibin .mul (nth v8 0) (.flt .f64 4841369599423283200)).bind fun v9 =>
 (icfi .u64 v9).bind fun v10 =>
 (ibin .add (nth v8 1) (.int .i64 1023)).bind fun v11 =>
 (ibin .gtr v11 (.int .i64 0)).bind fun v12 =>
 icond v12 (fun _ =>
 (icii .u64 v11).bind fun v13 =>
 (ibin .shl v13 (.int .u64 52)).bind fun v14 =>
 (ibin .or (.int .u64 9223372036854775808) v14).bind fun v15 =>
 (ibin .and v10 (.int .u64 4503599627370495)).bind fun v16 =>
 (ibin .or v15 v16).bind fun v17 =>
 scal [v17]) (fun _ =>
 (ibin .sub (.int .i64 1) (nth v8 1)).bind fun v18 =>
 (ibin .sub v18 (.int .i64 1023)).bind fun v19 =>
 (ibin .shr v10 v19).bind fun v20 =>
 (ibin .or (.int .u64 9223372036854775808) v20).bind fun v21 =>
 scal [v21]))))) (fun _ =>
 (ibin .neq a0 a0).bind fun v22 =>
 icond v22 (fun _ =>
 scal [(.int .u64 9221120237041090560)]) (fun _ =>
 (ibin .eql a0 (.flt .f64 0)).bind fun v23 =>
 icond v23 (fun _ =>
 scal [(.int .u64 0)]) (fun _ =>
 (ibin .mul a0 (.flt .f64 4611686018427387904)).bind fun v24 =>
 (ibin .eql a0 v24).bind fun v25 =>
 icond v25 (fun _ =>
 (ibin .or (.int .u64 0) (.int .u64 9218868437227405312)).bind fun v26 =>
 scal [v26]) (fun _ =>
 (bits_split_s a0).bind fun v27 =>
 (ibin .mul (nth v27 0) (.flt .f64 4841369599423283200)).bind fun v28 =>
 (icfi .u64 v28).bind fun v29 =>
 (ibin .add (nth v27 1) (.int .i64 1023)).bind fun v30 =>
 (ibin .gtr v30 (.int .i64 0)).bind fun v31 =>
 icond v31 (fun _ =>
 (icii .u64 v30).bind fun v32 =>
 (ibin .shl v32 (.int .u64 52)).bind fun v33 =>
 (ibin .or (.int .u64 0) v33).bind fun v34 =>
 (ibin .and v29 (.int .u64 4503599627370495)).bind fun v35 =>
 (ibin .or v34 v35).bind fun v36 =>
 scal [v36]) (fun _ =>
 (ibin .sub (.int .i64 1) (nth v27 1)).bind fun v37 =>
 (ibin .sub v37 (.int .i64 1023)).bind fun v38 =>
 (ibin .shr v29 v38).bind fun v39 =>
 (ibin .or (.int .u64 0) v39).bind fun v40 =>
 scal [v40])))))

def bits_Same_s (a0 a1 : IV) : Option (List IV) :=
 (bits_Bits_s a0).bind fun v1 =>
 (bits_Bits_s a1).bind fun v2 =>
 (ibin .eql (nth v1 0) (nth v2 0)).bind fun v3 =>
 scal [v3]

def tree_Same_1_s (a0 a1 a2 a3 a4 a5 a6 a7 : IV) : Option (List IV) :=
 ((ibin .eql a0 a4).bind fun v1 =>
 icond v1 (fun _ =>
 (ibin .eql a1 a5).bind fun v2 =>
 icond v2 (fun _ =>
 (ibin .eql a2 a6).bind fun v3 =>
 icond v3 (fun _ =>
 (bits_Same_s a3 a7).bind fun v4 =>
 some [(nth v4 0)]) (fun _ =>
 some [(.bool false)])) (fun _ =>
 some [(.bool false)])) (fun _ =>
 some [(.bool false)])).bind fun v5 =>
 scal [(nth v5 0)]

def Cx_tree_Same : IV → List Nat → List (List IV) → Option (List IV) :=
  tbl n_tree_Same_1 [1] (fun caps l => match caps, l with | [], [[a0, a1, a2, a3], [a4, a5, a6, a7]] => tree_Same_1_s a0 a1 a2 a3 a4 a5 a6 a7 | _, _ => none) <|
  fun _ _ _ => none
def tree_Same_s (a0 a1 : IV) : Option (List IV) :=
 (slices_EqualFunc_Row_Row_s (Cx_tree_Same) a0 a1 (.clo (.func n_tree_Same_1) [])).bind fun v1 =>
 scal [(nth v1 0)]

def slices_EqualFunc_Move_Move_l4 (C : IV → List Nat → List (List IV) → Option (List IV)) (v4 : IV) (a0 : IV) (a1 : IV) (a2 : IV) (v5 : List IV) : Option SR :=
 (ibin .lss (nth v5 0) v4).bind fun v6 =>
 icond v6 (fun _ =>
 (iidx a0 (nth v5 0) 6).bind fun v7 =>
 (ildN a0 v7 0 6).bind fun v8 =>
 (iidx a1 (nth v5 0) 6).bind fun v9 =>
 (ildN a1 v9 0 6).bind fun v10 =>
 (C a2 [1] [[(nth v8 0), (nth v8 1), (nth v8 2), (nth v8 3), (nth v8 4), (nth v8 5)], [(nth v10 0), (nth v10 1), (nth v10 2), (nth v10 3), (nth v10 4), (nth v10 5)]]).bind fun v11 =>
 (iun .not (nth v11 0)).bind fun v12 =>
 icond v12 (fun _ =>
 some (.done 1 [(.bool false)])) (fun _ =>
 (ibin .add (nth v5 0) (.int .i64 1)).bind fun v13 =>
 some (.next [v13]))) (fun _ =>
 some (.done 0 []))
def slices_EqualFunc_Move_Move_s (C : IV → List Nat → List (List IV) → Option (List IV)) (a0 a1 a2 : IV) : Option (List IV) :=
 (ilenL a0).bind fun v1 =>
 (ilenL a1).bind fun v2 =>
 (ibin .neq v1 v2).bind fun v3 =>
 icond v3 (fun _ =>
 scal [(.bool false)]) (fun _ =>
 (ilenL a0).bind fun v4 =>
 (iter rounds (slices_EqualFunc_Move_Move_l4 C v4 a0 a1 a2) [(.int .i64 0)]).bind fun v14 =>
 sel v14.1 [scal [(.bool true)],
 scal [(nth v14.2 0)]])

def moves_Same_1_s (a0 a1 a2 a3 a4 a5 a6 a7 a8 a9 a10 a11 : IV) : Option (List IV) :=
 ((ieqs .eql [.i, .i] [a0, a1] [a6, a7]).bind fun v1 =>
 icond v1 (fun _ =>
 (ibin .eql a3 a9).bind fun v2 =>
 icond v2 (fun _ =>
 (ibin .eql a2 a8).bind fun v3 =>
 icond v3 (fun _ =>
 (ibin .eql a4 a10).bind fun v4 =>
 icond v4 (fun _ =>
 (bits_Same_s a5 a11).bind fun v5 =>
 some [(nth v5 0)]) (fun _ =>
 some [(.bool false)])) (fun _ =>
 some [(.bool false)])) (fun _ =>
 some [(.bool false)])) (fun _ =>
 some [(.bool false)])).bind fun v6 =>
 scal [(nth v6 0)]

def Cx_moves_Same : IV → List Nat → List (List IV) → Option (List IV) :=
  tbl n_moves_Same_1 [1] (fun caps l => match caps, l with | [], [[a0, a1, a2, a3, a4, a5], [a6, a7, a8, a9, a10, a11]] => moves_Same_1_s a0 a1 a2 a3 a4 a5 a6 a7 a8 a9 a10 a11 | _, _ => none) <|
  fun _ _ _ => none
def moves_Same_s (a0 a1 : IV) : Option (List IV) :=
 (slices_EqualFunc_Move_Move_s (Cx_moves_Same) a0 a1 (.clo (.func n_moves_Same_1) [])).bind fun v1 =>
 scal [(nth v1 0)]

def slices_Equal_Mark_l4 (v4 : IV) (a0 : IV) (a1 : IV) (v5 : List IV) : Option SR :=
 (ibin .lss (nth v5 0) v4).bind fun v6 =>
 icond v6 (fun _ =>
 (iidx a0 (nth v5 0) 2).bind fun v7 =>
 (ildN a0 v7 0 2).bind fun v8 =>
 (iidx a1 (nth v5 0) 2).bind fun v9 =>
 (ildN a1 v9 0 2).bind fun v10 =>
 (ieqs .neq [.i, .i] [(nth v8 0), (nth v8 1)] [(nth v10 0), (nth v10 1)]).bind fun v11 =>
 icond v11 (fun _ =>
 some (.done 1 [(.bool false)])) (fun _ =>
 (ibin .add (nth v5 0) (.int .i64 1)).bind fun v12 =>
 some (.next [v12]))) (fun _ =>
 some (.done 0 []))
def slices_Equal_Mark_s (a0 a1 : IV) : Option (List IV) :=
 (ilenL a0).bind fun v1 =>
 (ilenL a1).bind fun v2 =>
 (ibin .neq v1 v2).bind fun v3 =>
 icond v3 (fun _ =>
 scal [(.bool false)]) (fun _ =>
 (ilenL a0).bind fun v4 =>
 (iter rounds (slices_Equal_Mark_l4 v4 a0 a1) [(.int .i64 0)]).bind fun v13 =>
 sel v13.1 [scal [(.bool true)],
 scal [(nth v13.2 0)]])

def floor_Same_s (a0 a1 a2 a3 a4 a5 a6 a7 a8 a9 : IV) : Option (List IV) :=
 ((ieqs .eql [.i, .i] [a1, a2] [a6, a7]).bind fun v1 =>
 icond v1 (fun _ =>
 (tree_Same_s a0 a5).bind fun v2 =>
 icond (nth v2 0) (fun _ =>
 (moves_Same_s a3 a8).bind fun v3 =>
 icond (nth v3 0) (fun _ =>
 (slices_Equal_Mark_s a4 a9).bind fun v4 =>
 some [(nth v4 0)]) (fun _ =>
 some [(.bool false)])) (fun _ =>
 some [(.bool false)])) (fun _ =>
 some [(.bool false)])).bind fun v5 =>
 scal [(nth v5 0)]

def law18_live_1_s (a0 a1 a2 : IV) : Option (List IV) :=
 scal [a0, (.int .i64 1), a2, a1, (.str ⟨#[]⟩), (.flt .f64 0)]

def Cx_law18_live : IV → List Nat → List (List IV) → Option (List IV) :=
  tbl n_law18_live_1 [6] (fun caps l => match caps, l with | [], [[a0], [a1], [a2]] => law18_live_1_s a0 a1 a2 | _, _ => none) <|
  fun _ _ _ => none
def law18_live_g (C : IV → List Nat → List (List IV) → Option (List IV)) : Option (List IV) :=
 (C (.clo (.func n_law18_live_1) []) [6] [[(.int .i64 4)], [(.int .i64 2)], [(.int .i64 1)]]).bind fun v1 =>
 (C (.clo (.func n_law18_live_1) []) [6] [[(.int .i64 2)], [(.int .i64 1)], [(.int .i64 0)]]).bind fun v2 =>
 (C (.clo (.func n_law18_live_1) []) [6] [[(.int .i64 4)], [(.int .i64 2)], [(.int .i64 1)]]).bind fun v3 =>
 (floor_Merge_s (.lst []) (.int .i64 0) (.int .i64 0) (.lst []) (.lst []) (.lst [[(nth v1 0), (nth v1 1), (nth v1 2), (nth v1 3), (nth v1 4), (nth v1 5)], [(nth v2 0), (nth v2 1), (nth v2 2), (nth v2 3), (nth v2 4), (nth v2 5)], [(nth v3 0), (nth v3 1), (nth v3 2), (nth v3 3), (nth v3 4), (nth v3 5)]])).bind fun v4 =>
 (floor_Prune_s (nth v4 0) (nth v4 1) (nth v4 2) (nth v4 3) (nth v4 4) (.int .i64 3) (.int .i64 1)).bind fun v5 =>
 (C (.clo (.func n_law18_live_1) []) [6] [[(.int .i64 3)], [(.int .i64 1)], [(.int .i64 0)]]).bind fun v6 =>
 (floor_Add_s (nth v5 0) (nth v5 1) (nth v5 2) (nth v5 3) (nth v5 4) (nth v6 0) (nth v6 1) (nth v6 2) (nth v6 3) (nth v6 4) (nth v6 5)).bind fun v7 =>
 (C (.clo (.func n_law18_live_1) []) [6] [[(.int .i64 5)], [(.int .i64 1)], [(.int .i64 2)]]).bind fun v8 =>
 (floor_Add_s (nth v5 0) (nth v5 1) (nth v5 2) (nth v5 3) (nth v5 4) (nth v8 0) (nth v8 1) (nth v8 2) (nth v8 3) (nth v8 4) (nth v8 5)).bind fun v9 =>
 (floor_Prune_s (nth v5 0) (nth v5 1) (nth v5 2) (nth v5 3) (nth v5 4) (.int .i64 9) (.int .i64 1)).bind fun v10 =>
 (C (.clo (.func n_law18_live_1) []) [6] [[(.int .i64 6)], [(.int .i64 3)], [(.int .i64 0)]]).bind fun v11 =>
 (floor_Merge_s (nth v5 0) (nth v5 1) (nth v5 2) (nth v5 3) (nth v5 4) (.lst [[(nth v11 0), (nth v11 1), (nth v11 2), (nth v11 3), (nth v11 4), (nth v11 5)], [(.int .i64 0), (.int .i64 0), (.int .i64 0), (.int .i64 0), (.str ⟨#[]⟩), (.flt .f64 0)]])).bind fun v12 =>
 ((ilenL (nth v5 0)).bind fun v13 =>
 (ibin .neq v13 (.int .i64 1)).bind fun v14 =>
 icond v14 (fun _ =>
 some [(.bool true)]) (fun _ =>
 (floor_Tree_s (nth v5 0) (nth v5 1) (nth v5 2) (nth v5 3) (nth v5 4)).bind fun v15 =>
 (ilenL (nth v15 0)).bind fun v16 =>
 (ibin .neq v16 (.int .i64 2)).bind fun v17 =>
 some [v17])).bind fun v18 =>
 icond (nth v18 0) (fun _ =>
 scal [(.bool false)]) (fun _ =>
 ((ibin .eql (nth v4 5) (.int .i64 0)).bind fun v19 =>
 icond v19 (fun _ =>
 (ilenL (nth v4 3)).bind fun v20 =>
 (ibin .eql v20 (.int .i64 2)).bind fun v21 =>
 icond v21 (fun _ =>
 (ilenL (nth v4 4)).bind fun v22 =>
 (ibin .eql v22 (.int .i64 1)).bind fun v23 =>
 icond v23 (fun _ =>
 (iidx (nth v4 4) (.int .i64 0) 2).bind fun v24 =>
 (ild (nth v4 4) v24 1).bind fun v25 =>
 (ibin .eql v25 (.int .i64 4)).bind fun v26 =>
 icond v26 (fun _ =>
 (ibin .eql (nth v5 5) (.int .i64 0)).bind fun v27 =>
 icond v27 (fun _ =>
 (ilenL (nth v5 3)).bind fun v28 =>
 (ibin .eql v28 (.int .i64 1)).bind fun v29 =>
 icond v29 (fun _ =>
 (ibin .eql (nth v5 1) (.int .i64 3)).bind fun v30 =>
 icond v30 (fun _ =>
 (iidx (nth v5 0) (.int .i64 0) 4).bind fun v31 =>
 (ild (nth v5 0) v31 0).bind fun v32 =>
 (ibin .eql v32 (.int .i64 1)).bind fun v33 =>
 icond v33 (fun _ =>
 (iun .not (nth v7 5)).bind fun v34 =>
 icond v34 (fun _ =>
 (ibin .eql (nth v7 6) (.int .i64 9)).bind fun v35 =>
 icond v35 (fun _ =>
 icond (nth v9 5) (fun _ =>
 (ibin .eql (nth v9 6) (.int .i64 0)).bind fun v36 =>
 icond v36 (fun _ =>
 (ilenL (nth v9 3)).bind fun v37 =>
 (ibin .eql v37 (.int .i64 2)).bind fun v38 =>
 icond v38 (fun _ =>
 (ibin .eql (nth v10 5) (.int .i64 1)).bind fun v39 =>
 icond v39 (fun _ =>
 (ibin .eql (nth v12 5) (.int .i64 1)).bind fun v40 =>
 icond v40 (fun _ =>
 (floor_May_s (nth v9 0) (nth v9 1) (nth v9 2) (nth v9 3) (nth v9 4)).bind fun v41 =>
 icond (nth v41 0) (fun _ =>
 (floor_May_s (.lst []) (.int .i64 0) (.int .i64 0) (.lst [[(.int .i64 0), (.int .i64 0), (.int .i64 0), (.int .i64 0), (.str ⟨#[]⟩), (.flt .f64 0)]]) (.lst [])).bind fun v42 =>
 (iun .not (nth v42 0)).bind fun v43 =>
 icond v43 (fun _ =>
 (floor_Same_s (nth v5 0) (nth v5 1) (nth v5 2) (nth v5 3) (nth v5 4) (nth v5 0) (nth v5 1) (nth v5 2) (nth v5 3) (nth v5 4)).bind fun v44 =>
 icond (nth v44 0) (fun _ =>
 (floor_Same_s (nth v4 0) (nth v4 1) (nth v4 2) (nth v4 3) (nth v4 4) (nth v5 0) (nth v5 1) (nth v5 2) (nth v5 3) (nth v5 4)).bind fun v45 =>
 (iun .not (nth v45 0)).bind fun v46 =>
 icond v46 (fun _ =>
 (floor_Tree_s (nth v9 0) (nth v9 1) (nth v9 2) (nth v9 3) (nth v9 4)).bind fun v47 =>
 (iidx (nth v47 0) (.int .i64 1) 4).bind fun v48 =>
 (ild (nth v47 0) v48 1).bind fun v49 =>
 (ibin .eql v49 (.int .i64 1)).bind fun v50 =>
 some [v50]) (fun _ =>
 some [(.bool false)])) (fun _ =>
 some [(.bool false)])) (fun _ =>
 some [(.bool false)])) (fun _ =>
 some [(.bool false)])) (fun _ =>
 some [(.bool false)])) (fun _ =>
 some [(.bool false)])) (fun _ =>
 some [(.bool false)])) (fun _ =>
 some [(.bool false)])) (fun _ =>
 some [(.bool false)])) (fun _ =>
 some [(.bool false)])) (fun _ =>
 some [(.bool false)])) (fun _ =>
 some [(.bool false)])) (fun _ =>
 some [(.bool false)])) (fun _ =>
 some [(.bool false)])) (fun _ =>
 some [(.bool false)])) (fun _ =>
 some [(.bool false)])) (fun _ =>
 some [(.bool false)])) (fun _ =>
 some [(.bool false)])) (fun _ =>
 some [(.bool false)])).bind fun v51 =>
 scal [(nth v51 0)])
def law18_live_s : Option (List IV) := law18_live_g Cx_law18_live

def ref04_in_s (a0 a1 a2 a3 : IV) : Option (List IV) :=
 ((ilenS a0).bind fun v1 =>
 (ibin .lss a1 v1).bind fun v2 =>
 icond v2 (fun _ =>
 (istr a0 a1).bind fun v3 =>
 (icii .i64 v3).bind fun v4 =>
 (ibin .geq v4 a2).bind fun v5 =>
 icond v5 (fun _ =>
 (istr a0 a1).bind fun v6 =>
 (icii .i64 v6).bind fun v7 =>
 (ibin .leq v7 a3).bind fun v8 =>
 some [v8]) (fun _ =>
 some [(.bool false)])) (fun _ =>
 some [(.bool false)])).bind fun v9 =>
 scal [(nth v9 0)]

def ref04_sign_s (a0 a1 : IV) : Option (List IV) :=
 (ref04_in_s a0 a1 (.int .i64 0) (.int .i64 127)).bind fun v1 =>
 icond (nth v1 0) (fun _ =>
 scal [(.int .i64 1)]) (fun _ =>
 ((ref04_in_s a0 a1 (.int .i64 194) (.int .i64 223)).bind fun v2 =>
 icond (nth v2 0) (fun _ =>
 (ibin .add a1 (.int .i64 1)).bind fun v3 =>
 (ref04_in_s a0 v3 (.int .i64 128) (.int .i64 191)).bind fun v4 =>
 some [(nth v4 0)]) (fun _ =>
 some [(.bool false)])).bind fun v5 =>
 icond (nth v5 0) (fun _ =>
 scal [(.int .i64 2)]) (fun _ =>
 ((ibin .add a1 (.int .i64 2)).bind fun v6 =>
 (ref04_in_s a0 v6 (.int .i64 128) (.int .i64 191)).bind fun v7 =>
 icond (nth v7 0) (fun _ =>
 (ref04_in_s a0 a1 (.int .i64 224) (.int .i64 224)).bind fun v8 =>
 icond (nth v8 0) (fun _ =>
 (ibin .add a1 (.int .i64 1)).bind fun v9 =>
 (ref04_in_s a0 v9 (.int .i64 160) (.int .i64 191)).bind fun v10 =>
 icond (nth v10 0) (fun _ =>
 some [(.bool true)]) (fun _ =>
 (ref04_in_s a0 a1 (.int .i64 225) (.int .i64 236)).bind fun v11 =>
 icond (nth v11 0) (fun _ =>
 (ibin .add a1 (.int .i64 1)).bind fun v12 =>
 (ref04_in_s a0 v12 (.int .i64 128) (.int .i64 191)).bind fun v13 =>
 icond (nth v13 0) (fun _ =>
 some [(.bool true)]) (fun _ =>
 (ref04_in_s a0 a1 (.int .i64 238) (.int .i64 239)).bind fun v14 =>
 icond (nth v14 0) (fun _ =>
 (ibin .add a1 (.int .i64 1)).bind fun v15 =>
 (ref04_in_s a0 v15 (.int .i64 128) (.int .i64 191)).bind fun v16 =>
 icond (nth v16 0) (fun _ =>
 some [(.bool true)]) (fun _ =>
 (ref04_in_s a0 a1 (.int .i64 237) (.int .i64 237)).bind fun v17 =>
 icond (nth v17 0) (fun _ =>
 (ibin .add a1 (.int .i64 1)).bind fun v18 =>
 (ref04_in_s a0 v18 (.int .i64 128) (.int .i64 159)).bind fun v19 =>
 some [(nth v19 0)]) (fun _ =>
 some [(.bool false)]))) (fun _ =>
 (ref04_in_s a0 a1 (.int .i64 237) (.int .i64 237)).bind fun v20 =>
 icond (nth v20 0) (fun _ =>
 (ibin .add a1 (.int .i64 1)).bind fun v21 =>
 (ref04_in_s a0 v21 (.int .i64 128) (.int .i64 159)).bind fun v22 =>
 some [(nth v22 0)]) (fun _ =>
 some [(.bool false)])))) (fun _ =>
 (ref04_in_s a0 a1 (.int .i64 238) (.int .i64 239)).bind fun v23 =>
 icond (nth v23 0) (fun _ =>
 (ibin .add a1 (.int .i64 1)).bind fun v24 =>
 (ref04_in_s a0 v24 (.int .i64 128) (.int .i64 191)).bind fun v25 =>
 icond (nth v25 0) (fun _ =>
 some [(.bool true)]) (fun _ =>
 (ref04_in_s a0 a1 (.int .i64 237) (.int .i64 237)).bind fun v26 =>
 icond (nth v26 0) (fun _ =>
 (ibin .add a1 (.int .i64 1)).bind fun v27 =>
 (ref04_in_s a0 v27 (.int .i64 128) (.int .i64 159)).bind fun v28 =>
 some [(nth v28 0)]) (fun _ =>
 some [(.bool false)]))) (fun _ =>
 (ref04_in_s a0 a1 (.int .i64 237) (.int .i64 237)).bind fun v29 =>
 icond (nth v29 0) (fun _ =>
 (ibin .add a1 (.int .i64 1)).bind fun v30 =>
 (ref04_in_s a0 v30 (.int .i64 128) (.int .i64 159)).bind fun v31 =>
 some [(nth v31 0)]) (fun _ =>
 some [(.bool false)]))))) (fun _ =>
 (ref04_in_s a0 a1 (.int .i64 225) (.int .i64 236)).bind fun v32 =>
 icond (nth v32 0) (fun _ =>
 (ibin .add a1 (.int .i64 1)).bind fun v33 =>
 (ref04_in_s a0 v33 (.int .i64 128) (.int .i64 191)).bind fun v34 =>
 icond (nth v34 0) (fun _ =>
 some [(.bool true)]) (fun _ =>
 (ref04_in_s a0 a1 (.int .i64 238) (.int .i64 239)).bind fun v35 =>
 icond (nth v35 0) (fun _ =>
 (ibin .add a1 (.int .i64 1)).bind fun v36 =>
 (ref04_in_s a0 v36 (.int .i64 128) (.int .i64 191)).bind fun v37 =>
 icond (nth v37 0) (fun _ =>
 some [(.bool true)]) (fun _ =>
 (ref04_in_s a0 a1 (.int .i64 237) (.int .i64 237)).bind fun v38 =>
 icond (nth v38 0) (fun _ =>
 (ibin .add a1 (.int .i64 1)).bind fun v39 =>
 (ref04_in_s a0 v39 (.int .i64 128) (.int .i64 159)).bind fun v40 =>
 some [(nth v40 0)]) (fun _ =>
 some [(.bool false)]))) (fun _ =>
 (ref04_in_s a0 a1 (.int .i64 237) (.int .i64 237)).bind fun v41 =>
 icond (nth v41 0) (fun _ =>
 (ibin .add a1 (.int .i64 1)).bind fun v42 =>
 (ref04_in_s a0 v42 (.int .i64 128) (.int .i64 159)).bind fun v43 =>
 some [(nth v43 0)]) (fun _ =>
 some [(.bool false)])))) (fun _ =>
 (ref04_in_s a0 a1 (.int .i64 238) (.int .i64 239)).bind fun v44 =>
 icond (nth v44 0) (fun _ =>
 (ibin .add a1 (.int .i64 1)).bind fun v45 =>
 (ref04_in_s a0 v45 (.int .i64 128) (.int .i64 191)).bind fun v46 =>
 icond (nth v46 0) (fun _ =>
 some [(.bool true)]) (fun _ =>
 (ref04_in_s a0 a1 (.int .i64 237) (.int .i64 237)).bind fun v47 =>
 icond (nth v47 0) (fun _ =>
 (ibin .add a1 (.int .i64 1)).bind fun v48 =>
 (ref04_in_s a0 v48 (.int .i64 128) (.int .i64 159)).bind fun v49 =>
 some [(nth v49 0)]) (fun _ =>
 some [(.bool false)]))) (fun _ =>
 (ref04_in_s a0 a1 (.int .i64 237) (.int .i64 237)).bind fun v50 =>
 icond (nth v50 0) (fun _ =>
 (ibin .add a1 (.int .i64 1)).bind fun v51 =>
 (ref04_in_s a0 v51 (.int .i64 128) (.int .i64 159)).bind fun v52 =>
 some [(nth v52 0)]) (fun _ =>
 some [(.bool false)]))))) (fun _ =>
 some [(.bool false)])).bind fun v53 =>
 icond (nth v53 0) (fun _ =>
 scal [(.int .i64 3)]) (fun _ =>
 ((ibin .add a1 (.int .i64 2)).bind fun v54 =>
 (ref04_in_s a0 v54 (.int .i64 128) (.int .i64 191)).bind fun v55 =>
 icond (nth v55 0) (fun _ =>
 (ibin .add a1 (.int .i64 3)).bind fun v56 =>
 (ref04_in_s a0 v56 (.int .i64 128) (.int .i64 191)).bind fun v57 =>
 icond (nth v57 0) (fun _ =>
 (ref04_in_s a0 a1 (.int .i64 240) (.int .i64 240)).bind fun v58 =>
 icond (nth v58 0) (fun _ =>
 (ibin .add a1 (.int .i64 1)).bind fun v59 =>
 (ref04_in_s a0 v59 (.int .i64 144) (.int .i64 191)).bind fun v60 =>
 icond (nth v60 0) (fun _ =>
 some [(.bool true)]) (fun _ =>
 (ref04_in_s a0 a1 (.int .i64 241) (.int .i64 243)).bind fun v61 =>
 icond (nth v61 0) (fun _ =>
 (ibin .add a1 (.int .i64 1)).bind fun v62 =>
 (ref04_in_s a0 v62 (.int .i64 128) (.int .i64 191)).bind fun v63 =>
 icond (nth v63 0) (fun _ =>
 some [(.bool true)]) (fun _ =>
 (ref04_in_s a0 a1 (.int .i64 244) (.int .i64 244)).bind fun v64 =>
 icond (nth v64 0) (fun _ =>
 (ibin .add a1 (.int .i64 1)).bind fun v65 =>
 (ref04_in_s a0 v65 (.int .i64 128) (.int .i64 143)).bind fun v66 =>
 some [(nth v66 0)]) (fun _ =>
 some [(.bool false)]))) (fun _ =>
 (ref04_in_s a0 a1 (.int .i64 244) (.int .i64 244)).bind fun v67 =>
 icond (nth v67 0) (fun _ =>
 (ibin .add a1 (.int .i64 1)).bind fun v68 =>
 (ref04_in_s a0 v68 (.int .i64 128) (.int .i64 143)).bind fun v69 =>
 some [(nth v69 0)]) (fun _ =>
 some [(.bool false)])))) (fun _ =>
 (ref04_in_s a0 a1 (.int .i64 241) (.int .i64 243)).bind fun v70 =>
 icond (nth v70 0) (fun _ =>
 (ibin .add a1 (.int .i64 1)).bind fun v71 =>
 (ref04_in_s a0 v71 (.int .i64 128) (.int .i64 191)).bind fun v72 =>
 icond (nth v72 0) (fun _ =>
 some [(.bool true)]) (fun _ =>
 (ref04_in_s a0 a1 (.int .i64 244) (.int .i64 244)).bind fun v73 =>
 icond (nth v73 0) (fun _ =>
 (ibin .add a1 (.int .i64 1)).bind fun v74 =>
 (ref04_in_s a0 v74 (.int .i64 128) (.int .i64 143)).bind fun v75 =>
 some [(nth v75 0)]) (fun _ =>
 some [(.bool false)]))) (fun _ =>
 (ref04_in_s a0 a1 (.int .i64 244) (.int .i64 244)).bind fun v76 =>
 icond (nth v76 0) (fun _ =>
 (ibin .add a1 (.int .i64 1)).bind fun v77 =>
 (ref04_in_s a0 v77 (.int .i64 128) (.int .i64 143)).bind fun v78 =>
 some [(nth v78 0)]) (fun _ =>
 some [(.bool false)])))) (fun _ =>
 some [(.bool false)])) (fun _ =>
 some [(.bool false)])).bind fun v79 =>
 icond (nth v79 0) (fun _ =>
 scal [(.int .i64 4)]) (fun _ =>
 scal [(.int .i64 0)]))))

def ref04_First_l2 (a0 : IV) (v1 : List IV) : Option SR :=
 (ilenS a0).bind fun v2 =>
 (ibin .lss (nth v1 0) v2).bind fun v3 =>
 icond v3 (fun _ =>
 (ref04_sign_s a0 (nth v1 0)).bind fun v4 =>
 (ibin .eql (nth v4 0) (.int .i64 0)).bind fun v5 =>
 icond v5 (fun _ =>
 some (.done 1 [(nth v1 0), (.bool true)])) (fun _ =>
 (ibin .add (nth v1 0) (nth v4 0)).bind fun v6 =>
 some (.next [v6]))) (fun _ =>
 some (.done 0 []))
def ref04_First_s (a0 : IV) : Option (List IV) :=
 (iter rounds (ref04_First_l2 a0) [(.int .i64 0)]).bind fun v7 =>
 sel v7.1 [scal [(.int .i64 0), (.bool false)],
 scal [(nth v7.2 0), (nth v7.2 1)]]

def ref04_Valid_s (a0 : IV) : Option (List IV) :=
 (ref04_First_s a0).bind fun v1 =>
 (iun .not (nth v1 1)).bind fun v2 =>
 scal [v2]

def ref12_One_s (a0 a1 a2 a3 : IV) : Option (List IV) :=
 ((ibin .geq a0 (.int .i64 1)).bind fun v1 =>
 icond v1 (fun _ =>
 (ibin .leq a0 (.int .i64 2147483647)).bind fun v2 =>
 icond v2 (fun _ =>
 (ibin .geq a1 (.int .i64 0)).bind fun v3 =>
 icond v3 (fun _ =>
 (ibin .leq a1 (.int .i64 2147483647)).bind fun v4 =>
 icond v4 (fun _ =>
 (ilenS a2).bind fun v5 =>
 (ibin .leq v5 (.int .i64 64)).bind fun v6 =>
 icond v6 (fun _ =>
 (ref04_Valid_s a2).bind fun v7 =>
 some [(nth v7 0)]) (fun _ =>
 some [(.bool false)])) (fun _ =>
 some [(.bool false)])) (fun _ =>
 some [(.bool false)])) (fun _ =>
 some [(.bool false)])) (fun _ =>
 some [(.bool false)])).bind fun v8 =>
 scal [(nth v8 0)]

def ref12_place_l2 (a0 : IV) (a1 : IV) (v1 : List IV) : Option SR :=
 (ilenL a0).bind fun v2 =>
 (ibin .lss (nth v1 0) v2).bind fun v3 =>
 icond v3 (fun _ =>
 (iidx a0 (nth v1 0) 4).bind fun v4 =>
 (ild a0 v4 0).bind fun v5 =>
 (ibin .eql v5 a1).bind fun v6 =>
 icond v6 (fun _ =>
 some (.done 1 [(nth v1 0)])) (fun _ =>
 (ibin .add (nth v1 0) (.int .i64 1)).bind fun v7 =>
 some (.next [v7]))) (fun _ =>
 some (.done 0 []))
def ref12_place_s (a0 a1 : IV) : Option (List IV) :=
 (iter rounds (ref12_place_l2 a0 a1) [(.int .i64 0)]).bind fun v8 =>
 sel v8.1 [scal [(.int .i64 (-1))],
 scal [(nth v8.2 0)]]

def ref12_Find_s (a0 a1 : IV) : Option (List IV) :=
 (ref12_place_s a0 a1).bind fun v1 =>
 (ibin .lss (nth v1 0) (.int .i64 0)).bind fun v2 =>
 icond v2 (fun _ =>
 scal [(.int .i64 0), (.int .i64 0), (.str ⟨#[]⟩), (.flt .f64 0), (.bool false)]) (fun _ =>
 (iidx a0 (nth v1 0) 4).bind fun v3 =>
 (ildN a0 v3 0 4).bind fun v4 =>
 scal [(nth v4 0), (nth v4 1), (nth v4 2), (nth v4 3), (.bool true)])

def ref12_Above_l2 (a0 : IV) (a1 : IV) (v1 : List IV) : Option SR :=
 (ilenL a0).bind fun v2 =>
 (ibin .lss (nth v1 1) v2).bind fun v3 =>
 icond v3 (fun _ =>
 (ref12_Find_s a0 (nth v1 0)).bind fun v4 =>
 (iun .not (nth v4 4)).bind fun v5 =>
 icond v5 (fun _ =>
 some (.done 1 [(.bool false)])) (fun _ =>
 (ibin .eql (nth v4 1) a1).bind fun v6 =>
 icond v6 (fun _ =>
 some (.done 1 [(.bool true)])) (fun _ =>
 (ibin .add (nth v1 1) (.int .i64 1)).bind fun v7 =>
 some (.next [(nth v4 1), v7])))) (fun _ =>
 some (.done 0 []))
def ref12_Above_s (a0 a1 a2 : IV) : Option (List IV) :=
 (iter rounds (ref12_Above_l2 a0 a1) [a2, (.int .i64 0)]).bind fun v8 =>
 sel v8.1 [scal [(.bool false)],
 scal [(nth v8.2 0)]]

def ref12_May_l4 (a0 : IV) (v3 : List IV) : Option SR :=
 (ilenL a0).bind fun v4 =>
 (ibin .lss (nth v3 0) v4).bind fun v5 =>
 icond v5 (fun _ =>
 ((iidx a0 (nth v3 0) 4).bind fun v6 =>
 (ildN a0 v6 0 4).bind fun v7 =>
 (ref12_One_s (nth v7 0) (nth v7 1) (nth v7 2) (nth v7 3)).bind fun v8 =>
 (iun .not (nth v8 0)).bind fun v9 =>
 icond v9 (fun _ =>
 some [(.bool true)]) (fun _ =>
 (ibin .gtr (nth v3 0) (.int .i64 0)).bind fun v10 =>
 icond v10 (fun _ =>
 (ibin .sub (nth v3 0) (.int .i64 1)).bind fun v11 =>
 (iidx a0 v11 4).bind fun v12 =>
 (ild a0 v12 0).bind fun v13 =>
 (iidx a0 (nth v3 0) 4).bind fun v14 =>
 (ild a0 v14 0).bind fun v15 =>
 (ibin .geq v13 v15).bind fun v16 =>
 some [v16]) (fun _ =>
 some [(.bool false)]))).bind fun v17 =>
 icond (nth v17 0) (fun _ =>
 some (.done 1 [(.bool false)])) (fun _ =>
 (ibin .add (nth v3 0) (.int .i64 1)).bind fun v18 =>
 some (.next [v18]))) (fun _ =>
 some (.done 0 []))
def ref12_May_l9 (a0 : IV) (v20 : List IV) : Option SR :=
 (ilenL a0).bind fun v21 =>
 (ibin .lss (nth v20 0) v21).bind fun v22 =>
 icond v22 (fun _ =>
 (iidx a0 (nth v20 0) 4).bind fun v23 =>
 (ild a0 v23 0).bind fun v24 =>
 (iidx a0 (nth v20 0) 4).bind fun v25 =>
 (ild a0 v25 0).bind fun v26 =>
 (ref12_Above_s a0 v24 v26).bind fun v27 =>
 icond (nth v27 0) (fun _ =>
 some (.done 1 [(.bool false)])) (fun _ =>
 (ibin .add (nth v20 0) (.int .i64 1)).bind fun v28 =>
 some (.next [v28]))) (fun _ =>
 some (.done 0 []))
def ref12_May_s (a0 : IV) : Option (List IV) :=
 (ilenL a0).bind fun v1 =>
 (ibin .gtr v1 (.int .i64 2000)).bind fun v2 =>
 icond v2 (fun _ =>
 scal [(.bool false)]) (fun _ =>
 (iter rounds (ref12_May_l4 a0) [(.int .i64 0)]).bind fun v19 =>
 sel v19.1 [(iter rounds (ref12_May_l9 a0) [(.int .i64 0)]).bind fun v29 =>
 sel v29.1 [scal [(.bool true)],
 scal [(nth v29.2 0)]],
 scal [(nth v19.2 0)]])

def ref13_Time_s (a0 a1 : IV) : Option (List IV) :=
 ((ibin .geq a0 (.int .i64 1)).bind fun v1 =>
 icond v1 (fun _ =>
 (ibin .leq a0 (.int .i64 4611686018427387903)).bind fun v2 =>
 icond v2 (fun _ =>
 (ibin .geq a1 (.int .i64 1)).bind fun v3 =>
 icond v3 (fun _ =>
 (ibin .leq a1 (.int .i64 255)).bind fun v4 =>
 some [v4]) (fun _ =>
 some [(.bool false)])) (fun _ =>
 some [(.bool false)])) (fun _ =>
 some [(.bool false)])).bind fun v5 =>
 scal [(nth v5 0)]

def ref13_Row_s (a0 a1 a2 a3 a4 a5 : IV) : Option (List IV) :=
 scal [a3, a2, a4, a5]

def ref13_One_s (a0 a1 a2 a3 a4 a5 : IV) : Option (List IV) :=
 ((ref13_Time_s a0 a1).bind fun v1 =>
 icond (nth v1 0) (fun _ =>
 (ref13_Row_s a0 a1 a2 a3 a4 a5).bind fun v2 =>
 (ref12_One_s (nth v2 0) (nth v2 1) (nth v2 2) (nth v2 3)).bind fun v3 =>
 some [(nth v3 0)]) (fun _ =>
 some [(.bool false)])).bind fun v4 =>
 scal [(nth v4 0)]

def ref02_Before_s (a0 a1 a2 a3 : IV) : Option (List IV) :=
 ((ibin .lss a0 a2).bind fun v1 =>
 icond v1 (fun _ =>
 some [(.bool true)]) (fun _ =>
 (ibin .eql a0 a2).bind fun v2 =>
 icond v2 (fun _ =>
 (ibin .lss a1 a3).bind fun v3 =>
 some [v3]) (fun _ =>
 some [(.bool false)]))).bind fun v4 =>
 scal [(nth v4 0)]

def ref13_May_l4 (a0 : IV) (v3 : List IV) : Option SR :=
 (ilenL a0).bind fun v4 =>
 (ibin .lss (nth v3 0) v4).bind fun v5 =>
 icond v5 (fun _ =>
 ((iidx a0 (nth v3 0) 6).bind fun v6 =>
 (ildN a0 v6 0 6).bind fun v7 =>
 (ref13_One_s (nth v7 0) (nth v7 1) (nth v7 2) (nth v7 3) (nth v7 4) (nth v7 5)).bind fun v8 =>
 (iun .not (nth v8 0)).bind fun v9 =>
 icond v9 (fun _ =>
 some [(.bool true)]) (fun _ =>
 (ibin .gtr (nth v3 0) (.int .i64 0)).bind fun v10 =>
 icond v10 (fun _ =>
 (ibin .sub (nth v3 0) (.int .i64 1)).bind fun v11 =>
 (iidx a0 v11 6).bind fun v12 =>
 (ildN a0 v12 0 2).bind fun v13 =>
 (iidx a0 (nth v3 0) 6).bind fun v14 =>
 (ildN a0 v14 0 2).bind fun v15 =>
 (ref02_Before_s (nth v13 0) (nth v13 1) (nth v15 0) (nth v15 1)).bind fun v16 =>
 (iun .not (nth v16 0)).bind fun v17 =>
 some [v17]) (fun _ =>
 some [(.bool false)]))).bind fun v18 =>
 icond (nth v18 0) (fun _ =>
 some (.done 1 [(.bool false)])) (fun _ =>
 (ibin .add (nth v3 0) (.int .i64 1)).bind fun v19 =>
 some (.next [v19]))) (fun _ =>
 some (.done 0 []))
def ref13_May_s (a0 : IV) : Option (List IV) :=
 (ilenL a0).bind fun v1 =>
 (ibin .gtr v1 (.int .i64 2000)).bind fun v2 =>
 icond v2 (fun _ =>
 scal [(.bool false)]) (fun _ =>
 (iter rounds (ref13_May_l4 a0) [(.int .i64 0)]).bind fun v20 =>
 sel v20.1 [scal [(.bool true)],
 scal [(nth v20.2 0)]])

def ref17_May_l2 (a0 : IV) (v1 : List IV) : Option SR :=
 (ilenL a0).bind fun v2 =>
 (ibin .lss (nth v1 0) v2).bind fun v3 =>
 icond v3 (fun _ =>
 ((iidx a0 (nth v1 0) 2).bind fun v4 =>
 (ild a0 v4 0).bind fun v5 =>
 (ibin .lss v5 (.int .i64 1)).bind fun v6 =>
 icond v6 (fun _ =>
 some [(.bool true)]) (fun _ =>
 (iidx a0 (nth v1 0) 2).bind fun v7 =>
 (ild a0 v7 0).bind fun v8 =>
 (ibin .gtr v8 (.int .i64 255)).bind fun v9 =>
 icond v9 (fun _ =>
 some [(.bool true)]) (fun _ =>
 (iidx a0 (nth v1 0) 2).bind fun v10 =>
 (ild a0 v10 1).bind fun v11 =>
 (ibin .lss v11 (.int .i64 1)).bind fun v12 =>
 icond v12 (fun _ =>
 some [(.bool true)]) (fun _ =>
 (iidx a0 (nth v1 0) 2).bind fun v13 =>
 (ild a0 v13 1).bind fun v14 =>
 (ibin .gtr v14 (.int .i64 4611686018427387903)).bind fun v15 =>
 icond v15 (fun _ =>
 some [(.bool true)]) (fun _ =>
 (ibin .gtr (nth v1 0) (.int .i64 0)).bind fun v16 =>
 icond v16 (fun _ =>
 (ibin .sub (nth v1 0) (.int .i64 1)).bind fun v17 =>
 (iidx a0 v17 2).bind fun v18 =>
 (ild a0 v18 0).bind fun v19 =>
 (iidx a0 (nth v1 0) 2).bind fun v20 =>
 (ild a0 v20 0).bind fun v21 =>
 (ibin .geq v19 v21).bind fun v22 =>
 some [v22]) (fun _ =>
 some [(.bool false)])))))).bind fun v23 =>
 icond (nth v23 0) (fun _ =>
 some (.done 1 [(.bool false)])) (fun _ =>
 (ibin .add (nth v1 0) (.int .i64 1)).bind fun v24 =>
 some (.next [v24]))) (fun _ =>
 some (.done 0 []))
def ref17_May_s (a0 : IV) : Option (List IV) :=
 (iter rounds (ref17_May_l2 a0) [(.int .i64 0)]).bind fun v25 =>
 sel v25.1 [scal [(.bool true)],
 scal [(nth v25.2 0)]]

def ref17_Raise_l3 (a2 : IV) (a1 : IV) (v2 : List IV) : Option SR :=
 (ibin .lss (nth v2 1) (.int .i64 ((llen (nth v2 0)) : Nat))).bind fun v3 =>
 icond v3 (fun _ =>
 (ibidx (llen (nth v2 0)) (nth v2 1)).bind fun v4 =>
 (ild (nth v2 0) v4 0).bind fun v5 =>
 (ibin .eql v5 a2).bind fun v6 =>
 icond v6 (fun _ =>
 (ibidx (llen (nth v2 0)) (nth v2 1)).bind fun v7 =>
 (ild (nth v2 0) v7 1).bind fun v8 =>
 (imax v8 a1).bind fun v9 =>
 (ibidx (llen (nth v2 0)) (nth v2 1)).bind fun v10 =>
 (iset (nth v2 0) v10 1 [v9]).bind fun v11 =>
 some (.done 1 [v11])) (fun _ =>
 (ibin .add (nth v2 1) (.int .i64 1)).bind fun v12 =>
 some (.next [(nth v2 0), v12]))) (fun _ =>
 some (.done 0 [(nth v2 0)]))
def ref17_Raise_l11 (v13 : Nat × List IV) (a2 : IV) (v15 : List IV) : Option SR :=
 ((ibin .lss (nth v15 0) (.int .i64 ((llen (nth v13.2 0)) : Nat))).bind fun v16 =>
 icond v16 (fun _ =>
 (ibidx (llen (nth v13.2 0)) (nth v15 0)).bind fun v17 =>
 (ild (nth v13.2 0) v17 0).bind fun v18 =>
 (ibin .lss v18 a2).bind fun v19 =>
 some [v19]) (fun _ =>
 some [(.bool false)])).bind fun v20 =>
 icond (nth v20 0) (fun _ =>
 (ibin .add (nth v15 0) (.int .i64 1)).bind fun v21 =>
 some (.next [v21])) (fun _ =>
 some (.done 0 [(nth v15 0)]))
def ref17_Raise_s (a0 a1 a2 : IV) : Option (List IV) :=
 (iapp 2 16 (.lst []) a0).bind fun v1 =>
 (iter rounds (ref17_Raise_l3 a2 a1) [v1, (.int .i64 0)]).bind fun v13 =>
 sel v13.1 [(ibin .leq a1 (.int .i64 0)).bind fun v14 =>
 icond v14 (fun _ =>
 some [(nth v13.2 0)]) (fun _ =>
 (iter rounds (ref17_Raise_l11 v13 a2) [(.int .i64 0)]).bind fun v22 =>
 sel v22.1 [(ibnds (llen (nth v13.2 0)) (some (nth v22.2 0)) none).bind fun v23 =>
 (iapp 2 16 (.lst []) (lsub (nth v13.2 0) v23.1 v23.2)).bind fun v24 =>
 (ibnds (llen (nth v13.2 0)) none (some (nth v22.2 0))).bind fun v25 =>
 (iapp 2 16 (lsub (nth v13.2 0) v25.1 v25.2) (.lst [[a2, a1]])).bind fun v26 =>
 (iapp 2 16 v26 v24).bind fun v27 =>
 some [v27]]),
 some [(nth v13.2 0)]]

def ref17_Of_l3 (a0 : IV) (v1 : List IV) : Option SR :=
 (ilenL a0).bind fun v2 =>
 (ibin .lss (nth v1 1) v2).bind fun v3 =>
 icond v3 (fun _ =>
 (iidx a0 (nth v1 1) 6).bind fun v4 =>
 (ildN a0 v4 0 2).bind fun v5 =>
 (ref17_Raise_s (nth v1 0) (nth v5 0) (nth v5 1)).bind fun v6 =>
 (ibin .add (nth v1 1) (.int .i64 1)).bind fun v7 =>
 some (.next [(nth v6 0), v7])) (fun _ =>
 some (.done 0 [(nth v1 0)]))
def ref17_Of_s (a0 : IV) : Option (List IV) :=
 (iter rounds (ref17_Of_l3 a0) [(.lst []), (.int .i64 0)]).bind fun v8 =>
 sel v8.1 [some [(nth v8.2 0)]]

def ref17_Get_l2 (a0 : IV) (a1 : IV) (v1 : List IV) : Option SR :=
 (ilenL a0).bind fun v2 =>
 (ibin .lss (nth v1 0) v2).bind fun v3 =>
 icond v3 (fun _ =>
 (iidx a0 (nth v1 0) 2).bind fun v4 =>
 (ild a0 v4 0).bind fun v5 =>
 (ibin .eql v5 a1).bind fun v6 =>
 icond v6 (fun _ =>
 (iidx a0 (nth v1 0) 2).bind fun v7 =>
 (ild a0 v7 1).bind fun v8 =>
 some (.done 1 [v8])) (fun _ =>
 (ibin .add (nth v1 0) (.int .i64 1)).bind fun v9 =>
 some (.next [v9]))) (fun _ =>
 some (.done 0 []))
def ref17_Get_s (a0 a1 : IV) : Option (List IV) :=
 (iter rounds (ref17_Get_l2 a0 a1) [(.int .i64 0)]).bind fun v10 =>
 sel v10.1 [scal [(.int .i64 0)],
 scal [(nth v10.2 0)]]

def ref17_Below_l2 (a0 : IV) (a1 : IV) (v1 : List IV) : Option SR :=
 (ilenL a0).bind fun v2 =>
 (ibin .lss (nth v1 0) v2).bind fun v3 =>
 icond v3 (fun _ =>
 (iidx a0 (nth v1 0) 2).bind fun v4 =>
 (ild a0 v4 0).bind fun v5 =>
 (ref17_Get_s a0 v5).bind fun v6 =>
 (iidx a0 (nth v1 0) 2).bind fun v7 =>
 (ild a0 v7 0).bind fun v8 =>
 (ref17_Get_s a1 v8).bind fun v9 =>
 (ibin .gtr (nth v6 0) (nth v9 0)).bind fun v10 =>
 icond v10 (fun _ =>
 some (.done 1 [(.bool false)])) (fun _ =>
 (ibin .add (nth v1 0) (.int .i64 1)).bind fun v11 =>
 some (.next [v11]))) (fun _ =>
 some (.done 0 []))
def ref17_Below_s (a0 a1 : IV) : Option (List IV) :=
 (iter rounds (ref17_Below_l2 a0 a1) [(.int .i64 0)]).bind fun v12 =>
 sel v12.1 [scal [(.bool true)],
 scal [(nth v12.2 0)]]

def ref18_Children_l3 (a0 : IV) (v1 : List IV) : Option SR :=
 (ilenL a0).bind fun v2 =>
 (ibin .lss (nth v1 1) v2).bind fun v3 =>
 icond v3 (fun _ =>
 (iidx a0 (nth v1 1) 4).bind fun v4 =>
 (ild a0 v4 0).bind fun v5 =>
 (imputK (.int .i64) (nth v1 0) v5 (.bool true)).bind fun v6 =>
 (ibin .add (nth v1 1) (.int .i64 1)).bind fun v7 =>
 some (.next [v6, v7])) (fun _ =>
 some (.done 0 [(nth v1 0)]))
def ref18_Children_l7 (a1 : IV) (v9 : List IV) : Option SR :=
 (ilenL a1).bind fun v10 =>
 (ibin .lss (nth v9 1) v10).bind fun v11 =>
 icond v11 (fun _ =>
 (iidx a1 (nth v9 1) 6).bind fun v12 =>
 (ild a1 v12 3).bind fun v13 =>
 (imputK (.int .i64) (nth v9 0) v13 (.bool true)).bind fun v14 =>
 (ibin .add (nth v9 1) (.int .i64 1)).bind fun v15 =>
 some (.next [v14, v15])) (fun _ =>
 some (.done 0 [(nth v9 0)]))
def ref18_Children_s (a0 a1 a2 : IV) : Option (List IV) :=
 (iter rounds (ref18_Children_l3 a0) [(.map []), (.int .i64 0)]).bind fun v8 =>
 sel v8.1 [(iter rounds (ref18_Children_l7 a1) [(nth v8.2 0), (.int .i64 0)]).bind fun v16 =>
 sel v16.1 [(imlen (nth v16.2 0)).bind fun v17 =>
 (imgetK (.int .i64) (nth v16.2 0) a2 (.bool false)).bind fun v18 =>
 scal [v17, (nth v18 0)]]]

def ref18_May_l6 (a3 : IV) (a1 : IV) (a2 : IV) (v17 : List IV) : Option SR :=
 (ilenL a3).bind fun v18 =>
 (ibin .lss (nth v17 0) v18).bind fun v19 =>
 icond v19 (fun _ =>
 (iidx a3 (nth v17 0) 6).bind fun v20 =>
 (ildN a3 v20 0 2).bind fun v21 =>
 (ref02_Before_s a1 a2 (nth v21 0) (nth v21 1)).bind fun v22 =>
 (iun .not (nth v22 0)).bind fun v23 =>
 icond v23 (fun _ =>
 some (.done 1 [(.bool false)])) (fun _ =>
 (ibin .add (nth v17 0) (.int .i64 1)).bind fun v24 =>
 some (.next [v24]))) (fun _ =>
 some (.done 0 []))
def ref18_May_s (a0 a1 a2 a3 a4 : IV) : Option (List IV) :=
 ((ref12_May_s a0).bind fun v1 =>
 (iun .not (nth v1 0)).bind fun v2 =>
 icond v2 (fun _ =>
 some [(.bool true)]) (fun _ =>
 (ref13_May_s a3).bind fun v3 =>
 (iun .not (nth v3 0)).bind fun v4 =>
 icond v4 (fun _ =>
 some [(.bool true)]) (fun _ =>
 (ref17_May_s a4).bind fun v5 =>
 (iun .not (nth v5 0)).bind fun v6 =>
 icond v6 (fun _ =>
 some [(.bool true)]) (fun _ =>
 (ref17_Of_s a3).bind fun v7 =>
 (ref17_Below_s (nth v7 0) a4).bind fun v8 =>
 (iun .not (nth v8 0)).bind fun v9 =>
 some [v9])))).bind fun v10 =>
 icond (nth v10 0) (fun _ =>
 scal [(.bool false)]) (fun _ =>
 ((ieqs .neq [.i, .i] [a1, a2] [(.int .i64 0), (.int .i64 0)]).bind fun v11 =>
 icond v11 (fun _ =>
 (ref13_Time_s a1 a2).bind fun v12 =>
 (iun .not (nth v12 0)).bind fun v13 =>
 icond v13 (fun _ =>
 some [(.bool true)]) (fun _ =>
 (ref17_Get_s a4 a2).bind fun v14 =>
 (ibin .gtr a1 (nth v14 0)).bind fun v15 =>
 some [v15])) (fun _ =>
 some [(.bool false)])).bind fun v16 =>
 icond (nth v16 0) (fun _ =>
 scal [(.bool false)]) (fun _ =>
 (iter rounds (ref18_May_l6 a3 a1 a2) [(.int .i64 0)]).bind fun v25 =>
 sel v25.1 [(ref18_Children_s a0 a3 (.int .i64 0)).bind fun v26 =>
 (ibin .leq (nth v26 0) (.int .i64 2000)).bind fun v27 =>
 scal [v27],
 scal [(nth v25.2 0)]]))

def ref13_Insert_l2 (a0 : IV) (a1 : IV) (a2 : IV) (v1 : List IV) : Option SR :=
 (ilenL a0).bind fun v2 =>
 (ibin .lss (nth v1 0) v2).bind fun v3 =>
 icond v3 (fun _ =>
 (iidx a0 (nth v1 0) 6).bind fun v4 =>
 (ildN a0 v4 0 2).bind fun v5 =>
 (ieqs .eql [.i, .i] [(nth v5 0), (nth v5 1)] [a1, a2]).bind fun v6 =>
 icond v6 (fun _ =>
 some (.done 1 [a0, (nth v1 0), (.bool false)])) (fun _ =>
 (ibin .add (nth v1 0) (.int .i64 1)).bind fun v7 =>
 some (.next [v7]))) (fun _ =>
 some (.done 0 []))
def ref13_Insert_l7 (a0 : IV) (a1 : IV) (a2 : IV) (v9 : List IV) : Option SR :=
 ((ilenL a0).bind fun v10 =>
 (ibin .lss (nth v9 0) v10).bind fun v11 =>
 icond v11 (fun _ =>
 (iidx a0 (nth v9 0) 6).bind fun v12 =>
 (ildN a0 v12 0 2).bind fun v13 =>
 (ref02_Before_s a1 a2 (nth v13 0) (nth v13 1)).bind fun v14 =>
 (iun .not (nth v14 0)).bind fun v15 =>
 some [v15]) (fun _ =>
 some [(.bool false)])).bind fun v16 =>
 icond (nth v16 0) (fun _ =>
 (ibin .add (nth v9 0) (.int .i64 1)).bind fun v17 =>
 some (.next [v17])) (fun _ =>
 some (.done 0 [(nth v9 0)]))
def ref13_Insert_s (a0 a1 a2 a3 a4 a5 a6 : IV) : Option (List IV) :=
 (iter rounds (ref13_Insert_l2 a0 a1 a2) [(.int .i64 0)]).bind fun v8 =>
 sel v8.1 [(iter rounds (ref13_Insert_l7 a0 a1 a2) [(.int .i64 0)]).bind fun v18 =>
 sel v18.1 [(islcL 6 a0 none (some (nth v18.2 0))).bind fun v19 =>
 (iapp 6 56 (.lst []) v19).bind fun v20 =>
 (iapp 6 56 v20 (.lst [[a1, a2, a3, a4, a5, a6]])).bind fun v21 =>
 (islcL 6 a0 (some (nth v18.2 0)) none).bind fun v22 =>
 (iapp 6 56 v21 v22).bind fun v23 =>
 some [v23, (nth v18.2 0), (.bool true)]],
 some [(nth v8.2 0), (nth v8.2 1), (nth v8.2 2)]]

def ref18_Add_s (a0 a1 a2 a3 a4 a5 a6 a7 a8 a9 a10 : IV) : Option (List IV) :=
 ((ref18_May_s a0 a1 a2 a3 a4).bind fun v1 =>
 (iun .not (nth v1 0)).bind fun v2 =>
 icond v2 (fun _ =>
 some [(.bool true)]) (fun _ =>
 (ref13_One_s a5 a6 a7 a8 a9 a10).bind fun v3 =>
 (iun .not (nth v3 0)).bind fun v4 =>
 some [v4])).bind fun v5 =>
 icond (nth v5 0) (fun _ =>
 some [a0, a1, a2, a3, a4, (.bool false), (.int .i64 1)]) (fun _ =>
 (ref02_Before_s a1 a2 a5 a6).bind fun v6 =>
 (iun .not (nth v6 0)).bind fun v7 =>
 icond v7 (fun _ =>
 some [a0, a1, a2, a3, a4, (.bool false), (.int .i64 9)]) (fun _ =>
 (ref13_Insert_s a3 a5 a6 a7 a8 a9 a10).bind fun v8 =>
 (iun .not (nth v8 2)).bind fun v9 =>
 icond v9 (fun _ =>
 some [a0, a1, a2, a3, a4, (.bool false), (.int .i64 0)]) (fun _ =>
 (ref18_Children_s a0 a3 a8).bind fun v10 =>
 ((ilenL a3).bind fun v11 =>
 (ibin .geq v11 (.int .i64 2000)).bind fun v12 =>
 icond v12 (fun _ =>
 some [(.bool true)]) (fun _ =>
 (ibin .geq (nth v10 0) (.int .i64 2000)).bind fun v13 =>
 icond v13 (fun _ =>
 (iun .not (nth v10 1)).bind fun v14 =>
 some [v14]) (fun _ =>
 some [(.bool false)]))).bind fun v15 =>
 icond (nth v15 0) (fun _ =>
 some [a0, a1, a2, a3, a4, (.bool false), (.int .i64 10)]) (fun _ =>
 (ref17_Raise_s a4 a5 a6).bind fun v16 =>
 some [a0, a1, a2, (nth v8 0), (nth v16 0), (.bool true), (.int .i64 0)]))))

def ref13_Since_l3 (a0 : IV) (a1 : IV) (a2 : IV) (v1 : List IV) : Option SR :=
 (ilenL a0).bind fun v2 =>
 (ibin .lss (nth v1 1) v2).bind fun v3 =>
 icond v3 (fun _ =>
 (iidx a0 (nth v1 1) 6).bind fun v4 =>
 (ildN a0 v4 0 2).bind fun v5 =>
 (ref02_Before_s a1 a2 (nth v5 0) (nth v5 1)).bind fun v6 =>
 icond (nth v6 0) (fun _ =>
 (iidx a0 (nth v1 1) 6).bind fun v7 =>
 (ildN a0 v7 0 6).bind fun v8 =>
 (iapp 6 56 (nth v1 0) (.lst [[(nth v8 0), (nth v8 1), (nth v8 2), (nth v8 3), (nth v8 4), (nth v8 5)]])).bind fun v9 =>
 (ibin .add (nth v1 1) (.int .i64 1)).bind fun v10 =>
 some (.next [v9, v10])) (fun _ =>
 (ibin .add (nth v1 1) (.int .i64 1)).bind fun v11 =>
 some (.next [(nth v1 0), v11]))) (fun _ =>
 some (.done 0 [(nth v1 0)]))
def ref13_Since_s (a0 a1 a2 : IV) : Option (List IV) :=
 (iter rounds (ref13_Since_l3 a0 a1 a2) [(.lst []), (.int .i64 0)]).bind fun v12 =>
 sel v12.1 [some [(nth v12.2 0)]]

def ref14_Barred_s (a0 a1 a2 a3 a4 a5 a6 : IV) : Option (List IV) :=
 ((ibin .eql a4 a3).bind fun v1 =>
 icond v1 (fun _ =>
 some [(.bool true)]) (fun _ =>
 (ibin .eql a4 (.int .i64 0)).bind fun v2 =>
 icond v2 (fun _ =>
 some [(.bool true)]) (fun _ =>
 (ref12_Above_s a0 a4 a3).bind fun v3 =>
 some [(nth v3 0)]))).bind fun v4 =>
 scal [(nth v4 0)]

def ref12_Set_l7 (a0 : IV) (a1 : IV) (v6 : List IV) : Option SR :=
 ((ilenL a0).bind fun v7 =>
 (ibin .lss (nth v6 0) v7).bind fun v8 =>
 icond v8 (fun _ =>
 (iidx a0 (nth v6 0) 4).bind fun v9 =>
 (ild a0 v9 0).bind fun v10 =>
 (ibin .lss v10 a1).bind fun v11 =>
 some [v11]) (fun _ =>
 some [(.bool false)])).bind fun v12 =>
 icond (nth v12 0) (fun _ =>
 (ibin .add (nth v6 0) (.int .i64 1)).bind fun v13 =>
 some (.next [v13])) (fun _ =>
 some (.done 0 [(nth v6 0)]))
def ref12_Set_s (a0 a1 a2 a3 a4 : IV) : Option (List IV) :=
 (ref12_place_s a0 a1).bind fun v1 =>
 (ibin .geq (nth v1 0) (.int .i64 0)).bind fun v2 =>
 icond v2 (fun _ =>
 (iapp 4 40 (.lst []) a0).bind fun v3 =>
 (ibidx (llen v3) (nth v1 0)).bind fun v4 =>
 (iset v3 v4 0 [a1, a2, a3, a4]).bind fun v5 =>
 some [v5]) (fun _ =>
 (iter rounds (ref12_Set_l7 a0 a1) [(.int .i64 0)]).bind fun v14 =>
 sel v14.1 [(islcL 4 a0 none (some (nth v14.2 0))).bind fun v15 =>
 (iapp 4 40 (.lst []) v15).bind fun v16 =>
 (iapp 4 40 v16 (.lst [[a1, a2, a3, a4]])).bind fun v17 =>
 (islcL 4 a0 (some (nth v14.2 0)) none).bind fun v18 =>
 (iapp 4 40 v17 v18).bind fun v19 =>
 some [v19]])

def ref14_Do_s (a0 a1 a2 a3 a4 a5 a6 : IV) : Option (List IV) :=
 (ref14_Barred_s a0 a1 a2 a3 a4 a5 a6).bind fun v1 =>
 icond (nth v1 0) (fun _ =>
 some [a0, (.bool false)]) (fun _ =>
 (ref13_Row_s a1 a2 a3 a4 a5 a6).bind fun v2 =>
 (ref12_Set_s a0 (nth v2 0) (nth v2 1) (nth v2 2) (nth v2 3)).bind fun v3 =>
 some [(nth v3 0), (.bool true)])

def ref14_All_l3 (a1 : IV) (v1 : List IV) : Option SR :=
 (ilenL a1).bind fun v2 =>
 (ibin .lss (nth v1 1) v2).bind fun v3 =>
 icond v3 (fun _ =>
 (iidx a1 (nth v1 1) 6).bind fun v4 =>
 (ildN a1 v4 0 6).bind fun v5 =>
 (ref14_Do_s (nth v1 0) (nth v5 0) (nth v5 1) (nth v5 2) (nth v5 3) (nth v5 4) (nth v5 5)).bind fun v6 =>
 (ibin .add (nth v1 1) (.int .i64 1)).bind fun v7 =>
 some (.next [(nth v6 0), v7])) (fun _ =>
 some (.done 0 [(nth v1 0)]))
def ref14_All_s (a0 a1 : IV) : Option (List IV) :=
 (iter rounds (ref14_All_l3 a1) [a0, (.int .i64 0)]).bind fun v8 =>
 sel v8.1 [some [(nth v8.2 0)]]

def ref18_Prune_s (a0 a1 a2 a3 a4 a5 a6 : IV) : Option (List IV) :=
 ((ref18_May_s a0 a1 a2 a3 a4).bind fun v1 =>
 (iun .not (nth v1 0)).bind fun v2 =>
 icond v2 (fun _ =>
 some [(.bool true)]) (fun _ =>
 (ref13_Time_s a5 a6).bind fun v3 =>
 (iun .not (nth v3 0)).bind fun v4 =>
 icond v4 (fun _ =>
 some [(.bool true)]) (fun _ =>
 (ref17_Get_s a4 a6).bind fun v5 =>
 (ibin .gtr a5 (nth v5 0)).bind fun v6 =>
 some [v6]))).bind fun v7 =>
 icond (nth v7 0) (fun _ =>
 some [a0, a1, a2, a3, a4, (.int .i64 1)]) (fun _ =>
 (ref02_Before_s a1 a2 a5 a6).bind fun v8 =>
 (iun .not (nth v8 0)).bind fun v9 =>
 icond v9 (fun _ =>
 some [a0, a1, a2, a3, a4, (.int .i64 0)]) (fun _ =>
 (ref13_Since_s a3 a5 a6).bind fun v10 =>
 (ilenL a3).bind fun v11 =>
 (ilenL (nth v10 0)).bind fun v12 =>
 (ibin .sub v11 v12).bind fun v13 =>
 (islcL 6 a3 none (some v13)).bind fun v14 =>
 (ref14_All_s a0 v14).bind fun v15 =>
 some [(nth v15 0), a5, a6, (nth v10 0), a4, (.int .i64 0)]))

def ref18_Tree_s (a0 a1 a2 a3 a4 : IV) : Option (List IV) :=
 (ref14_All_s a0 a3).bind fun v1 =>
 some [(nth v1 0)]

def ref01_None_s : Option (List IV) :=
 scal [(.int .u64 9221120237041090560)]

def ref01_Minus_s (a0 : IV) : Option (List IV) :=
 ((ibin .lss a0 (.flt .f64 0)).bind fun v1 =>
 icond v1 (fun _ =>
 some [(.bool true)]) (fun _ =>
 (ibin .eql a0 (.flt .f64 0)).bind fun v2 =>
 icond v2 (fun _ =>
 (ibin .quo (.flt .f64 4607182418800017408) a0).bind fun v3 =>
 (ibin .lss v3 (.flt .f64 0)).bind fun v4 =>
 some [v4]) (fun _ =>
 some [(.bool false)]))).bind fun v5 =>
 scal [(nth v5 0)]

def ref01_top_s : Option (List IV) :=
 scal [(.int .u64 9223372036854775808)]

def ref01_Bits_l12 (v10 : List IV) : Option SR :=
 (ibin .geq (nth v10 0) (.flt .f64 4611686018427387904)).bind fun v11 =>
 icond v11 (fun _ =>
 (ibin .mul (nth v10 0) (.flt .f64 4602678819172646912)).bind fun v12 =>
 (ibin .add (nth v10 1) (.int .u64 1)).bind fun v13 =>
 some (.next [v12, v13])) (fun _ =>
 some (.done 0 [(nth v10 0), (nth v10 1)]))
def ref01_Bits_l15 (v15 : List IV) : Option SR :=
 ((ibin .lss (nth v15 0) (.flt .f64 4607182418800017408)).bind fun v16 =>
 icond v16 (fun _ =>
 (ibin .gtr (nth v15 1) (.int .u64 1)).bind fun v17 =>
 some [v17]) (fun _ =>
 some [(.bool false)])).bind fun v18 =>
 icond (nth v18 0) (fun _ =>
 (ibin .mul (nth v15 0) (.flt .f64 4611686018427387904)).bind fun v19 =>
 (ibin .sub (nth v15 1) (.int .u64 1)).bind fun v20 =>
 some (.next [v19, v20])) (fun _ =>
 some (.done 0 [(nth v15 0), (nth v15 1)]))
def ref01_Bits_l22 (v23 : List IV) : Option SR :=
 (ibin .lss (nth v23 1) (.int .i64 52)).bind fun v24 =>
 icond v24 (fun _ =>
 (ibin .mul (nth v23 0) (.flt .f64 4611686018427387904)).bind fun v25 =>
 (ibin .add (nth v23 1) (.int .i64 1)).bind fun v26 =>
 some (.next [v25, v26])) (fun _ =>
 some (.done 0 [(nth v23 0)]))
def ref01_Bits_l22_2 (v33 : List IV) : Option SR :=
 (ibin .lss (nth v33 1) (.int .i64 52)).bind fun v34 =>
 icond v34 (fun _ =>
 (ibin .mul (nth v33 0) (.flt .f64 4611686018427387904)).bind fun v35 =>
 (ibin .add (nth v33 1) (.int .i64 1)).bind fun v36 =>
 some (.next [v35, v36])) (fun _ =>
 some (.done 0 [(nth v33 0)]))
def ref01_Bits_l12_2 (v46 : List IV) : Option SR :=
 (ibin .geq (nth v46 0) (.flt .f64 4611686018427387904)).bind fun v47 =>
 icond v47 (fun _ =>
 (ibin .mul (nth v46 0) (.flt .f64 4602678819172646912)).bind fun v48 =>
 (ibin .add (nth v46 1) (.int .u64 1)).bind fun v49 =>
 some (.next [v48, v49])) (fun _ =>
 some (.done 0 [(nth v46 0), (nth v46 1)]))
def ref01_Bits_l15_2 (v51 : List IV) : Option SR :=
 ((ibin .lss (nth v51 0) (.flt .f64 4607182418800017408)).bind fun v52 =>
 icond v52 (fun _ =>
 (ibin .gtr (nth v51 1) (.int .u64 1)).bind fun v53 =>
 some [v53]) (fun _ =>
 some [(.bool false)])).bind fun v54 =>
 icond (nth v54 0) (fun _ =>
 (ibin .mul (nth v51 0) (.flt .f64 4611686018427387904)).bind fun v55 =>
 (ibin .sub (nth v51 1) (.int .u64 1)).bind fun v56 =>
 some (.next [v55, v56])) (fun _ =>
 some (.done 0 [(nth v51 0), (nth v51 1)]))
def ref01_Bits_l22_3 (v59 : List IV) : Option SR :=
 (ibin .lss (nth v59 1) (.int .i64 52)).bind fun v60 =>
 icond v60 (fun _ =>
 (ibin .mul (nth v59 0) (.flt .f64 4611686018427387904)).bind fun v61 =>
 (ibin .add (nth v59 1) (.int .i64 1)).bind fun v62 =>
 some (.next [v61, v62])) (fun _ =>
 some (.done 0 [(nth v59 0)]))
def ref01_Bits_l22_4 (v69 : List IV) : Option SR :=
 (ibin .lss (nth v69 1) (.int .i64 52)).bind fun v70 =>
 icond v70 (fun _ =>
 (ibin .mul (nth v69 0) (.flt .f64 4611686018427387904)).bind fun v71 =>
 (ibin .add (nth v69 1) (.int .i64 1)).bind fun v72 =>
 some (.next [v71, v72])) (fun _ =>
 some (.done 0 [(nth v69 0)]))
def ref01_Bits_s (a0 : IV) : Option (List IV) :=
 (ibin .neq a0 a0).bind fun v1 =>
 icond v1 (fun _ =>
 (ref01_None_s).bind fun v2 =>
 scal [(nth v2 0)]) (fun _ =>
 (ref01_Minus_s a0).bind fun v3 =>
 icond (nth v3 0) (fun _ =>
 (ref01_top_s).bind fun v4 =>
 (iun .neg a0).bind fun v5 =>
 (ibin .eql v5 (.flt .f64 0)).bind fun v6 =>
 icond v6 (fun _ =>
 scal [(nth v4 0)]) (fun _ =>
 (ibin .mul v5 (.flt .f64 4611686018427387904)).bind fun v7 =>
 (ibin .eql v7 v5).bind fun v8 =>
 icond v8 (fun _ =>
 (ibin .add (nth v4 0) (.int .u64 9218868437227405312)).bind fun v9 =>
 scal [v9]) (fun _ =>
 (iter rounds (ref01_Bits_l12) [v5, (.int .u64 1023)]).bind fun v14 =>
 sel v14.1 [(iter rounds (ref01_Bits_l15) [(nth v14.2 0), (nth v14.2 1)]).bind fun v21 =>
 sel v21.1 [(ibin .lss (nth v21.2 0) (.flt .f64 4607182418800017408)).bind fun v22 =>
 icond v22 (fun _ =>
 (iter rounds (ref01_Bits_l22) [(nth v21.2 0), (.int .i64 0)]).bind fun v27 =>
 sel v27.1 [(ibin .shl (.int .u64 0) (.int .u64 52)).bind fun v28 =>
 (ibin .add (nth v4 0) v28).bind fun v29 =>
 (icfi .u64 (nth v27.2 0)).bind fun v30 =>
 (ibin .add v29 v30).bind fun v31 =>
 scal [v31]]) (fun _ =>
 (ibin .sub (nth v21.2 0) (.flt .f64 4607182418800017408)).bind fun v32 =>
 (iter rounds (ref01_Bits_l22_2) [v32, (.int .i64 0)]).bind fun v37 =>
 sel v37.1 [(ibin .shl (nth v21.2 1) (.int .u64 52)).bind fun v38 =>
 (ibin .add (nth v4 0) v38).bind fun v39 =>
 (icfi .u64 (nth v37.2 0)).bind fun v40 =>
 (ibin .add v39 v40).bind fun v41 =>
 scal [v41]])]]))) (fun _ =>
 (ibin .eql a0 (.flt .f64 0)).bind fun v42 =>
 icond v42 (fun _ =>
 scal [(.int .u64 0)]) (fun _ =>
 (ibin .mul a0 (.flt .f64 4611686018427387904)).bind fun v43 =>
 (ibin .eql v43 a0).bind fun v44 =>
 icond v44 (fun _ =>
 (ibin .add (.int .u64 0) (.int .u64 9218868437227405312)).bind fun v45 =>
 scal [v45]) (fun _ =>
 (iter rounds (ref01_Bits_l12_2) [a0, (.int .u64 1023)]).bind fun v50 =>
 sel v50.1 [(iter rounds (ref01_Bits_l15_2) [(nth v50.2 0), (nth v50.2 1)]).bind fun v57 =>
 sel v57.1 [(ibin .lss (nth v57.2 0) (.flt .f64 4607182418800017408)).bind fun v58 =>
 icond v58 (fun _ =>
 (iter rounds (ref01_Bits_l22_3) [(nth v57.2 0), (.int .i64 0)]).bind fun v63 =>
 sel v63.1 [(ibin .shl (.int .u64 0) (.int .u64 52)).bind fun v64 =>
 (ibin .add (.int .u64 0) v64).bind fun v65 =>
 (icfi .u64 (nth v63.2 0)).bind fun v66 =>
 (ibin .add v65 v66).bind fun v67 =>
 scal [v67]]) (fun _ =>
 (ibin .sub (nth v57.2 0) (.flt .f64 4607182418800017408)).bind fun v68 =>
 (iter rounds (ref01_Bits_l22_4) [v68, (.int .i64 0)]).bind fun v73 =>
 sel v73.1 [(ibin .shl (nth v57.2 1) (.int .u64 52)).bind fun v74 =>
 (ibin .add (.int .u64 0) v74).bind fun v75 =>
 (icfi .u64 (nth v73.2 0)).bind fun v76 =>
 (ibin .add v75 v76).bind fun v77 =>
 scal [v77]])]]))))

def ref01_Same_s (a0 a1 : IV) : Option (List IV) :=
 (ref01_Bits_s a0).bind fun v1 =>
 (ref01_Bits_s a1).bind fun v2 =>
 (ibin .eql (nth v1 0) (nth v2 0)).bind fun v3 =>
 scal [v3]

def ref12_Alike_s (a0 a1 a2 a3 a4 a5 a6 a7 : IV) : Option (List IV) :=
 ((ibin .eql a0 a4).bind fun v1 =>
 icond v1 (fun _ =>
 (ibin .eql a1 a5).bind fun v2 =>
 icond v2 (fun _ =>
 (ibin .eql a2 a6).bind fun v3 =>
 icond v3 (fun _ =>
 (ref01_Same_s a3 a7).bind fun v4 =>
 some [(nth v4 0)]) (fun _ =>
 some [(.bool false)])) (fun _ =>
 some [(.bool false)])) (fun _ =>
 some [(.bool false)])).bind fun v5 =>
 scal [(nth v5 0)]

def ref12_Same_l4 (a0 : IV) (a1 : IV) (v4 : List IV) : Option SR :=
 (ilenL a0).bind fun v5 =>
 (ibin .lss (nth v4 0) v5).bind fun v6 =>
 icond v6 (fun _ =>
 (iidx a0 (nth v4 0) 4).bind fun v7 =>
 (ildN a0 v7 0 4).bind fun v8 =>
 (iidx a1 (nth v4 0) 4).bind fun v9 =>
 (ildN a1 v9 0 4).bind fun v10 =>
 (ref12_Alike_s (nth v8 0) (nth v8 1) (nth v8 2) (nth v8 3) (nth v10 0) (nth v10 1) (nth v10 2) (nth v10 3)).bind fun v11 =>
 (iun .not (nth v11 0)).bind fun v12 =>
 icond v12 (fun _ =>
 some (.done 1 [(.bool false)])) (fun _ =>
 (ibin .add (nth v4 0) (.int .i64 1)).bind fun v13 =>
 some (.next [v13]))) (fun _ =>
 some (.done 0 []))
def ref12_Same_s (a0 a1 : IV) : Option (List IV) :=
 (ilenL a0).bind fun v1 =>
 (ilenL a1).bind fun v2 =>
 (ibin .neq v1 v2).bind fun v3 =>
 icond v3 (fun _ =>
 scal [(.bool false)]) (fun _ =>
 (iter rounds (ref12_Same_l4 a0 a1) [(.int .i64 0)]).bind fun v14 =>
 sel v14.1 [scal [(.bool true)],
 scal [(nth v14.2 0)]])

def ref13_Alike_s (a0 a1 a2 a3 a4 a5 a6 a7 a8 a9 a10 a11 : IV) : Option (List IV) :=
 ((ieqs .eql [.i, .i] [a0, a1] [a6, a7]).bind fun v1 =>
 icond v1 (fun _ =>
 (ref13_Row_s a0 a1 a2 a3 a4 a5).bind fun v2 =>
 (ref13_Row_s a6 a7 a8 a9 a10 a11).bind fun v3 =>
 (ref12_Alike_s (nth v2 0) (nth v2 1) (nth v2 2) (nth v2 3) (nth v3 0) (nth v3 1) (nth v3 2) (nth v3 3)).bind fun v4 =>
 some [(nth v4 0)]) (fun _ =>
 some [(.bool false)])).bind fun v5 =>
 scal [(nth v5 0)]

def ref13_Same_l4 (a0 : IV) (a1 : IV) (v4 : List IV) : Option SR :=
 (ilenL a0).bind fun v5 =>
 (ibin .lss (nth v4 0) v5).bind fun v6 =>
 icond v6 (fun _ =>
 (iidx a0 (nth v4 0) 6).bind fun v7 =>
 (ildN a0 v7 0 6).bind fun v8 =>
 (iidx a1 (nth v4 0) 6).bind fun v9 =>
 (ildN a1 v9 0 6).bind fun v10 =>
 (ref13_Alike_s (nth v8 0) (nth v8 1) (nth v8 2) (nth v8 3) (nth v8 4) (nth v8 5) (nth v10 0) (nth v10 1) (nth v10 2) (nth v10 3) (nth v10 4) (nth v10 5)).bind fun v11 =>
 (iun .not (nth v11 0)).bind fun v12 =>
 icond v12 (fun _ =>
 some (.done 1 [(.bool false)])) (fun _ =>
 (ibin .add (nth v4 0) (.int .i64 1)).bind fun v13 =>
 some (.next [v13]))) (fun _ =>
 some (.done 0 []))
def ref13_Same_s (a0 a1 : IV) : Option (List IV) :=
 (ilenL a0).bind fun v1 =>
 (ilenL a1).bind fun v2 =>
 (ibin .neq v1 v2).bind fun v3 =>
 icond v3 (fun _ =>
 scal [(.bool false)]) (fun _ =>
 (iter rounds (ref13_Same_l4 a0 a1) [(.int .i64 0)]).bind fun v14 =>
 sel v14.1 [scal [(.bool true)],
 scal [(nth v14.2 0)]])

def ref17_Same_l4 (a0 : IV) (a1 : IV) (v4 : List IV) : Option SR :=
 (ilenL a0).bind fun v5 =>
 (ibin .lss (nth v4 0) v5).bind fun v6 =>
 icond v6 (fun _ =>
 (iidx a0 (nth v4 0) 2).bind fun v7 =>
 (ildN a0 v7 0 2).bind fun v8 =>
 (iidx a1 (nth v4 0) 2).bind fun v9 =>
 (ildN a1 v9 0 2).bind fun v10 =>
 (ieqs .neq [.i, .i] [(nth v8 0), (nth v8 1)] [(nth v10 0), (nth v10 1)]).bind fun v11 =>
 icond v11 (fun _ =>
 some (.done 1 [(.bool false)])) (fun _ =>
 (ibin .add (nth v4 0) (.int .i64 1)).bind fun v12 =>
 some (.next [v12]))) (fun _ =>
 some (.done 0 []))
def ref17_Same_s (a0 a1 : IV) : Option (List IV) :=
 (ilenL a0).bind fun v1 =>
 (ilenL a1).bind fun v2 =>
 (ibin .neq v1 v2).bind fun v3 =>
 icond v3 (fun _ =>
 scal [(.bool false)]) (fun _ =>
 (iter rounds (ref17_Same_l4 a0 a1) [(.int .i64 0)]).bind fun v13 =>
 sel v13.1 [scal [(.bool true)],
 scal [(nth v13.2 0)]])

def ref18_Same_s (a0 a1 a2 a3 a4 a5 a6 a7 a8 a9 : IV) : Option (List IV) :=
 ((ref12_Same_s a0 a5).bind fun v1 =>
 icond (nth v1 0) (fun _ =>
 (ieqs .eql [.i, .i] [a1, a2] [a6, a7]).bind fun v2 =>
 icond v2 (fun _ =>
 (ref13_Same_s a3 a8).bind fun v3 =>
 icond (nth v3 0) (fun _ =>
 (ref17_Same_s a4 a9).bind fun v4 =>
 some [(nth v4 0)]) (fun _ =>
 some [(.bool false)])) (fun _ =>
 some [(.bool false)])) (fun _ =>
 some [(.bool false)])).bind fun v5 =>
 scal [(nth v5 0)]

def law18_FloorTells_s (a0 a1 a2 a3 a4 a5 a6 a7 a8 a9 a10 a11 a12 a13 a14 a15 : IV) : Option (List IV) :=
 ((ref18_Few_s a0 a1 a2 a3 a4).bind fun v1 =>
 (iun .not (nth v1 0)).bind fun v2 =>
 icond v2 (fun _ =>
 some [(.bool true)]) (fun _ =>
 (ref18_Few_s a5 a6 a7 a8 a9).bind fun v3 =>
 (iun .not (nth v3 0)).bind fun v4 =>
 icond v4 (fun _ =>
 some [(.bool true)]) (fun _ =>
 (ilenS a14).bind fun v5 =>
 (ibin .gtr v5 (.int .i64 100)).bind fun v6 =>
 some [v6]))).bind fun v7 =>
 icond (nth v7 0) (fun _ =>
 (law18_live_s).bind fun v8 =>
 scal [(nth v8 0)]) (fun _ =>
 (floor_Add_s a0 a1 a2 a3 a4 a10 a11 a12 a13 a14 a15).bind fun v9 =>
 (ref18_Add_s a0 a1 a2 a3 a4 a10 a11 a12 a13 a14 a15).bind fun v10 =>
 (floor_Prune_s a0 a1 a2 a3 a4 a10 a11).bind fun v11 =>
 (ref18_Prune_s a0 a1 a2 a3 a4 a10 a11).bind fun v12 =>
 ((floor_May_s a0 a1 a2 a3 a4).bind fun v13 =>
 (ref18_May_s a0 a1 a2 a3 a4).bind fun v14 =>
 (ibinB .eql (nth v13 0) (nth v14 0)).bind fun v15 =>
 icond v15 (fun _ =>
 (floor_Tree_s a0 a1 a2 a3 a4).bind fun v16 =>
 (ref18_Tree_s a0 a1 a2 a3 a4).bind fun v17 =>
 (ref12_Same_s (nth v16 0) (nth v17 0)).bind fun v18 =>
 icond (nth v18 0) (fun _ =>
 (floor_Same_s a0 a1 a2 a3 a4 a5 a6 a7 a8 a9).bind fun v19 =>
 (ref18_Same_s a0 a1 a2 a3 a4 a5 a6 a7 a8 a9).bind fun v20 =>
 (ibinB .eql (nth v19 0) (nth v20 0)).bind fun v21 =>
 icond v21 (fun _ =>
 (ref18_Same_s (nth v9 0) (nth v9 1) (nth v9 2) (nth v9 3) (nth v9 4) (nth v10 0) (nth v10 1) (nth v10 2) (nth v10 3) (nth v10 4)).bind fun v22 =>
 icond (nth v22 0) (fun _ =>
 (ibinB .eql (nth v9 5) (nth v10 5)).bind fun v23 =>
 icond v23 (fun _ =>
 (ibin .eql (nth v9 6) (nth v10 6)).bind fun v24 =>
 icond v24 (fun _ =>
 (ref18_Same_s (nth v11 0) (nth v11 1) (nth v11 2) (nth v11 3) (nth v11 4) (nth v12 0) (nth v12 1) (nth v12 2) (nth v12 3) (nth v12 4)).bind fun v25 =>
 icond (nth v25 0) (fun _ =>
 (ibin .eql (nth v11 5) (nth v12 5)).bind fun v26 =>
 icond v26 (fun _ =>
 (law18_live_s).bind fun v27 =>
 some [(nth v27 0)]) (fun _ =>
 some [(.bool false)])) (fun _ =>
 some [(.bool false)])) (fun _ =>
 some [(.bool false)])) (fun _ =>
 some [(.bool false)])) (fun _ =>
 some [(.bool false)])) (fun _ =>
 some [(.bool false)])) (fun _ =>
 some [(.bool false)])) (fun _ =>
 some [(.bool false)])).bind fun v28 =>
 scal [(nth v28 0)])

def ref18_Merge_l3 (a5 : IV) (a0 : IV) (a1 : IV) (a2 : IV) (a3 : IV) (a4 : IV) (v1 : List IV) : Option SR :=
 (ilenL a5).bind fun v2 =>
 (ibin .lss (nth v1 10) v2).bind fun v3 =>
 icond v3 (fun _ =>
 (iidx a5 (nth v1 10) 6).bind fun v4 =>
 (ildN a5 v4 0 6).bind fun v5 =>
 (ref18_Add_s (nth v1 5) (nth v1 6) (nth v1 7) (nth v1 8) (nth v1 9) (nth v5 0) (nth v5 1) (nth v5 2) (nth v5 3) (nth v5 4) (nth v5 5)).bind fun v6 =>
 (ibin .neq (nth v6 6) (.int .i64 0)).bind fun v7 =>
 icond v7 (fun _ =>
 some (.done 1 [a0, a1, a2, a3, a4, (nth v6 6)])) (fun _ =>
 (ibin .add (nth v1 10) (.int .i64 1)).bind fun v8 =>
 some (.next [(nth v1 0), (nth v1 1), (nth v1 2), (nth v1 3), (nth v1 4), (nth v6 0), (nth v6 1), (nth v6 2), (nth v6 3), (nth v6 4), v8]))) (fun _ =>
 some (.done 0 [(nth v1 0), (nth v1 1), (nth v1 2), (nth v1 3), (nth v1 4), (nth v1 5), (nth v1 6), (nth v1 7), (nth v1 8), (nth v1 9)]))
def ref18_Merge_s (a0 a1 a2 a3 a4 a5 : IV) : Option (List IV) :=
 (iter rounds (ref18_Merge_l3 a5 a0 a1 a2 a3 a4) [(.lst []), (.int .i64 0), (.int .i64 0), (.lst []), (.lst []), a0, a1, a2, a3, a4, (.int .i64 0)]).bind fun v9 =>
 sel v9.1 [some [(nth v9.2 5), (nth v9.2 6), (nth v9.2 7), (nth v9.2 8), (nth v9.2 9), (.int .i64 0)],
 some [(nth v9.2 0), (nth v9.2 1), (nth v9.2 2), (nth v9.2 3), (nth v9.2 4), (nth v9.2 5)]]

def law18_FloorMerges_s (a0 a1 a2 a3 a4 a5 : IV) : Option (List IV) :=
 ((ref18_Few_s a0 a1 a2 a3 a4).bind fun v1 =>
 (iun .not (nth v1 0)).bind fun v2 =>
 icond v2 (fun _ =>
 some [(.bool true)]) (fun _ =>
 (ref13_Few_s a5 (.int .i64 20)).bind fun v3 =>
 (iun .not (nth v3 0)).bind fun v4 =>
 some [v4])).bind fun v5 =>
 icond (nth v5 0) (fun _ =>
 (law18_live_s).bind fun v6 =>
 scal [(nth v6 0)]) (fun _ =>
 (floor_Merge_s a0 a1 a2 a3 a4 a5).bind fun v7 =>
 (ref18_Merge_s a0 a1 a2 a3 a4 a5).bind fun v8 =>
 ((ref18_Same_s (nth v7 0) (nth v7 1) (nth v7 2) (nth v7 3) (nth v7 4) (nth v8 0) (nth v8 1) (nth v8 2) (nth v8 3) (nth v8 4)).bind fun v9 =>
 icond (nth v9 0) (fun _ =>
 (ibin .eql (nth v7 5) (nth v8 5)).bind fun v10 =>
 icond v10 (fun _ =>
 (law18_live_s).bind fun v11 =>
 some [(nth v11 0)]) (fun _ =>
 some [(.bool false)])) (fun _ =>
 some [(.bool false)])).bind fun v12 =>
 scal [(nth v12 0)])

def law18_FloorMay_s (a0 a1 a2 a3 a4 a5 a6 a7 a8 a9 a10 a11 a12 : IV) : Option (List IV) :=
 ((ref18_Few_s a0 a1 a2 a3 a4).bind fun v1 =>
 (iun .not (nth v1 0)).bind fun v2 =>
 icond v2 (fun _ =>
 some [(.bool true)]) (fun _ =>
 (ilenS a9).bind fun v3 =>
 (ibin .gtr v3 (.int .i64 100)).bind fun v4 =>
 icond v4 (fun _ =>
 some [(.bool true)]) (fun _ =>
 (ref18_May_s a0 a1 a2 a3 a4).bind fun v5 =>
 (iun .not (nth v5 0)).bind fun v6 =>
 some [v6]))).bind fun v7 =>
 icond (nth v7 0) (fun _ =>
 (law18_live_s).bind fun v8 =>
 scal [(nth v8 0)]) (fun _ =>
 (floor_Add_s a0 a1 a2 a3 a4 a5 a6 a7 a8 a9 a10).bind fun v9 =>
 (floor_Prune_s (nth v9 0) (nth v9 1) (nth v9 2) (nth v9 3) (nth v9 4) a11 a12).bind fun v10 =>
 ((floor_May_s (nth v9 0) (nth v9 1) (nth v9 2) (nth v9 3) (nth v9 4)).bind fun v11 =>
 (iun .not (nth v11 0)).bind fun v12 =>
 icond v12 (fun _ =>
 some [(.bool true)]) (fun _ =>
 (floor_May_s (nth v10 0) (nth v10 1) (nth v10 2) (nth v10 3) (nth v10 4)).bind fun v13 =>
 (iun .not (nth v13 0)).bind fun v14 =>
 icond v14 (fun _ =>
 some [(.bool true)]) (fun _ =>
 (ibin .neq (nth v9 6) (.int .i64 0)).bind fun v15 =>
 icond v15 (fun _ =>
 icond (nth v9 5) (fun _ =>
 some [(.bool true)]) (fun _ =>
 (ref18_Same_s (nth v9 0) (nth v9 1) (nth v9 2) (nth v9 3) (nth v9 4) a0 a1 a2 a3 a4).bind fun v16 =>
 (iun .not (nth v16 0)).bind fun v17 =>
 icond v17 (fun _ =>
 some [(.bool true)]) (fun _ =>
 (ibin .neq (nth v10 5) (.int .i64 0)).bind fun v18 =>
 icond v18 (fun _ =>
 (ref18_Same_s (nth v10 0) (nth v10 1) (nth v10 2) (nth v10 3) (nth v10 4) (nth v9 0) (nth v9 1) (nth v9 2) (nth v9 3) (nth v9 4)).bind fun v19 =>
 (iun .not (nth v19 0)).bind fun v20 =>
 some [v20]) (fun _ =>
 some [(.bool false)])))) (fun _ =>
 (ibin .neq (nth v10 5) (.int .i64 0)).bind fun v21 =>
 icond v21 (fun _ =>
 (ref18_Same_s (nth v10 0) (nth v10 1) (nth v10 2) (nth v10 3) (nth v10 4) (nth v9 0) (nth v9 1) (nth v9 2) (nth v9 3) (nth v9 4)).bind fun v22 =>
 (iun .not (nth v22 0)).bind fun v23 =>
 some [v23]) (fun _ =>
 some [(.bool false)]))))).bind fun v24 =>
 icond (nth v24 0) (fun _ =>
 scal [(.bool false)]) (fun _ =>
 ((ref13_One_s a5 a6 a7 a8 a9 a10).bind fun v25 =>
 icond (nth v25 0) (fun _ =>
 (ibin .eql (nth v9 6) (.int .i64 9)).bind fun v26 =>
 (ref02_Before_s a1 a2 a5 a6).bind fun v27 =>
 (iun .not (nth v27 0)).bind fun v28 =>
 (ibinB .neq v26 v28).bind fun v29 =>
 some [v29]) (fun _ =>
 some [(.bool false)])).bind fun v30 =>
 icond (nth v30 0) (fun _ =>
 scal [(.bool false)]) (fun _ =>
 ((ibin .eql (nth v9 6) (.int .i64 0)).bind fun v31 =>
 icond v31 (fun _ =>
 (marks_Get_s (nth v9 4) a6).bind fun v32 =>
 (ibin .lss (nth v32 0) a5).bind fun v33 =>
 icond v33 (fun _ =>
 some [(.bool true)]) (fun _ =>
 (ilenL (nth v9 3)).bind fun v34 =>
 (ilenL a3).bind fun v35 =>
 (ibin .lss v34 v35).bind fun v36 =>
 some [v36])) (fun _ =>
 some [(.bool false)])).bind fun v37 =>
 icond (nth v37 0) (fun _ =>
 scal [(.bool false)]) (fun _ =>
 ((marks_Below_s a4 (nth v10 4)).bind fun v38 =>
 icond (nth v38 0) (fun _ =>
 (ref02_Before_s (nth v10 1) (nth v10 2) a1 a2).bind fun v39 =>
 (iun .not (nth v39 0)).bind fun v40 =>
 icond v40 (fun _ =>
 (law18_live_s).bind fun v41 =>
 some [(nth v41 0)]) (fun _ =>
 some [(.bool false)])) (fun _ =>
 some [(.bool false)])).bind fun v42 =>
 scal [(nth v42 0)]))))

def law18_FloorKeeps_l11 (a7 : IV) (v9 : List IV) (v21 : List IV) : Option SR :=
 (ilenL a7).bind fun v22 =>
 (ibin .lss (nth v21 10) v22).bind fun v23 =>
 icond v23 (fun _ =>
 (iidx a7 (nth v21 10) 6).bind fun v24 =>
 (ildN a7 v24 0 2).bind fun v25 =>
 (ref02_Before_s (nth v9 1) (nth v9 2) (nth v25 0) (nth v25 1)).bind fun v26 =>
 (iun .not (nth v26 0)).bind fun v27 =>
 icond v27 (fun _ =>
 (iidx a7 (nth v21 10) 6).bind fun v28 =>
 (ildN a7 v28 0 6).bind fun v29 =>
 (floor_Add_s (nth v21 5) (nth v21 6) (nth v21 7) (nth v21 8) (nth v21 9) (nth v29 0) (nth v29 1) (nth v29 2) (nth v29 3) (nth v29 4) (nth v29 5)).bind fun v30 =>
 ((iidx a7 (nth v21 10) 6).bind fun v31 =>
 (ildN a7 v31 0 6).bind fun v32 =>
 (ref13_One_s (nth v32 0) (nth v32 1) (nth v32 2) (nth v32 3) (nth v32 4) (nth v32 5)).bind fun v33 =>
 icond (nth v33 0) (fun _ =>
 (ibin .neq (nth v30 6) (.int .i64 9)).bind fun v34 =>
 some [v34]) (fun _ =>
 some [(.bool false)])).bind fun v35 =>
 icond (nth v35 0) (fun _ =>
 some (.done 1 [(.bool false)])) (fun _ =>
 (ibin .add (nth v21 10) (.int .i64 1)).bind fun v36 =>
 some (.next [(nth v21 0), (nth v21 1), (nth v21 2), (nth v21 3), (nth v21 4), (nth v21 5), (nth v21 6), (nth v21 7), (nth v21 8), (nth v21 9), v36]))) (fun _ =>
 (iidx a7 (nth v21 10) 6).bind fun v37 =>
 (ildN a7 v37 0 6).bind fun v38 =>
 (floor_Add_s (nth v21 0) (nth v21 1) (nth v21 2) (nth v21 3) (nth v21 4) (nth v38 0) (nth v38 1) (nth v38 2) (nth v38 3) (nth v38 4) (nth v38 5)).bind fun v39 =>
 (iidx a7 (nth v21 10) 6).bind fun v40 =>
 (ildN a7 v40 0 6).bind fun v41 =>
 (floor_Add_s (nth v21 5) (nth v21 6) (nth v21 7) (nth v21 8) (nth v21 9) (nth v41 0) (nth v41 1) (nth v41 2) (nth v41 3) (nth v41 4) (nth v41 5)).bind fun v42 =>
 ((ibinB .neq (nth v39 5) (nth v42 5)).bind fun v43 =>
 icond v43 (fun _ =>
 some [(.bool true)]) (fun _ =>
 (ibin .neq (nth v39 6) (nth v42 6)).bind fun v44 =>
 icond v44 (fun _ =>
 some [(.bool true)]) (fun _ =>
 (floor_Tree_s (nth v39 0) (nth v39 1) (nth v39 2) (nth v39 3) (nth v39 4)).bind fun v45 =>
 (floor_Tree_s (nth v42 0) (nth v42 1) (nth v42 2) (nth v42 3) (nth v42 4)).bind fun v46 =>
 (ref12_Same_s (nth v45 0) (nth v46 0)).bind fun v47 =>
 (iun .not (nth v47 0)).bind fun v48 =>
 some [v48]))).bind fun v49 =>
 icond (nth v49 0) (fun _ =>
 some (.done 1 [(.bool false)])) (fun _ =>
 (ibin .add (nth v21 10) (.int .i64 1)).bind fun v50 =>
 some (.next [(nth v39 0), (nth v39 1), (nth v39 2), (nth v39 3), (nth v39 4), (nth v42 0), (nth v42 1), (nth v42 2), (nth v42 3), (nth v42 4), v50])))) (fun _ =>
 some (.done 0 [(nth v21 0), (nth v21 1), (nth v21 2), (nth v21 3), (nth v21 4), (nth v21 5), (nth v21 6), (nth v21 7), (nth v21 8), (nth v21 9)]))
def law18_FloorKeeps_s (a0 a1 a2 a3 a4 a5 a6 a7 : IV) : Option (List IV) :=
 ((ref18_Few_s a0 a1 a2 a3 a4).bind fun v1 =>
 (iun .not (nth v1 0)).bind fun v2 =>
 icond v2 (fun _ =>
 some [(.bool true)]) (fun _ =>
 (ref13_Few_s a7 (.int .i64 20)).bind fun v3 =>
 (iun .not (nth v3 0)).bind fun v4 =>
 icond v4 (fun _ =>
 some [(.bool true)]) (fun _ =>
 (ref18_May_s a0 a1 a2 a3 a4).bind fun v5 =>
 (iun .not (nth v5 0)).bind fun v6 =>
 some [v6]))).bind fun v7 =>
 icond (nth v7 0) (fun _ =>
 (law18_live_s).bind fun v8 =>
 scal [(nth v8 0)]) (fun _ =>
 (floor_Prune_s a0 a1 a2 a3 a4 a5 a6).bind fun v9 =>
 ((floor_Tree_s (nth v9 0) (nth v9 1) (nth v9 2) (nth v9 3) (nth v9 4)).bind fun v10 =>
 (floor_Tree_s a0 a1 a2 a3 a4).bind fun v11 =>
 (ref12_Same_s (nth v10 0) (nth v11 0)).bind fun v12 =>
 (iun .not (nth v12 0)).bind fun v13 =>
 icond v13 (fun _ =>
 some [(.bool true)]) (fun _ =>
 (ref17_Same_s (nth v9 4) a4).bind fun v14 =>
 (iun .not (nth v14 0)).bind fun v15 =>
 some [v15])).bind fun v16 =>
 icond (nth v16 0) (fun _ =>
 scal [(.bool false)]) (fun _ =>
 (ibin .neq (nth v9 5) (.int .i64 0)).bind fun v17 =>
 icond v17 (fun _ =>
 ((ref18_Same_s (nth v9 0) (nth v9 1) (nth v9 2) (nth v9 3) (nth v9 4) a0 a1 a2 a3 a4).bind fun v18 =>
 icond (nth v18 0) (fun _ =>
 (law18_live_s).bind fun v19 =>
 some [(nth v19 0)]) (fun _ =>
 some [(.bool false)])).bind fun v20 =>
 scal [(nth v20 0)]) (fun _ =>
 (iter rounds (law18_FloorKeeps_l11 a7 v9) [a0, a1, a2, a3, a4, (nth v9 0), (nth v9 1), (nth v9 2), (nth v9 3), (nth v9 4), (.int .i64 0)]).bind fun v51 =>
 sel v51.1 [((ref17_Same_s (nth v51.2 4) (nth v51.2 9)).bind fun v52 =>
 icond (nth v52 0) (fun _ =>
 (law18_live_s).bind fun v53 =>
 some [(nth v53 0)]) (fun _ =>
 some [(.bool false)])).bind fun v54 =>
 scal [(nth v54 0)],
 scal [(nth v51.2 0)]])))

def law18_FloorOrder_l9 (v11 : List IV) (a5 : IV) (v16 : List IV) : Option SR :=
 (ibin .lss (nth v16 0) (nth v11 1)).bind fun v17 =>
 icond v17 (fun _ =>
 ((iidx a5 (nth v16 0) 6).bind fun v18 =>
 (ildN a5 v18 0 2).bind fun v19 =>
 (iidx a5 (nth v11 1) 6).bind fun v20 =>
 (ildN a5 v20 0 2).bind fun v21 =>
 (ieqs .eql [.i, .i] [(nth v19 0), (nth v19 1)] [(nth v21 0), (nth v21 1)]).bind fun v22 =>
 icond v22 (fun _ =>
 (iidx a5 (nth v16 0) 6).bind fun v23 =>
 (ildN a5 v23 0 6).bind fun v24 =>
 (iidx a5 (nth v11 1) 6).bind fun v25 =>
 (ildN a5 v25 0 6).bind fun v26 =>
 (ref13_Alike_s (nth v24 0) (nth v24 1) (nth v24 2) (nth v24 3) (nth v24 4) (nth v24 5) (nth v26 0) (nth v26 1) (nth v26 2) (nth v26 3) (nth v26 4) (nth v26 5)).bind fun v27 =>
 (iun .not (nth v27 0)).bind fun v28 =>
 some [v28]) (fun _ =>
 some [(.bool false)])).bind fun v29 =>
 icond (nth v29 0) (fun _ =>
 (law18_live_s).bind fun v30 =>
 some (.done 1 [(nth v30 0)])) (fun _ =>
 (ibin .add (nth v16 0) (.int .i64 1)).bind fun v31 =>
 some (.next [v31]))) (fun _ =>
 some (.done 0 []))
def law18_FloorOrder_l5 (a5 : IV) (v11 : List IV) : Option SR :=
 (ibin .geq (nth v11 1) (.int .i64 0)).bind fun v12 =>
 icond v12 (fun _ =>
 (iidx a5 (nth v11 1) 6).bind fun v13 =>
 (ildN a5 v13 0 6).bind fun v14 =>
 (iapp 6 56 (nth v11 0) (.lst [[(nth v14 0), (nth v14 1), (nth v14 2), (nth v14 3), (nth v14 4), (nth v14 5)]])).bind fun v15 =>
 (iter rounds (law18_FloorOrder_l9 v11 a5) [(.int .i64 0)]).bind fun v32 =>
 sel v32.1 [(ibin .sub (nth v11 1) (.int .i64 1)).bind fun v33 =>
 some (.next [v15, v33]),
 some (.done 1 [(nth v32.2 0)])]) (fun _ =>
 some (.done 0 [(nth v11 0)]))
def law18_FloorOrder_s (a0 a1 a2 a3 a4 a5 : IV) : Option (List IV) :=
 ((ref18_Few_s a0 a1 a2 a3 a4).bind fun v1 =>
 (iun .not (nth v1 0)).bind fun v2 =>
 icond v2 (fun _ =>
 some [(.bool true)]) (fun _ =>
 (ref13_Few_s a5 (.int .i64 20)).bind fun v3 =>
 (iun .not (nth v3 0)).bind fun v4 =>
 icond v4 (fun _ =>
 some [(.bool true)]) (fun _ =>
 (ref18_May_s a0 a1 a2 a3 a4).bind fun v5 =>
 (iun .not (nth v5 0)).bind fun v6 =>
 some [v6]))).bind fun v7 =>
 icond (nth v7 0) (fun _ =>
 (law18_live_s).bind fun v8 =>
 scal [(nth v8 0)]) (fun _ =>
 (ilenL a5).bind fun v9 =>
 (ibin .sub v9 (.int .i64 1)).bind fun v10 =>
 (iter rounds (law18_FloorOrder_l5 a5) [(.lst []), v10]).bind fun v34 =>
 sel v34.1 [(floor_Merge_s a0 a1 a2 a3 a4 a5).bind fun v35 =>
 (floor_Merge_s a0 a1 a2 a3 a4 (nth v34.2 0)).bind fun v36 =>
 ((ibin .neq (nth v35 5) (.int .i64 0)).bind fun v37 =>
 icond v37 (fun _ =>
 some [(.bool true)]) (fun _ =>
 (ibin .neq (nth v36 5) (.int .i64 0)).bind fun v38 =>
 some [v38])).bind fun v39 =>
 icond (nth v39 0) (fun _ =>
 ((ibin .eql (nth v35 5) (.int .i64 0)).bind fun v40 =>
 (ibin .eql (nth v36 5) (.int .i64 0)).bind fun v41 =>
 (ibinB .eql v40 v41).bind fun v42 =>
 icond v42 (fun _ =>
 (ref18_Same_s (nth v35 0) (nth v35 1) (nth v35 2) (nth v35 3) (nth v35 4) a0 a1 a2 a3 a4).bind fun v43 =>
 icond (nth v43 0) (fun _ =>
 (ref18_Same_s (nth v36 0) (nth v36 1) (nth v36 2) (nth v36 3) (nth v36 4) a0 a1 a2 a3 a4).bind fun v44 =>
 icond (nth v44 0) (fun _ =>
 (law18_live_s).bind fun v45 =>
 some [(nth v45 0)]) (fun _ =>
 some [(.bool false)])) (fun _ =>
 some [(.bool false)])) (fun _ =>
 some [(.bool false)])).bind fun v46 =>
 scal [(nth v46 0)]) (fun _ =>
 (floor_Merge_s (nth v35 0) (nth v35 1) (nth v35 2) (nth v35 3) (nth v35 4) (nth v34.2 0)).bind fun v47 =>
 ((ref18_Same_s (nth v35 0) (nth v35 1) (nth v35 2) (nth v35 3) (nth v35 4) (nth v36 0) (nth v36 1) (nth v36 2) (nth v36 3) (nth v36 4)).bind fun v48 =>
 icond (nth v48 0) (fun _ =>
 (ibin .eql (nth v47 5) (.int .i64 0)).bind fun v49 =>
 icond v49 (fun _ =>
 (ref18_Same_s (nth v47 0) (nth v47 1) (nth v47 2) (nth v47 3) (nth v47 4) (nth v35 0) (nth v35 1) (nth v35 2) (nth v35 3) (nth v35 4)).bind fun v50 =>
 icond (nth v50 0) (fun _ =>
 (law18_live_s).bind fun v51 =>
 some [(nth v51 0)]) (fun _ =>
 some [(.bool false)])) (fun _ =>
 some [(.bool false)])) (fun _ =>
 some [(.bool false)])).bind fun v52 =>
 scal [(nth v52 0)]),
 scal [(nth v34.2 0)]])

def law18_FloorTwice_s (a0 a1 a2 a3 a4 a5 a6 a7 a8 : IV) : Option (List IV) :=
 ((ref18_Few_s a0 a1 a2 a3 a4).bind fun v1 =>
 (iun .not (nth v1 0)).bind fun v2 =>
 icond v2 (fun _ =>
 some [(.bool true)]) (fun _ =>
 (ref18_May_s a0 a1 a2 a3 a4).bind fun v3 =>
 (iun .not (nth v3 0)).bind fun v4 =>
 some [v4])).bind fun v5 =>
 icond (nth v5 0) (fun _ =>
 (law18_live_s).bind fun v6 =>
 scal [(nth v6 0)]) (fun _ =>
 (floor_Prune_s a0 a1 a2 a3 a4 a5 a6).bind fun v7 =>
 (floor_Prune_s (nth v7 0) (nth v7 1) (nth v7 2) (nth v7 3) (nth v7 4) a7 a8).bind fun v8 =>
 (floor_Prune_s a0 a1 a2 a3 a4 a7 a8).bind fun v9 =>
 ((ibin .neq (nth v7 5) (.int .i64 0)).bind fun v10 =>
 icond v10 (fun _ =>
 some [(.bool true)]) (fun _ =>
 (ibin .neq (nth v8 5) (.int .i64 0)).bind fun v11 =>
 icond v11 (fun _ =>
 some [(.bool true)]) (fun _ =>
 (ibin .neq (nth v9 5) (.int .i64 0)).bind fun v12 =>
 some [v12]))).bind fun v13 =>
 icond (nth v13 0) (fun _ =>
 ((ibin .eql (nth v8 5) (nth v9 5)).bind fun v14 =>
 icond v14 (fun _ =>
 (law18_live_s).bind fun v15 =>
 some [(nth v15 0)]) (fun _ =>
 some [(.bool false)])).bind fun v16 =>
 scal [(nth v16 0)]) (fun _ =>
 (floor_Prune_s (nth v8 0) (nth v8 1) (nth v8 2) (nth v8 3) (nth v8 4) a7 a8).bind fun v17 =>
 ((ibin .neq (nth v17 5) (.int .i64 0)).bind fun v18 =>
 icond v18 (fun _ =>
 some [(.bool true)]) (fun _ =>
 (ref18_Same_s (nth v17 0) (nth v17 1) (nth v17 2) (nth v17 3) (nth v17 4) (nth v8 0) (nth v8 1) (nth v8 2) (nth v8 3) (nth v8 4)).bind fun v19 =>
 (iun .not (nth v19 0)).bind fun v20 =>
 some [v20])).bind fun v21 =>
 icond (nth v21 0) (fun _ =>
 scal [(.bool false)]) (fun _ =>
 (ref02_Before_s a5 a6 a7 a8).bind fun v22 =>
 icond (nth v22 0) (fun _ =>
 ((ref18_Same_s (nth v8 0) (nth v8 1) (nth v8 2) (nth v8 3) (nth v8 4) (nth v9 0) (nth v9 1) (nth v9 2) (nth v9 3) (nth v9 4)).bind fun v23 =>
 icond (nth v23 0) (fun _ =>
 (law18_live_s).bind fun v24 =>
 some [(nth v24 0)]) (fun _ =>
 some [(.bool false)])).bind fun v25 =>
 scal [(nth v25 0)]) (fun _ =>
 (floor_Prune_s (nth v9 0) (nth v9 1) (nth v9 2) (nth v9 3) (nth v9 4) a5 a6).bind fun v26 =>
 ((ibin .eql (nth v26 5) (.int .i64 0)).bind fun v27 =>
 icond v27 (fun _ =>
 (ref18_Same_s (nth v8 0) (nth v8 1) (nth v8 2) (nth v8 3) (nth v8 4) (nth v7 0) (nth v7 1) (nth v7 2) (nth v7 3) (nth v7 4)).bind fun v28 =>
 icond (nth v28 0) (fun _ =>
 (ref18_Same_s (nth v26 0) (nth v26 1) (nth v26 2) (nth v26 3) (nth v26 4) (nth v7 0) (nth v7 1) (nth v7 2) (nth v7 3) (nth v7 4)).bind fun v29 =>
 icond (nth v29 0) (fun _ =>
 (law18_live_s).bind fun v30 =>
 some [(nth v30 0)]) (fun _ =>
 some [(.bool false)])) (fun _ =>
 some [(.bool false)])) (fun _ =>
 some [(.bool false)])).bind fun v31 =>
 scal [(nth v31 0)]))))

def marks_Join_l2 (v1 : IV) (a1 : IV) (v2 : List IV) : Option SR :=
 (ibin .lss (nth v2 1) v1).bind fun v3 =>
 icond v3 (fun _ =>
 (iidx a1 (nth v2 1) 2).bind fun v4 =>
 (ildN a1 v4 0 2).bind fun v5 =>
 (marks_Raise_s (nth v2 0) (nth v5 1) (nth v5 0)).bind fun v6 =>
 (ibin .add (nth v2 1) (.int .i64 1)).bind fun v7 =>
 some (.next [(nth v6 0), v7])) (fun _ =>
 some (.done 0 [(nth v2 0)]))
def marks_Join_s (a0 a1 : IV) : Option (List IV) :=
 (ilenL a1).bind fun v1 =>
 (iter rounds (marks_Join_l2 v1 a1) [a0, (.int .i64 0)]).bind fun v8 =>
 sel v8.1 [some [(nth v8.2 0)]]

def law18_FloorMarks_l6 (a5 : IV) (v9 : List IV) : Option SR :=
 (ilenL a5).bind fun v10 =>
 (ibin .lss (nth v9 6) v10).bind fun v11 =>
 icond v11 (fun _ =>
 (iidx a5 (nth v9 6) 6).bind fun v12 =>
 (ildN a5 v12 0 6).bind fun v13 =>
 (floor_Add_s (nth v9 1) (nth v9 2) (nth v9 3) (nth v9 4) (nth v9 5) (nth v13 0) (nth v13 1) (nth v13 2) (nth v13 3) (nth v13 4) (nth v13 5)).bind fun v14 =>
 (ibin .eql (nth v14 6) (.int .i64 0)).bind fun v15 =>
 icond v15 (fun _ =>
 (iidx a5 (nth v9 6) 6).bind fun v16 =>
 (ildN a5 v16 0 6).bind fun v17 =>
 (iapp 6 56 (nth v9 0) (.lst [[(nth v17 0), (nth v17 1), (nth v17 2), (nth v17 3), (nth v17 4), (nth v17 5)]])).bind fun v18 =>
 (ibin .add (nth v9 6) (.int .i64 1)).bind fun v19 =>
 some (.next [v18, (nth v14 0), (nth v14 1), (nth v14 2), (nth v14 3), (nth v14 4), v19])) (fun _ =>
 (ibin .add (nth v9 6) (.int .i64 1)).bind fun v20 =>
 some (.next [(nth v9 0), (nth v14 0), (nth v14 1), (nth v14 2), (nth v14 3), (nth v14 4), v20]))) (fun _ =>
 some (.done 0 [(nth v9 0), (nth v9 1), (nth v9 2), (nth v9 3), (nth v9 4), (nth v9 5)]))
def law18_FloorMarks_s (a0 a1 a2 a3 a4 a5 a6 a7 : IV) : Option (List IV) :=
 ((ref18_Few_s a0 a1 a2 a3 a4).bind fun v1 =>
 (iun .not (nth v1 0)).bind fun v2 =>
 icond v2 (fun _ =>
 some [(.bool true)]) (fun _ =>
 (ref13_Few_s a5 (.int .i64 20)).bind fun v3 =>
 (iun .not (nth v3 0)).bind fun v4 =>
 icond v4 (fun _ =>
 some [(.bool true)]) (fun _ =>
 (ref18_May_s a0 a1 a2 a3 a4).bind fun v5 =>
 (iun .not (nth v5 0)).bind fun v6 =>
 some [v6]))).bind fun v7 =>
 icond (nth v7 0) (fun _ =>
 (law18_live_s).bind fun v8 =>
 scal [(nth v8 0)]) (fun _ =>
 (iter rounds (law18_FloorMarks_l6 a5) [(.lst []), a0, a1, a2, a3, a4, (.int .i64 0)]).bind fun v21 =>
 sel v21.1 [(floor_Prune_s (nth v21.2 1) (nth v21.2 2) (nth v21.2 3) (nth v21.2 4) (nth v21.2 5) a6 a7).bind fun v22 =>
 (marks_Of_s (nth v21.2 0)).bind fun v23 =>
 (marks_Join_s a4 (nth v23 0)).bind fun v24 =>
 ((ref17_Same_s (nth v21.2 5) (nth v24 0)).bind fun v25 =>
 icond (nth v25 0) (fun _ =>
 (ref17_Same_s (nth v22 4) (nth v24 0)).bind fun v26 =>
 icond (nth v26 0) (fun _ =>
 (law18_live_s).bind fun v27 =>
 some [(nth v27 0)]) (fun _ =>
 some [(.bool false)])) (fun _ =>
 some [(.bool false)])).bind fun v28 =>
 scal [(nth v28 0)]])

end Go.AM

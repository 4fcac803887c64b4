/- The functions of the program that are reached, as the abstract machine runs them; printed by a program of this work. -/
import Derived.Test.YtcnafacmpplhbaaAe
set_option linter.unusedVariables false
namespace Go.AM
abbrev n_law14_FoldDoes : Nat := 3
abbrev n_law14_FoldAll : Nat := 4
abbrev n_law14_FoldParts : Nat := 5
abbrev n_law14_FoldOthers : Nat := 6
abbrev n_law14_FoldTree : Nat := 7
abbrev n_law12_TreeTells : Nat := 8
abbrev n_law12_TreeSets : Nat := 9
abbrev n_law12_TreeOrder : Nat := 10
abbrev n_law12_TreePaths : Nat := 11
abbrev n_law12_TreeKids : Nat := 12
abbrev n_law12_TreeHangs : Nat := 13
abbrev n_law12_TreeDrops : Nat := 14
abbrev n_ref12_Few : Nat := 15
abbrev n_law14_live : Nat := 16
abbrev n_fold_Do : Nat := 17
abbrev n_ref14_Do : Nat := 18
abbrev n_ref12_Same : Nat := 19
abbrev n_fold_Barred : Nat := 20
abbrev n_ref14_Barred : Nat := 21
abbrev n_ref13_Few : Nat := 22
abbrev n_fold_All : Nat := 23
abbrev n_ref14_All : Nat := 24
abbrev n_ref05_Same : Nat := 25
abbrev n_fold_Nodes : Nat := 26
abbrev n_ref14_Nodes : Nat := 27
abbrev n_ref12_May : Nat := 28
abbrev n_ref13_One : Nat := 29
abbrev n_tree_Find : Nat := 30
abbrev n_ref12_Alike : Nat := 31
abbrev n_tree_Above : Nat := 32
abbrev n_ref13_Row : Nat := 33
abbrev n_tree_May : Nat := 34
abbrev n_law12_live : Nat := 35
abbrev n_tree_One : Nat := 36
abbrev n_ref12_One : Nat := 37
abbrev n_ref12_Find : Nat := 38
abbrev n_tree_Same : Nat := 39
abbrev n_tree_Drop : Nat := 40
abbrev n_ref12_Drop : Nat := 41
abbrev n_tree_Path : Nat := 42
abbrev n_ref12_Path : Nat := 43
abbrev n_tree_Set : Nat := 44
abbrev n_ref12_Set : Nat := 45
abbrev n_ref12_Above : Nat := 46
abbrev n_tree_Kids : Nat := 47
abbrev n_ref12_Kids : Nat := 48
abbrev n_tree_Reached : Nat := 49
abbrev n_ref12_Reached : Nat := 50
abbrev n_ref02_Less : Nat := 51
abbrev n_moves_Row : Nat := 52
abbrev n_slices_Sorted_int : Nat := 53
abbrev n_maps_Keys_map_int_bool_int_bool : Nat := 54
abbrev n_ref14_put : Nat := 55
abbrev n_ref13_Time : Nat := 56
abbrev n_tree_place : Nat := 57
abbrev n_ref01_Same : Nat := 58
abbrev n_tree_ways : Nat := 59
abbrev n_tree_parents : Nat := 60
abbrev n_word_Valid : Nat := 61
abbrev n_ref04_Valid : Nat := 62
abbrev n_ref12_place : Nat := 63
abbrev n_slices_EqualFunc_Row_Row : Nat := 64
abbrev n_tree_Same_1 : Nat := 65
abbrev n_bits_Same : Nat := 66
abbrev n_slices_Delete_Row : Nat := 67
abbrev n_slices_Clone_Row : Nat := 68
abbrev n_tree_path : Nat := 69
abbrev n_slices_IndexFunc_Row : Nat := 70
abbrev n_tree_Set_1 : Nat := 71
abbrev n_slices_Insert_Row : Nat := 72
abbrev n_slices_SortStableFunc_Row : Nat := 73
abbrev n_tree_Kids_1 : Nat := 74
abbrev n_rank_Less : Nat := 75
abbrev n_slices_Sort_int : Nat := 76
abbrev n_slices_Compact_int : Nat := 77
abbrev n_ref02_Compare : Nat := 78
abbrev n_slices_Collect_int : Nat := 79
abbrev n_maps_Keys_map_int_bool_int_bool_1 : Nat := 80
abbrev n_tree_place_1 : Nat := 81
abbrev n_ref01_Bits : Nat := 82
abbrev n_tree_ways_1 : Nat := 83
abbrev n_word_signs : Nat := 84
abbrev n_ref04_First : Nat := 85
abbrev n_bits_Bits : Nat := 86
abbrev n_slices_Contains_int : Nat := 87
abbrev n_tree_hasRow : Nat := 88
abbrev n_slices_overlaps_Row : Nat := 89
abbrev n_slices_rotateRight_Row : Nat := 90
abbrev n_slices_stableCmpFunc_Row : Nat := 91
abbrev n_rank_first : Nat := 92
abbrev n_rank_Less_1 : Nat := 93
abbrev n_rank_Compare : Nat := 94
abbrev n_rank_Less_2 : Nat := 95
abbrev n_cmp_Compare_int : Nat := 96
abbrev n_slices_pdqsortOrdered_int : Nat := 97
abbrev n_bits_Len : Nat := 98
abbrev n_ref02_Key : Nat := 99
abbrev n_slices_AppendSeq_int : Nat := 100
abbrev n_ref01_None : Nat := 101
abbrev n_ref01_Minus : Nat := 102
abbrev n_ref01_top : Nat := 103
abbrev n_word_head : Nat := 104
abbrev n_ref04_sign : Nat := 105
abbrev n_bits_Minus : Nat := 106
abbrev n_bits_split : Nat := 107
abbrev n_slices_Index_int : Nat := 108
abbrev n_slices_rotateLeft_Row : Nat := 109
abbrev n_slices_insertionSortCmpFunc_Row : Nat := 110
abbrev n_slices_symMergeCmpFunc_Row : Nat := 111
abbrev n_cmp_Compare_uint64 : Nat := 112
abbrev n_rank_Key : Nat := 113
abbrev n_cmp_isNaN_int : Nat := 114
abbrev n_slices_insertionSortOrdered_int : Nat := 115
abbrev n_slices_heapSortOrdered_int : Nat := 116
abbrev n_slices_breakPatternsOrdered_int : Nat := 117
abbrev n_slices_choosePivotOrdered_int : Nat := 118
abbrev n_slices_reverseRangeOrdered_int : Nat := 119
abbrev n_slices_partialInsertionSortOrdered_int : Nat := 120
abbrev n_cmp_Less_int : Nat := 121
abbrev n_slices_partitionEqualOrdered_int : Nat := 122
abbrev n_slices_partitionOrdered_int : Nat := 123
abbrev n_bits_Len32 : Nat := 124
abbrev n_bits_Len64 : Nat := 125
abbrev n_ref04_in : Nat := 126
abbrev n_bits_powers : Nat := 127
abbrev n_slices_Reverse_Row : Nat := 128
abbrev n_slices_rotateCmpFunc_Row : Nat := 129
abbrev n_cmp_isNaN_uint64 : Nat := 130
abbrev n_slices_siftDownOrdered_int : Nat := 131
abbrev n_slices_nextPowerOfTwo : Nat := 132
abbrev n_slices_xorshift_Next : Nat := 133
abbrev n_slices_medianAdjacentOrdered_int : Nat := 134
abbrev n_slices_medianOrdered_int : Nat := 135
abbrev n_slices_swapRangeCmpFunc_Row : Nat := 136
abbrev n_slices_order2Ordered_int : Nat := 137
abbrev n_runtime_boundsError_Error : Nat := 138
abbrev n_runtime_boundsError_RuntimeError : Nat := 139
abbrev n_runtime_errorString_Error : Nat := 140
abbrev n_runtime_errorString_RuntimeError : Nat := 141
abbrev n_runtime_plainError_Error : Nat := 142
abbrev n_runtime_plainError_RuntimeError : Nat := 143
abbrev n_runtime_errorAddressString_Error : Nat := 144
abbrev n_runtime_errorAddressString_RuntimeError : Nat := 145
abbrev n_runtime_TypeAssertionError_Error : Nat := 146
abbrev n_runtime_TypeAssertionError_RuntimeError : Nat := 147
abbrev n_runtime_PanicNilError_Error : Nat := 148
abbrev n_runtime_PanicNilError_RuntimeError : Nat := 149
abbrev n_abi_Type_Align : Nat := 150
abbrev n_maps_unhashableTypeError_Error : Nat := 151
abbrev n_maps_unhashableTypeError_RuntimeError : Nat := 152
abbrev n_abi_Kind_String : Nat := 153
abbrev fold_Nodes_s := nodesS
abbrev tree_Above_s := aboveS
abbrev slices_Delete_Row_s := deleteS
abbrev slices_Clone_Row_s := cloneS 4 40
abbrev slices_Insert_Row_s := insertS 4 40
def word_head_s (a0 : IV) : Option (List IV) :=
 (ibin .lss a0 (.int .u8 128)).bind fun v1 =>
 icond v1 (fun _ =>
 scal [(.int .i64 0), (.int .u8 128), (.int .u8 191), (.bool true)]) (fun _ =>
 (ibin .lss a0 (.int .u8 194)).bind fun v2 =>
 icond v2 (fun _ =>
 scal [(.int .i64 0), (.int .u8 128), (.int .u8 191), (.bool false)]) (fun _ =>
 (ibin .lss a0 (.int .u8 224)).bind fun v3 =>
 icond v3 (fun _ =>
 scal [(.int .i64 1), (.int .u8 128), (.int .u8 191), (.bool true)]) (fun _ =>
 (ibin .lss a0 (.int .u8 240)).bind fun v4 =>
 icond v4 (fun _ =>
 (ibin .eql a0 (.int .u8 224)).bind fun v5 =>
 icond v5 (fun _ =>
 scal [(.int .i64 2), (.int .u8 160), (.int .u8 191), (.bool true)]) (fun _ =>
 (ibin .eql a0 (.int .u8 237)).bind fun v6 =>
 icond v6 (fun _ =>
 scal [(.int .i64 2), (.int .u8 128), (.int .u8 159), (.bool true)]) (fun _ =>
 scal [(.int .i64 2), (.int .u8 128), (.int .u8 191), (.bool true)]))) (fun _ =>
 (ibin .lss a0 (.int .u8 245)).bind fun v7 =>
 icond v7 (fun _ =>
 (ibin .eql a0 (.int .u8 240)).bind fun v8 =>
 icond v8 (fun _ =>
 scal [(.int .i64 3), (.int .u8 144), (.int .u8 191), (.bool true)]) (fun _ =>
 (ibin .eql a0 (.int .u8 244)).bind fun v9 =>
 icond v9 (fun _ =>
 scal [(.int .i64 3), (.int .u8 128), (.int .u8 143), (.bool true)]) (fun _ =>
 scal [(.int .i64 3), (.int .u8 128), (.int .u8 191), (.bool true)]))) (fun _ =>
 scal [(.int .i64 0), (.int .u8 128), (.int .u8 191), (.bool false)])))))

def word_signs_l6 (v16 : IV) (v15 : IV) (v17 : List IV) : Option SR :=
 (ibin .lss (nth v17 2) v16).bind fun v18 =>
 icond v18 (fun _ =>
 (iidx v15 (nth v17 2) 1).bind fun v19 =>
 (ild v15 v19 0).bind fun v20 =>
 ((ibin .lss v20 (nth v17 0)).bind fun v21 =>
 icond v21 (fun _ =>
 some [(.bool true)]) (fun _ =>
 (ibin .gtr v20 (nth v17 1)).bind fun v22 =>
 some [v22])).bind fun v23 =>
 icond (nth v23 0) (fun _ =>
 some (.done 1 [])) (fun _ =>
 (ibin .add (nth v17 2) (.int .i64 1)).bind fun v24 =>
 some (.next [(.int .u8 128), (.int .u8 191), v24]))) (fun _ =>
 some (.done 0 []))
def word_signs_l2 (a0 : IV) (v1 : List IV) : Option SR :=
 (ilenS a0).bind fun v2 =>
 (ibin .lss (nth v1 1) v2).bind fun v3 =>
 icond v3 (fun _ =>
 (istr a0 (nth v1 1)).bind fun v4 =>
 (word_head_s v4).bind fun v5 =>
 ((iun .not (nth v5 3)).bind fun v6 =>
 icond v6 (fun _ =>
 some [(.bool true)]) (fun _ =>
 (ilenS a0).bind fun v7 =>
 (ibin .sub v7 (nth v1 1)).bind fun v8 =>
 (ibin .leq v8 (nth v5 0)).bind fun v9 =>
 some [v9])).bind fun v10 =>
 icond (nth v10 0) (fun _ =>
 some (.done 0 [(nth v1 0), (nth v1 1)])) (fun _ =>
 (ibin .add (nth v1 1) (.int .i64 1)).bind fun v11 =>
 (ibin .add (nth v1 1) (.int .i64 1)).bind fun v12 =>
 (ibin .add v12 (nth v5 0)).bind fun v13 =>
 (islcS a0 (some v11) (some v13)).bind fun v14 =>
 (icvb v14).bind fun v15 =>
 (ilenL v15).bind fun v16 =>
 (iter rounds (word_signs_l6 v16 v15) [(nth v5 1), (nth v5 2), (.int .i64 0)]).bind fun v25 =>
 sel v25.1 [(ibin .add (.int .i64 1) (nth v5 0)).bind fun v26 =>
 (ibin .add (nth v1 1) v26).bind fun v27 =>
 (ibin .add (nth v1 0) (.int .i64 1)).bind fun v28 =>
 some (.next [v28, v27]),
 some (.done 0 [(nth v1 0), (nth v1 1)])])) (fun _ =>
 some (.done 0 [(nth v1 0), (nth v1 1)]))
def word_signs_s (a0 : IV) : Option (List IV) :=
 (iter rounds (word_signs_l2 a0) [(.int .i64 0), (.int .i64 0)]).bind fun v29 =>
 sel v29.1 [scal [(nth v29.2 0), (nth v29.2 1)]]

def word_Valid_s (a0 : IV) : Option (List IV) :=
 (word_signs_s a0).bind fun v1 =>
 (ilenS a0).bind fun v2 =>
 (ibin .eql (nth v1 1) v2).bind fun v3 =>
 scal [v3]

def tree_One_s (a0 a1 a2 a3 : IV) : Option (List IV) :=
 ((ibin .geq a0 (.int .i64 1)).bind fun v1 =>
 icond v1 (fun _ =>
 (ibin .leq a0 (.int .i64 2147483647)).bind fun v2 =>
 icond v2 (fun _ =>
 (ibin .geq a1 (.int .i64 0)).bind fun v3 =>
 icond v3 (fun _ =>
 (ibin .leq a1 (.int .i64 2147483647)).bind fun v4 =>
 icond v4 (fun _ =>
 (ilenS a2).bind fun v5 =>
 (ibin .leq v5 (.int .i64 64)).bind fun v6 =>
 icond v6 (fun _ =>
 (word_Valid_s a2).bind fun v7 =>
 some [(nth v7 0)]) (fun _ =>
 some [(.bool false)])) (fun _ =>
 some [(.bool false)])) (fun _ =>
 some [(.bool false)])) (fun _ =>
 some [(.bool false)])) (fun _ =>
 some [(.bool false)])).bind fun v8 =>
 scal [(nth v8 0)]

abbrev tree_May_s (x : IV) : Option (List IV) := mayS (fun l => match l with | [[x0, x1, x2, x3]] => tree_One_s x0 x1 x2 x3 | _ => none) x
def ref12_Few_l4 (a0 : IV) (v3 : List IV) : Option SR :=
 (ilenL a0).bind fun v4 =>
 (ibin .lss (nth v3 0) v4).bind fun v5 =>
 icond v5 (fun _ =>
 (iidx a0 (nth v3 0) 4).bind fun v6 =>
 (ild a0 v6 2).bind fun v7 =>
 (ilenS v7).bind fun v8 =>
 (ibin .gtr v8 (.int .i64 100)).bind fun v9 =>
 icond v9 (fun _ =>
 some (.done 1 [(.bool false)])) (fun _ =>
 (ibin .add (nth v3 0) (.int .i64 1)).bind fun v10 =>
 some (.next [v10]))) (fun _ =>
 some (.done 0 []))
def ref12_Few_s (a0 : IV) : Option (List IV) :=
 (ilenL a0).bind fun v1 =>
 (ibin .gtr v1 (.int .i64 60)).bind fun v2 =>
 icond v2 (fun _ =>
 scal [(.bool false)]) (fun _ =>
 (iter rounds (ref12_Few_l4 a0) [(.int .i64 0)]).bind fun v11 =>
 sel v11.1 [scal [(.bool true)],
 scal [(nth v11.2 0)]])

def fold_Barred_s (a0 a1 a2 a3 a4 a5 a6 : IV) : Option (List IV) :=
 ((ibin .eql a4 (.int .i64 0)).bind fun v1 =>
 icond v1 (fun _ =>
 some [(.bool true)]) (fun _ =>
 (ibin .eql a4 a3).bind fun v2 =>
 icond v2 (fun _ =>
 some [(.bool true)]) (fun _ =>
 (tree_Above_s a0 a4 a3).bind fun v3 =>
 some [(nth v3 0)]))).bind fun v4 =>
 scal [(nth v4 0)]

def moves_Row_s (a0 a1 a2 a3 a4 a5 : IV) : Option (List IV) :=
 scal [a3, a2, a4, a5]

def slices_IndexFunc_Row_l2 (C : IV → List Nat → List (List IV) → Option (List IV)) (v1 : IV) (a0 : IV) (a1 : IV) (v2 : List IV) : Option SR :=
 (ibin .lss (nth v2 0) v1).bind fun v3 =>
 icond v3 (fun _ =>
 (iidx a0 (nth v2 0) 4).bind fun v4 =>
 (ildN a0 v4 0 4).bind fun v5 =>
 (C a1 [1] [[(nth v5 0), (nth v5 1), (nth v5 2), (nth v5 3)]]).bind fun v6 =>
 icond (nth v6 0) (fun _ =>
 some (.done 1 [(nth v2 0)])) (fun _ =>
 (ibin .add (nth v2 0) (.int .i64 1)).bind fun v7 =>
 some (.next [v7]))) (fun _ =>
 some (.done 0 []))
def slices_IndexFunc_Row_s (C : IV → List Nat → List (List IV) → Option (List IV)) (a0 a1 : IV) : Option (List IV) :=
 (ilenL a0).bind fun v1 =>
 (iter rounds (slices_IndexFunc_Row_l2 C v1 a0 a1) [(.int .i64 0)]).bind fun v8 =>
 sel v8.1 [scal [(.int .i64 (-1))],
 scal [(nth v8.2 0)]]

def tree_place_1_s (a0 a1 a2 a3 a4 : IV) : Option (List IV) :=
 (ipld a4 0).bind fun v1 =>
 (ibin .eql a0 v1).bind fun v2 =>
 scal [v2]

def Cx_tree_place : IV → List Nat → List (List IV) → Option (List IV) :=
  tbl n_tree_place_1 [1] (fun caps l => match caps, l with | [a4], [[a0, a1, a2, a3]] => tree_place_1_s a0 a1 a2 a3 a4 | _, _ => none) <|
  fun _ _ _ => none
def tree_place_s (a0 a1 : IV) : Option (List IV) :=
 (slices_IndexFunc_Row_s (Cx_tree_place) a0 (.clo (.func n_tree_place_1) [(.ptr [a1] 0)])).bind fun v1 =>
 (ibin .geq (nth v1 0) (.int .i64 0)).bind fun v2 =>
 scal [(nth v1 0), v2]

def tree_Set_1_s (a0 a1 a2 a3 a4 : IV) : Option (List IV) :=
 (ipnn a4).bind fun v1 =>
 (ipld v1 0).bind fun v2 =>
 (ibin .gtr a0 v2).bind fun v3 =>
 scal [v3]

def Cx_tree_Set : IV → List Nat → List (List IV) → Option (List IV) :=
  tbl n_tree_Set_1 [1] (fun caps l => match caps, l with | [a4], [[a0, a1, a2, a3]] => tree_Set_1_s a0 a1 a2 a3 a4 | _, _ => none) <|
  fun _ _ _ => none
def tree_Set_s (a0 a1 a2 a3 a4 : IV) : Option (List IV) :=
 (slices_Clone_Row_s a0).bind fun v1 =>
 (tree_place_s a0 a1).bind fun v2 =>
 icond (nth v2 1) (fun _ =>
 (ibidx (llen (nth v1 0)) (nth v2 0)).bind fun v3 =>
 (iset (nth v1 0) v3 0 [a1, a2, a3, a4]).bind fun v4 =>
 some [v4]) (fun _ =>
 (slices_IndexFunc_Row_s (Cx_tree_Set) a0 (.clo (.func n_tree_Set_1) [(.ptr [a1, a2, a3, a4] 0)])).bind fun v5 =>
 (ibin .lss (nth v5 0) (.int .i64 0)).bind fun v6 =>
 icond v6 (fun _ =>
 (ilenL a0).bind fun v7 =>
 (slices_Insert_Row_s (nth v1 0) v7 (.lst [[a1, a2, a3, a4]])).bind fun v8 =>
 some [(nth v8 0)]) (fun _ =>
 (slices_Insert_Row_s (nth v1 0) (nth v5 0) (.lst [[a1, a2, a3, a4]])).bind fun v9 =>
 some [(nth v9 0)]))

def fold_Do_s (a0 a1 a2 a3 a4 a5 a6 : IV) : Option (List IV) :=
 (fold_Barred_s a0 a1 a2 a3 a4 a5 a6).bind fun v1 =>
 icond (nth v1 0) (fun _ =>
 some [a0, (.bool false)]) (fun _ =>
 (moves_Row_s a1 a2 a3 a4 a5 a6).bind fun v2 =>
 (tree_Set_s a0 (nth v2 0) (nth v2 1) (nth v2 2) (nth v2 3)).bind fun v3 =>
 some [(nth v3 0), (.bool true)])

def fold_All_l2 (v1 : IV) (a1 : IV) (v2 : List IV) : Option SR :=
 (ibin .lss (nth v2 1) v1).bind fun v3 =>
 icond v3 (fun _ =>
 (iidx a1 (nth v2 1) 6).bind fun v4 =>
 (ildN a1 v4 0 6).bind fun v5 =>
 (fold_Do_s (nth v2 0) (nth v5 0) (nth v5 1) (nth v5 2) (nth v5 3) (nth v5 4) (nth v5 5)).bind fun v6 =>
 (ibin .add (nth v2 1) (.int .i64 1)).bind fun v7 =>
 some (.next [(nth v6 0), v7])) (fun _ =>
 some (.done 0 [(nth v2 0)]))
def fold_All_s (a0 a1 : IV) : Option (List IV) :=
 (ilenL a1).bind fun v1 =>
 (iter rounds (fold_All_l2 v1 a1) [a0, (.int .i64 0)]).bind fun v8 =>
 sel v8.1 [some [(nth v8.2 0)]]

def ref05_Same_l4 (a0 : IV) (a1 : IV) (v4 : List IV) : Option SR :=
 (ilenL a0).bind fun v5 =>
 (ibin .lss (nth v4 0) v5).bind fun v6 =>
 icond v6 (fun _ =>
 (iidx a0 (nth v4 0) 1).bind fun v7 =>
 (ild a0 v7 0).bind fun v8 =>
 (iidx a1 (nth v4 0) 1).bind fun v9 =>
 (ild a1 v9 0).bind fun v10 =>
 (ibin .neq v8 v10).bind fun v11 =>
 icond v11 (fun _ =>
 some (.done 1 [(.bool false)])) (fun _ =>
 (ibin .add (nth v4 0) (.int .i64 1)).bind fun v12 =>
 some (.next [v12]))) (fun _ =>
 some (.done 0 []))
def ref05_Same_s (a0 a1 : IV) : Option (List IV) :=
 (ilenL a0).bind fun v1 =>
 (ilenL a1).bind fun v2 =>
 (ibin .neq v1 v2).bind fun v3 =>
 icond v3 (fun _ =>
 scal [(.bool false)]) (fun _ =>
 (iter rounds (ref05_Same_l4 a0 a1) [(.int .i64 0)]).bind fun v13 =>
 sel v13.1 [scal [(.bool true)],
 scal [(nth v13.2 0)]])

def law14_live_s : Option (List IV) :=
 (fold_All_s (.lst []) (.lst [[(.int .i64 0), (.int .i64 0), (.int .i64 0), (.int .i64 1), (.str ⟨#[97]⟩), (.flt .f64 0)], [(.int .i64 0), (.int .i64 0), (.int .i64 1), (.int .i64 2), (.str ⟨#[98]⟩), (.flt .f64 0)], [(.int .i64 0), (.int .i64 0), (.int .i64 2), (.int .i64 1), (.str ⟨#[99]⟩), (.flt .f64 0)]])).bind fun v1 =>
 (ilenL (nth v1 0)).bind fun v2 =>
 (ibin .neq v2 (.int .i64 2)).bind fun v3 =>
 icond v3 (fun _ =>
 scal [(.bool false)]) (fun _ =>
 (fold_Do_s (nth v1 0) (.int .i64 0) (.int .i64 0) (.int .i64 0) (.int .i64 2) (.str ⟨#[100]⟩) (.flt .f64 0)).bind fun v4 =>
 (fold_Do_s (nth v1 0) (.int .i64 0) (.int .i64 0) (.int .i64 2) (.int .i64 2) (.str ⟨#[]⟩) (.flt .f64 0)).bind fun v5 =>
 ((ilenL (nth v4 0)).bind fun v6 =>
 (ibin .neq v6 (.int .i64 2)).bind fun v7 =>
 icond v7 (fun _ =>
 some [(.bool true)]) (fun _ =>
 (ilenL (nth v5 0)).bind fun v8 =>
 (ibin .neq v8 (.int .i64 2)).bind fun v9 =>
 some [v9])).bind fun v10 =>
 icond (nth v10 0) (fun _ =>
 scal [(.bool false)]) (fun _ =>
 ((iidx (nth v1 0) (.int .i64 0) 4).bind fun v11 =>
 (ild (nth v1 0) v11 2).bind fun v12 =>
 (ibin .eql v12 (.str ⟨#[97]⟩)).bind fun v13 =>
 icond v13 (fun _ =>
 (iidx (nth v1 0) (.int .i64 1) 4).bind fun v14 =>
 (ild (nth v1 0) v14 1).bind fun v15 =>
 (ibin .eql v15 (.int .i64 1)).bind fun v16 =>
 icond v16 (fun _ =>
 icond (nth v4 1) (fun _ =>
 (iidx (nth v4 0) (.int .i64 1) 4).bind fun v17 =>
 (ild (nth v4 0) v17 2).bind fun v18 =>
 (ibin .eql v18 (.str ⟨#[100]⟩)).bind fun v19 =>
 icond v19 (fun _ =>
 (iidx (nth v4 0) (.int .i64 1) 4).bind fun v20 =>
 (ild (nth v4 0) v20 1).bind fun v21 =>
 (ibin .eql v21 (.int .i64 0)).bind fun v22 =>
 icond v22 (fun _ =>
 (iun .not (nth v5 1)).bind fun v23 =>
 icond v23 (fun _ =>
 (iidx (nth v5 0) (.int .i64 1) 4).bind fun v24 =>
 (ild (nth v5 0) v24 2).bind fun v25 =>
 (ibin .eql v25 (.str ⟨#[98]⟩)).bind fun v26 =>
 icond v26 (fun _ =>
 (fold_Barred_s (nth v1 0) (.int .i64 0) (.int .i64 0) (.int .i64 2) (.int .i64 1) (.str ⟨#[]⟩) (.flt .f64 0)).bind fun v27 =>
 icond (nth v27 0) (fun _ =>
 (fold_Barred_s (nth v1 0) (.int .i64 0) (.int .i64 0) (.int .i64 9) (.int .i64 0) (.str ⟨#[]⟩) (.flt .f64 0)).bind fun v28 =>
 icond (nth v28 0) (fun _ =>
 (fold_Barred_s (nth v1 0) (.int .i64 0) (.int .i64 0) (.int .i64 9) (.int .i64 3) (.str ⟨#[]⟩) (.flt .f64 0)).bind fun v29 =>
 (iun .not (nth v29 0)).bind fun v30 =>
 icond v30 (fun _ =>
 (fold_Nodes_s (nth v1 0) (.lst [[(.int .i64 0), (.int .i64 0), (.int .i64 2), (.int .i64 7), (.str ⟨#[]⟩), (.flt .f64 0)]])).bind fun v31 =>
 (ref05_Same_s (nth v31 0) (.lst [[(.int .i64 0)], [(.int .i64 1)], [(.int .i64 2)], [(.int .i64 7)]])).bind fun v32 =>
 some [(nth v32 0)]) (fun _ =>
 some [(.bool false)])) (fun _ =>
 some [(.bool false)])) (fun _ =>
 some [(.bool false)])) (fun _ =>
 some [(.bool false)])) (fun _ =>
 some [(.bool false)])) (fun _ =>
 some [(.bool false)])) (fun _ =>
 some [(.bool false)])) (fun _ =>
 some [(.bool false)])) (fun _ =>
 some [(.bool false)])) (fun _ =>
 some [(.bool false)])).bind fun v33 =>
 scal [(nth v33 0)]))

def ref12_place_l2 (a0 : IV) (a1 : IV) (v1 : List IV) : Option SR :=
 (ilenL a0).bind fun v2 =>
 (ibin .lss (nth v1 0) v2).bind fun v3 =>
 icond v3 (fun _ =>
 (iidx a0 (nth v1 0) 4).bind fun v4 =>
 (ild a0 v4 0).bind fun v5 =>
 (ibin .eql v5 a1).bind fun v6 =>
 icond v6 (fun _ =>
 some (.done 1 [(nth v1 0)])) (fun _ =>
 (ibin .add (nth v1 0) (.int .i64 1)).bind fun v7 =>
 some (.next [v7]))) (fun _ =>
 some (.done 0 []))
def ref12_place_s (a0 a1 : IV) : Option (List IV) :=
 (iter rounds (ref12_place_l2 a0 a1) [(.int .i64 0)]).bind fun v8 =>
 sel v8.1 [scal [(.int .i64 (-1))],
 scal [(nth v8.2 0)]]

def ref12_Find_s (a0 a1 : IV) : Option (List IV) :=
 (ref12_place_s a0 a1).bind fun v1 =>
 (ibin .lss (nth v1 0) (.int .i64 0)).bind fun v2 =>
 icond v2 (fun _ =>
 scal [(.int .i64 0), (.int .i64 0), (.str ⟨#[]⟩), (.flt .f64 0), (.bool false)]) (fun _ =>
 (iidx a0 (nth v1 0) 4).bind fun v3 =>
 (ildN a0 v3 0 4).bind fun v4 =>
 scal [(nth v4 0), (nth v4 1), (nth v4 2), (nth v4 3), (.bool true)])

def ref12_Above_l2 (a0 : IV) (a1 : IV) (v1 : List IV) : Option SR :=
 (ilenL a0).bind fun v2 =>
 (ibin .lss (nth v1 1) v2).bind fun v3 =>
 icond v3 (fun _ =>
 (ref12_Find_s a0 (nth v1 0)).bind fun v4 =>
 (iun .not (nth v4 4)).bind fun v5 =>
 icond v5 (fun _ =>
 some (.done 1 [(.bool false)])) (fun _ =>
 (ibin .eql (nth v4 1) a1).bind fun v6 =>
 icond v6 (fun _ =>
 some (.done 1 [(.bool true)])) (fun _ =>
 (ibin .add (nth v1 1) (.int .i64 1)).bind fun v7 =>
 some (.next [(nth v4 1), v7])))) (fun _ =>
 some (.done 0 []))
def ref12_Above_s (a0 a1 a2 : IV) : Option (List IV) :=
 (iter rounds (ref12_Above_l2 a0 a1) [a2, (.int .i64 0)]).bind fun v8 =>
 sel v8.1 [scal [(.bool false)],
 scal [(nth v8.2 0)]]

def ref14_Barred_s (a0 a1 a2 a3 a4 a5 a6 : IV) : Option (List IV) :=
 ((ibin .eql a4 a3).bind fun v1 =>
 icond v1 (fun _ =>
 some [(.bool true)]) (fun _ =>
 (ibin .eql a4 (.int .i64 0)).bind fun v2 =>
 icond v2 (fun _ =>
 some [(.bool true)]) (fun _ =>
 (ref12_Above_s a0 a4 a3).bind fun v3 =>
 some [(nth v3 0)]))).bind fun v4 =>
 scal [(nth v4 0)]

def ref13_Row_s (a0 a1 a2 a3 a4 a5 : IV) : Option (List IV) :=
 scal [a3, a2, a4, a5]

def ref12_Set_l7 (a0 : IV) (a1 : IV) (v6 : List IV) : Option SR :=
 ((ilenL a0).bind fun v7 =>
 (ibin .lss (nth v6 0) v7).bind fun v8 =>
 icond v8 (fun _ =>
 (iidx a0 (nth v6 0) 4).bind fun v9 =>
 (ild a0 v9 0).bind fun v10 =>
 (ibin .lss v10 a1).bind fun v11 =>
 some [v11]) (fun _ =>
 some [(.bool false)])).bind fun v12 =>
 icond (nth v12 0) (fun _ =>
 (ibin .add (nth v6 0) (.int .i64 1)).bind fun v13 =>
 some (.next [v13])) (fun _ =>
 some (.done 0 [(nth v6 0)]))
def ref12_Set_s (a0 a1 a2 a3 a4 : IV) : Option (List IV) :=
 (ref12_place_s a0 a1).bind fun v1 =>
 (ibin .geq (nth v1 0) (.int .i64 0)).bind fun v2 =>
 icond v2 (fun _ =>
 (iapp 4 40 (.lst []) a0).bind fun v3 =>
 (ibidx (llen v3) (nth v1 0)).bind fun v4 =>
 (iset v3 v4 0 [a1, a2, a3, a4]).bind fun v5 =>
 some [v5]) (fun _ =>
 (iter rounds (ref12_Set_l7 a0 a1) [(.int .i64 0)]).bind fun v14 =>
 sel v14.1 [(islcL 4 a0 none (some (nth v14.2 0))).bind fun v15 =>
 (iapp 4 40 (.lst []) v15).bind fun v16 =>
 (iapp 4 40 v16 (.lst [[a1, a2, a3, a4]])).bind fun v17 =>
 (islcL 4 a0 (some (nth v14.2 0)) none).bind fun v18 =>
 (iapp 4 40 v17 v18).bind fun v19 =>
 some [v19]])

def ref14_Do_s (a0 a1 a2 a3 a4 a5 a6 : IV) : Option (List IV) :=
 (ref14_Barred_s a0 a1 a2 a3 a4 a5 a6).bind fun v1 =>
 icond (nth v1 0) (fun _ =>
 some [a0, (.bool false)]) (fun _ =>
 (ref13_Row_s a1 a2 a3 a4 a5 a6).bind fun v2 =>
 (ref12_Set_s a0 (nth v2 0) (nth v2 1) (nth v2 2) (nth v2 3)).bind fun v3 =>
 some [(nth v3 0), (.bool true)])

def ref01_None_s : Option (List IV) :=
 scal [(.int .u64 9221120237041090560)]

def ref01_Minus_s (a0 : IV) : Option (List IV) :=
 ((ibin .lss a0 (.flt .f64 0)).bind fun v1 =>
 icond v1 (fun _ =>
 some [(.bool true)]) (fun _ =>
 (ibin .eql a0 (.flt .f64 0)).bind fun v2 =>
 icond v2 (fun _ =>
 (ibin .quo (.flt .f64 4607182418800017408) a0).bind fun v3 =>
 (ibin .lss v3 (.flt .f64 0)).bind fun v4 =>
 some [v4]) (fun _ =>
 some [(.bool false)]))).bind fun v5 =>
 scal [(nth v5 0)]

def ref01_top_s : Option (List IV) :=
 scal [(.int .u64 9223372036854775808)]

def ref01_Bits_l12 (v10 : List IV) : Option SR :=
 (ibin .geq (nth v10 0) (.flt .f64 4611686018427387904)).bind fun v11 =>
 icond v11 (fun _ =>
 (ibin .mul (nth v10 0) (.flt .f64 4602678819172646912)).bind fun v12 =>
 (ibin .add (nth v10 1) (.int .u64 1)).bind fun v13 =>
 some (.next [v12, v13])) (fun _ =>
 some (.done 0 [(nth v10 0), (nth v10 1)]))
def ref01_Bits_l15 (v15 : List IV) : Option SR :=
 ((ibin .lss (nth v15 0) (.flt .f64 4607182418800017408)).bind fun v16 =>
 icond v16 (fun _ =>
 (ibin .gtr (nth v15 1) (.int .u64 1)).bind fun v17 =>
 some [v17]) (fun _ =>
 some [(.bool false)])).bind fun v18 =>
 icond (nth v18 0) (fun _ =>
 (ibin .mul (nth v15 0) (.flt .f64 4611686018427387904)).bind fun v19 =>
 (ibin .sub (nth v15 1) (.int .u64 1)).bind fun v20 =>
 some (.next [v19, v20])) (fun _ =>
 some (.done 0 [(nth v15 0), (nth v15 1)]))
def ref01_Bits_l22 (v23 : List IV) : Option SR :=
 (ibin .lss (nth v23 1) (.int .i64 52)).bind fun v24 =>
 icond v24 (fun _ =>
 (ibin .mul (nth v23 0) (.flt .f64 4611686018427387904)).bind fun v25 =>
 (ibin .add (nth v23 1) (.int .i64 1)).bind fun v26 =>
 some (.next [v25, v26])) (fun _ =>
 some (.done 0 [(nth v23 0)]))
def ref01_Bits_l22_2 (v33 : List IV) : Option SR :=
 (ibin .lss (nth v33 1) (.int .i64 52)).bind fun v34 =>
 icond v34 (fun _ =>
 (ibin .mul (nth v33 0) (.flt .f64 4611686018427387904)).bind fun v35 =>
 (ibin .add (nth v33 1) (.int .i64 1)).bind fun v36 =>
 some (.next [v35, v36])) (fun _ =>
 some (.done 0 [(nth v33 0)]))
def ref01_Bits_l12_2 (v46 : List IV) : Option SR :=
 (ibin .geq (nth v46 0) (.flt .f64 4611686018427387904)).bind fun v47 =>
 icond v47 (fun _ =>
 (ibin .mul (nth v46 0) (.flt .f64 4602678819172646912)).bind fun v48 =>
 (ibin .add (nth v46 1) (.int .u64 1)).bind fun v49 =>
 some (.next [v48, v49])) (fun _ =>
 some (.done 0 [(nth v46 0), (nth v46 1)]))
def ref01_Bits_l15_2 (v51 : List IV) : Option SR :=
 ((ibin .lss (nth v51 0) (.flt .f64 4607182418800017408)).bind fun v52 =>
 icond v52 (fun _ =>
 (ibin .gtr (nth v51 1) (.int .u64 1)).bind fun v53 =>
 some [v53]) (fun _ =>
 some [(.bool false)])).bind fun v54 =>
 icond (nth v54 0) (fun _ =>
 (ibin .mul (nth v51 0) (.flt .f64 4611686018427387904)).bind fun v55 =>
 (ibin .sub (nth v51 1) (.int .u64 1)).bind fun v56 =>
 some (.next [v55, v56])) (fun _ =>
 some (.done 0 [(nth v51 0), (nth v51 1)]))
def ref01_Bits_l22_3 (v59 : List IV) : Option SR :=
 (ibin .lss (nth v59 1) (.int .i64 52)).bind fun v60 =>
 icond v60 (fun _ =>
 (ibin .mul (nth v59 0) (.flt .f64 4611686018427387904)).bind fun v61 =>
 (ibin .add (nth v59 1) (.int .i64 1)).bind fun v62 =>
 some (.next [v61, v62])) (fun _ =>
 some (.done 0 [(nth v59 0)]))
def ref01_Bits_l22_4 (v69 : List IV) : Option SR :=
 (ibin .lss (nth v69 1) (.int .i64 52)).bind fun v70 =>
 icond v70 (fun _ =>
 (ibin .mul (nth v69 0) (.flt .f64 4611686018427387904)).bind fun v71 =>
 (ibin .add (nth v69 1) (.int .i64 1)).bind fun v72 =>
 some (.next [v71, v72])) (fun _ =>
 some (.done 0 [(nth v69 0)]))
def ref01_Bits_s (a0 : IV) : Option (List IV) :=
 (ibin .neq a0 a0).bind fun v1 =>
 icond v1 (fun _ =>
 (ref01_None_s).bind fun v2 =>
 scal [(nth v2 0)]) (fun _ =>
 (ref01_Minus_s a0).bind fun v3 =>
 icond (nth v3 0) (fun _ =>
 (ref01_top_s).bind fun v4 =>
 (iun .neg a0).bind fun v5 =>
 (ibin .eql v5 (.flt .f64 0)).bind fun v6 =>
 icond v6 (fun _ =>
 scal [(nth v4 0)]) (fun _ =>
 (ibin .mul v5 (.flt .f64 4611686018427387904)).bind fun v7 =>
 (ibin .eql v7 v5).bind fun v8 =>
 icond v8 (fun _ =>
 (ibin .add (nth v4 0) (.int .u64 9218868437227405312)).bind fun v9 =>
 scal [v9]) (fun _ =>
 (iter rounds (ref01_Bits_l12) [v5, (.int .u64 1023)]).bind fun v14 =>
 sel v14.1 [(iter rounds (ref01_Bits_l15) [(nth v14.2 0), (nth v14.2 1)]).bind fun v21 =>
 sel v21.1 [(ibin .lss (nth v21.2 0) (.flt .f64 4607182418800017408)).bind fun v22 =>
 icond v22 (fun _ =>
 (iter rounds (ref01_Bits_l22) [(nth v21.2 0), (.int .i64 0)]).bind fun v27 =>
 sel v27.1 [(ibin .shl (.int .u64 0) (.int .u64 52)).bind fun v28 =>
 (ibin .add (nth v4 0) v28).bind fun v29 =>
 (icfi .u64 (nth v27.2 0)).bind fun v30 =>
 (ibin .add v29 v30).bind fun v31 =>
 scal [v31]]) (fun _ =>
 (ibin .sub (nth v21.2 0) (.flt .f64 4607182418800017408)).bind fun v32 =>
 (iter rounds (ref01_Bits_l22_2) [v32, (.int .i64 0)]).bind fun v37 =>
 sel v37.1 [(ibin .shl (nth v21.2 1) (.int .u64 52)).bind fun v38 =>
 (ibin .add (nth v4 0) v38).bind fun v39 =>
 (icfi .u64 (nth v37.2 0)).bind fun v40 =>
 (ibin .add v39 v40).bind fun v41 =>
 scal [v41]])]]))) (fun _ =>
 (ibin .eql a0 (.flt .f64 0)).bind fun v42 =>
 icond v42 (fun _ =>
 scal [(.int .u64 0)]) (fun _ =>
 (ibin .mul a0 (.flt .f64 4611686018427387904)).bind fun v43 =>
 (ibin .eql v43 a0).bind fun v44 =>
 icond v44 (fun _ =>
 (ibin .add (.int .u64 0) (.int .u64 9218868437227405312)).bind fun v45 =>
 scal [v45]) (fun _ =>
 (iter rounds (ref01_Bits_l12_2) [a0, (.int .u64 1023)]).bind fun v50 =>
 sel v50.1 [(iter rounds (ref01_Bits_l15_2) [(nth v50.2 0), (nth v50.2 1)]).bind fun v57 =>
 sel v57.1 [(ibin .lss (nth v57.2 0) (.flt .f64 4607182418800017408)).bind fun v58 =>
 icond v58 (fun _ =>
 (iter rounds (ref01_Bits_l22_3) [(nth v57.2 0), (.int .i64 0)]).bind fun v63 =>
 sel v63.1 [(ibin .shl (.int .u64 0) (.int .u64 52)).bind fun v64 =>
 (ibin .add (.int .u64 0) v64).bind fun v65 =>
 (icfi .u64 (nth v63.2 0)).bind fun v66 =>
 (ibin .add v65 v66).bind fun v67 =>
 scal [v67]]) (fun _ =>
 (ibin .sub (nth v57.2 0) (.flt .f64 4607182418800017408)).bind fun v68 =>
 (iter rounds (ref01_Bits_l22_4) [v68, (.int .i64 0)]).bind fun v73 =>
 sel v73.1 [(ibin .shl (nth v57.2 1) (.int .u64 52)).bind fun v74 =>
 (ibin .add (.int .u64 0) v74).bind fun v75 =>
 (icfi .u64 (nth v73.2 0)).bind fun v76 =>
 (ibin .add v75 v76).bind fun v77 =>
 scal [v77]])]]))))

def ref01_Same_s (a0 a1 : IV) : Option (List IV) :=
 (ref01_Bits_s a0).bind fun v1 =>
 (ref01_Bits_s a1).bind fun v2 =>
 (ibin .eql (nth v1 0) (nth v2 0)).bind fun v3 =>
 scal [v3]

def ref12_Alike_s (a0 a1 a2 a3 a4 a5 a6 a7 : IV) : Option (List IV) :=
 ((ibin .eql a0 a4).bind fun v1 =>
 icond v1 (fun _ =>
 (ibin .eql a1 a5).bind fun v2 =>
 icond v2 (fun _ =>
 (ibin .eql a2 a6).bind fun v3 =>
 icond v3 (fun _ =>
 (ref01_Same_s a3 a7).bind fun v4 =>
 some [(nth v4 0)]) (fun _ =>
 some [(.bool false)])) (fun _ =>
 some [(.bool false)])) (fun _ =>
 some [(.bool false)])).bind fun v5 =>
 scal [(nth v5 0)]

def ref12_Same_l4 (a0 : IV) (a1 : IV) (v4 : List IV) : Option SR :=
 (ilenL a0).bind fun v5 =>
 (ibin .lss (nth v4 0) v5).bind fun v6 =>
 icond v6 (fun _ =>
 (iidx a0 (nth v4 0) 4).bind fun v7 =>
 (ildN a0 v7 0 4).bind fun v8 =>
 (iidx a1 (nth v4 0) 4).bind fun v9 =>
 (ildN a1 v9 0 4).bind fun v10 =>
 (ref12_Alike_s (nth v8 0) (nth v8 1) (nth v8 2) (nth v8 3) (nth v10 0) (nth v10 1) (nth v10 2) (nth v10 3)).bind fun v11 =>
 (iun .not (nth v11 0)).bind fun v12 =>
 icond v12 (fun _ =>
 some (.done 1 [(.bool false)])) (fun _ =>
 (ibin .add (nth v4 0) (.int .i64 1)).bind fun v13 =>
 some (.next [v13]))) (fun _ =>
 some (.done 0 []))
def ref12_Same_s (a0 a1 : IV) : Option (List IV) :=
 (ilenL a0).bind fun v1 =>
 (ilenL a1).bind fun v2 =>
 (ibin .neq v1 v2).bind fun v3 =>
 icond v3 (fun _ =>
 scal [(.bool false)]) (fun _ =>
 (iter rounds (ref12_Same_l4 a0 a1) [(.int .i64 0)]).bind fun v14 =>
 sel v14.1 [scal [(.bool true)],
 scal [(nth v14.2 0)]])

def law14_FoldDoes_s (a0 a1 a2 a3 a4 a5 a6 : IV) : Option (List IV) :=
 ((ref12_Few_s a0).bind fun v1 =>
 (iun .not (nth v1 0)).bind fun v2 =>
 icond v2 (fun _ =>
 some [(.bool true)]) (fun _ =>
 (ilenS a5).bind fun v3 =>
 (ibin .gtr v3 (.int .i64 100)).bind fun v4 =>
 some [v4])).bind fun v5 =>
 icond (nth v5 0) (fun _ =>
 (law14_live_s).bind fun v6 =>
 scal [(nth v6 0)]) (fun _ =>
 (fold_Do_s a0 a1 a2 a3 a4 a5 a6).bind fun v7 =>
 (ref14_Do_s a0 a1 a2 a3 a4 a5 a6).bind fun v8 =>
 ((ref12_Same_s (nth v7 0) (nth v8 0)).bind fun v9 =>
 icond (nth v9 0) (fun _ =>
 (ibinB .eql (nth v7 1) (nth v8 1)).bind fun v10 =>
 icond v10 (fun _ =>
 (fold_Barred_s a0 a1 a2 a3 a4 a5 a6).bind fun v11 =>
 (ref14_Barred_s a0 a1 a2 a3 a4 a5 a6).bind fun v12 =>
 (ibinB .eql (nth v11 0) (nth v12 0)).bind fun v13 =>
 icond v13 (fun _ =>
 (law14_live_s).bind fun v14 =>
 some [(nth v14 0)]) (fun _ =>
 some [(.bool false)])) (fun _ =>
 some [(.bool false)])) (fun _ =>
 some [(.bool false)])).bind fun v15 =>
 scal [(nth v15 0)])

def ref13_Few_l4 (a0 : IV) (v3 : List IV) : Option SR :=
 (ilenL a0).bind fun v4 =>
 (ibin .lss (nth v3 0) v4).bind fun v5 =>
 icond v5 (fun _ =>
 (iidx a0 (nth v3 0) 6).bind fun v6 =>
 (ild a0 v6 4).bind fun v7 =>
 (ilenS v7).bind fun v8 =>
 (ibin .gtr v8 (.int .i64 100)).bind fun v9 =>
 icond v9 (fun _ =>
 some (.done 1 [(.bool false)])) (fun _ =>
 (ibin .add (nth v3 0) (.int .i64 1)).bind fun v10 =>
 some (.next [v10]))) (fun _ =>
 some (.done 0 []))
def ref13_Few_s (a0 a1 : IV) : Option (List IV) :=
 (ilenL a0).bind fun v1 =>
 (ibin .gtr v1 a1).bind fun v2 =>
 icond v2 (fun _ =>
 scal [(.bool false)]) (fun _ =>
 (iter rounds (ref13_Few_l4 a0) [(.int .i64 0)]).bind fun v11 =>
 sel v11.1 [scal [(.bool true)],
 scal [(nth v11.2 0)]])

def ref14_All_l3 (a1 : IV) (v1 : List IV) : Option SR :=
 (ilenL a1).bind fun v2 =>
 (ibin .lss (nth v1 1) v2).bind fun v3 =>
 icond v3 (fun _ =>
 (iidx a1 (nth v1 1) 6).bind fun v4 =>
 (ildN a1 v4 0 6).bind fun v5 =>
 (ref14_Do_s (nth v1 0) (nth v5 0) (nth v5 1) (nth v5 2) (nth v5 3) (nth v5 4) (nth v5 5)).bind fun v6 =>
 (ibin .add (nth v1 1) (.int .i64 1)).bind fun v7 =>
 some (.next [(nth v6 0), v7])) (fun _ =>
 some (.done 0 [(nth v1 0)]))
def ref14_All_s (a0 a1 : IV) : Option (List IV) :=
 (iter rounds (ref14_All_l3 a1) [a0, (.int .i64 0)]).bind fun v8 =>
 sel v8.1 [some [(nth v8.2 0)]]

def ref14_put_l2 (a0 : IV) (a1 : IV) (v1 : List IV) : Option SR :=
 ((ilenL a0).bind fun v2 =>
 (ibin .lss (nth v1 0) v2).bind fun v3 =>
 icond v3 (fun _ =>
 (iidx a0 (nth v1 0) 1).bind fun v4 =>
 (ild a0 v4 0).bind fun v5 =>
 (ibin .lss v5 a1).bind fun v6 =>
 some [v6]) (fun _ =>
 some [(.bool false)])).bind fun v7 =>
 icond (nth v7 0) (fun _ =>
 (ibin .add (nth v1 0) (.int .i64 1)).bind fun v8 =>
 some (.next [v8])) (fun _ =>
 some (.done 0 [(nth v1 0)]))
def ref14_put_s (a0 a1 : IV) : Option (List IV) :=
 (iter rounds (ref14_put_l2 a0 a1) [(.int .i64 0)]).bind fun v9 =>
 sel v9.1 [((ilenL a0).bind fun v10 =>
 (ibin .lss (nth v9.2 0) v10).bind fun v11 =>
 icond v11 (fun _ =>
 (iidx a0 (nth v9.2 0) 1).bind fun v12 =>
 (ild a0 v12 0).bind fun v13 =>
 (ibin .eql v13 a1).bind fun v14 =>
 some [v14]) (fun _ =>
 some [(.bool false)])).bind fun v15 =>
 icond (nth v15 0) (fun _ =>
 some [a0]) (fun _ =>
 (islcL 1 a0 none (some (nth v9.2 0))).bind fun v16 =>
 (iapp 1 8 (.lst []) v16).bind fun v17 =>
 (iapp 1 8 v17 (.lst [[a1]])).bind fun v18 =>
 (islcL 1 a0 (some (nth v9.2 0)) none).bind fun v19 =>
 (iapp 1 8 v18 v19).bind fun v20 =>
 some [v20])]

def ref14_Nodes_l3 (a0 : IV) (v1 : List IV) : Option SR :=
 (ilenL a0).bind fun v2 =>
 (ibin .lss (nth v1 1) v2).bind fun v3 =>
 icond v3 (fun _ =>
 (iidx a0 (nth v1 1) 4).bind fun v4 =>
 (ild a0 v4 0).bind fun v5 =>
 (ref14_put_s (nth v1 0) v5).bind fun v6 =>
 (iidx a0 (nth v1 1) 4).bind fun v7 =>
 (ild a0 v7 1).bind fun v8 =>
 (ref14_put_s (nth v6 0) v8).bind fun v9 =>
 (ibin .add (nth v1 1) (.int .i64 1)).bind fun v10 =>
 some (.next [(nth v9 0), v10])) (fun _ =>
 some (.done 0 [(nth v1 0)]))
def ref14_Nodes_l7 (a1 : IV) (v12 : List IV) : Option SR :=
 (ilenL a1).bind fun v13 =>
 (ibin .lss (nth v12 1) v13).bind fun v14 =>
 icond v14 (fun _ =>
 (iidx a1 (nth v12 1) 6).bind fun v15 =>
 (ild a1 v15 3).bind fun v16 =>
 (ref14_put_s (nth v12 0) v16).bind fun v17 =>
 (iidx a1 (nth v12 1) 6).bind fun v18 =>
 (ild a1 v18 2).bind fun v19 =>
 (ref14_put_s (nth v17 0) v19).bind fun v20 =>
 (ibin .add (nth v12 1) (.int .i64 1)).bind fun v21 =>
 some (.next [(nth v20 0), v21])) (fun _ =>
 some (.done 0 [(nth v12 0)]))
def ref14_Nodes_s (a0 a1 : IV) : Option (List IV) :=
 (iter rounds (ref14_Nodes_l3 a0) [(.lst [[(.int .i64 0)]]), (.int .i64 0)]).bind fun v11 =>
 sel v11.1 [(iter rounds (ref14_Nodes_l7 a1) [(nth v11.2 0), (.int .i64 0)]).bind fun v22 =>
 sel v22.1 [some [(nth v22.2 0)]]]

def law14_FoldAll_s (a0 a1 : IV) : Option (List IV) :=
 ((ref12_Few_s a0).bind fun v1 =>
 (iun .not (nth v1 0)).bind fun v2 =>
 icond v2 (fun _ =>
 some [(.bool true)]) (fun _ =>
 (ref13_Few_s a1 (.int .i64 60)).bind fun v3 =>
 (iun .not (nth v3 0)).bind fun v4 =>
 some [v4])).bind fun v5 =>
 icond (nth v5 0) (fun _ =>
 (law14_live_s).bind fun v6 =>
 scal [(nth v6 0)]) (fun _ =>
 ((fold_All_s a0 a1).bind fun v7 =>
 (ref14_All_s a0 a1).bind fun v8 =>
 (ref12_Same_s (nth v7 0) (nth v8 0)).bind fun v9 =>
 icond (nth v9 0) (fun _ =>
 (fold_Nodes_s a0 a1).bind fun v10 =>
 (ref14_Nodes_s a0 a1).bind fun v11 =>
 (ref05_Same_s (nth v10 0) (nth v11 0)).bind fun v12 =>
 icond (nth v12 0) (fun _ =>
 (law14_live_s).bind fun v13 =>
 some [(nth v13 0)]) (fun _ =>
 some [(.bool false)])) (fun _ =>
 some [(.bool false)])).bind fun v14 =>
 scal [(nth v14 0)])

def law14_FoldParts_l10 (v12 : IV) (v18 : List IV) : Option SR :=
 (ibin .lss (nth v18 2) (.int .i64 ((llen v12) : Nat))).bind fun v19 =>
 icond v19 (fun _ =>
 (ibidx (llen v12) (nth v18 2)).bind fun v20 =>
 (ildN v12 v20 0 6).bind fun v21 =>
 (fold_Barred_s (nth v18 1) (nth v21 0) (nth v21 1) (nth v21 2) (nth v21 3) (nth v21 4) (nth v21 5)).bind fun v22 =>
 (iun .not (nth v22 0)).bind fun v23 =>
 icond v23 (fun _ =>
 (ibidx (llen v12) (nth v18 2)).bind fun v24 =>
 (ildN v12 v24 0 6).bind fun v25 =>
 (iapp 6 56 (nth v18 0) (.lst [[(nth v25 0), (nth v25 1), (nth v25 2), (nth v25 3), (nth v25 4), (nth v25 5)]])).bind fun v26 =>
 (ibidx (llen v12) (nth v18 2)).bind fun v27 =>
 (ildN v12 v27 0 6).bind fun v28 =>
 (fold_Do_s (nth v18 1) (nth v28 0) (nth v28 1) (nth v28 2) (nth v28 3) (nth v28 4) (nth v28 5)).bind fun v29 =>
 (ibin .add (nth v18 2) (.int .i64 1)).bind fun v30 =>
 some (.next [v26, (nth v29 0), v30])) (fun _ =>
 (ibidx (llen v12) (nth v18 2)).bind fun v31 =>
 (ildN v12 v31 0 6).bind fun v32 =>
 (fold_Do_s (nth v18 1) (nth v32 0) (nth v32 1) (nth v32 2) (nth v32 3) (nth v32 4) (nth v32 5)).bind fun v33 =>
 (ibin .add (nth v18 2) (.int .i64 1)).bind fun v34 =>
 some (.next [(nth v18 0), (nth v33 0), v34]))) (fun _ =>
 some (.done 0 [(nth v18 0), (nth v18 1)]))
def law14_FoldParts_s (a0 a1 a2 : IV) : Option (List IV) :=
 ((ilenL a0).bind fun v1 =>
 (ibin .gtr v1 (.int .i64 40)).bind fun v2 =>
 icond v2 (fun _ =>
 some [(.bool true)]) (fun _ =>
 (ref12_Few_s a0).bind fun v3 =>
 (iun .not (nth v3 0)).bind fun v4 =>
 icond v4 (fun _ =>
 some [(.bool true)]) (fun _ =>
 (ref13_Few_s a1 (.int .i64 40)).bind fun v5 =>
 (iun .not (nth v5 0)).bind fun v6 =>
 icond v6 (fun _ =>
 some [(.bool true)]) (fun _ =>
 (ref13_Few_s a2 (.int .i64 40)).bind fun v7 =>
 (iun .not (nth v7 0)).bind fun v8 =>
 some [v8])))).bind fun v9 =>
 icond (nth v9 0) (fun _ =>
 (law14_live_s).bind fun v10 =>
 scal [(nth v10 0)]) (fun _ =>
 (iapp 6 56 (.lst []) a1).bind fun v11 =>
 (iapp 6 56 v11 a2).bind fun v12 =>
 (fold_All_s a0 v12).bind fun v13 =>
 (fold_All_s a0 a1).bind fun v14 =>
 (fold_All_s (nth v14 0) a2).bind fun v15 =>
 (ref12_Same_s (nth v13 0) (nth v15 0)).bind fun v16 =>
 (iun .not (nth v16 0)).bind fun v17 =>
 icond v17 (fun _ =>
 scal [(.bool false)]) (fun _ =>
 (iter rounds (law14_FoldParts_l10 v12) [(.lst []), a0, (.int .i64 0)]).bind fun v35 =>
 sel v35.1 [(ref12_Same_s (nth v35.2 1) (nth v13 0)).bind fun v36 =>
 icond (nth v36 0) (fun _ =>
 (fold_All_s a0 (nth v35.2 0)).bind fun v37 =>
 (ref12_Same_s (nth v37 0) (nth v13 0)).bind fun v38 =>
 icond (nth v38 0) (fun _ =>
 (law14_live_s).bind fun v39 =>
 scal [(nth v39 0)]) (fun _ =>
 scal [(.bool false)])) (fun _ =>
 scal [(.bool false)])]))

def ref04_in_s (a0 a1 a2 a3 : IV) : Option (List IV) :=
 ((ilenS a0).bind fun v1 =>
 (ibin .lss a1 v1).bind fun v2 =>
 icond v2 (fun _ =>
 (istr a0 a1).bind fun v3 =>
 (icii .i64 v3).bind fun v4 =>
 (ibin .geq v4 a2).bind fun v5 =>
 icond v5 (fun _ =>
 (istr a0 a1).bind fun v6 =>
 (icii .i64 v6).bind fun v7 =>
 (ibin .leq v7 a3).bind fun v8 =>
 some [v8]) (fun _ =>
 some [(.bool false)])) (fun _ =>
 some [(.bool false)])).bind fun v9 =>
 scal [(nth v9 0)]

def ref04_sign_s (a0 a1 : IV) : Option (List IV) :=
 (ref04_in_s a0 a1 (.int .i64 0) (.int .i64 127)).bind fun v1 =>
 icond (nth v1 0) (fun _ =>
 scal [(.int .i64 1)]) (fun _ =>
 ((ref04_in_s a0 a1 (.int .i64 194) (.int .i64 223)).bind fun v2 =>
 icond (nth v2 0) (fun _ =>
 (ibin .add a1 (.int .i64 1)).bind fun v3 =>
 (ref04_in_s a0 v3 (.int .i64 128) (.int .i64 191)).bind fun v4 =>
 some [(nth v4 0)]) (fun _ =>
 some [(.bool false)])).bind fun v5 =>
 icond (nth v5 0) (fun _ =>
 scal [(.int .i64 2)]) (fun _ =>
 ((ibin .add a1 (.int .i64 2)).bind fun v6 =>
 (ref04_in_s a0 v6 (.int .i64 128) (.int .i64 191)).bind fun v7 =>
 icond (nth v7 0) (fun _ =>
 (ref04_in_s a0 a1 (.int .i64 224) (.int .i64 224)).bind fun v8 =>
 icond (nth v8 0) (fun _ =>
 (ibin .add a1 (.int .i64 1)).bind fun v9 =>
 (ref04_in_s a0 v9 (.int .i64 160) (.int .i64 191)).bind fun v10 =>
 icond (nth v10 0) (fun _ =>
 some [(.bool true)]) (fun _ =>
 (ref04_in_s a0 a1 (.int .i64 225) (.int .i64 236)).bind fun v11 =>
 icond (nth v11 0) (fun _ =>
 (ibin .add a1 (.int .i64 1)).bind fun v12 =>
 (ref04_in_s a0 v12 (.int .i64 128) (.int .i64 191)).bind fun v13 =>
 icond (nth v13 0) (fun _ =>
 some [(.bool true)]) (fun _ =>
 (ref04_in_s a0 a1 (.int .i64 238) (.int .i64 239)).bind fun v14 =>
 icond (nth v14 0) (fun _ =>
 (ibin .add a1 (.int .i64 1)).bind fun v15 =>
 (ref04_in_s a0 v15 (.int .i64 128) (.int .i64 191)).bind fun v16 =>
 icond (nth v16 0) (fun _ =>
 some [(.bool true)]) (fun _ =>
 (ref04_in_s a0 a1 (.int .i64 237) (.int .i64 237)).bind fun v17 =>
 icond (nth v17 0) (fun _ =>
 (ibin .add a1 (.int .i64 1)).bind fun v18 =>
 (ref04_in_s a0 v18 (.int .i64 128) (.int .i64 159)).bind fun v19 =>
 some [(nth v19 0)]) (fun _ =>
 some [(.bool false)]))) (fun _ =>
 (ref04_in_s a0 a1 (.int .i64 237) (.int .i64 237)).bind fun v20 =>
 icond (nth v20 0) (fun _ =>
 (ibin .add a1 (.int .i64 1)).bind fun v21 =>
 (ref04_in_s a0 v21 (.int .i64 128) (.int .i64 159)).bind fun v22 =>
 some [(nth v22 0)]) (fun _ =>
 some [(.bool false)])))) (fun _ =>
 (ref04_in_s a0 a1 (.int .i64 238) (.int .i64 239)).bind fun v23 =>
 icond (nth v23 0) (fun _ =>
 (ibin .add a1 (.int .i64 1)).bind fun v24 =>
 (ref04_in_s a0 v24 (.int .i64 128) (.int .i64 191)).bind fun v25 =>
 icond (nth v25 0) (fun _ =>
 some [(.bool true)]) (fun _ =>
 (ref04_in_s a0 a1 (.int .i64 237) (.int .i64 237)).bind fun v26 =>
 icond (nth v26 0) (fun _ =>
 (ibin .add a1 (.int .i64 1)).bind fun v27 =>
 (ref04_in_s a0 v27 (.int .i64 128) (.int .i64 159)).bind fun v28 =>
 some [(nth v28 0)]) (fun _ =>
 some [(.bool false)]))) (fun _ =>
 (ref04_in_s a0 a1 (.int .i64 237) (.int .i64 237)).bind fun v29 =>
 icond (nth v29 0) (fun _ =>
 (ibin .add a1 (.int .i64 1)).bind fun v30 =>
 (ref04_in_s a0 v30 (.int .i64 128) (.int .i64 159)).bind fun v31 =>
 some [(nth v31 0)]) (fun _ =>
 some [(.bool false)]))))) (fun _ =>
 (ref04_in_s a0 a1 (.int .i64 225) (.int .i64 236)).bind fun v32 =>
 icond (nth v32 0) (fun _ =>
 (ibin .add a1 (.int .i64 1)).bind fun v33 =>
 (ref04_in_s a0 v33 (.int .i64 128) (.int .i64 191)).bind fun v34 =>
 icond (nth v34 0) (fun _ =>
 some [(.bool true)]) (fun _ =>
 (ref04_in_s a0 a1 (.int .i64 238) (.int .i64 239)).bind fun v35 =>
 icond (nth v35 0) (fun _ =>
 (ibin .add a1 (.int .i64 1)).bind fun v36 =>
 (ref04_in_s a0 v36 (.int .i64 128) (.int .i64 191)).bind fun v37 =>
 icond (nth v37 0) (fun _ =>
 some [(.bool true)]) (fun _ =>
 (ref04_in_s a0 a1 (.int .i64 237) (.int .i64 237)).bind fun v38 =>
 icond (nth v38 0) (fun _ =>
 (ibin .add a1 (.int .i64 1)).bind fun v39 =>
 (ref04_in_s a0 v39 (.int .i64 128) (.int .i64 159)).bind fun v40 =>
 some [(nth v40 0)]) (fun _ =>
 some [(.bool false)]))) (fun _ =>
 (ref04_in_s a0 a1 (.int .i64 237) (.int .i64 237)).bind fun v41 =>
 icond (nth v41 0) (fun _ =>
 (ibin .add a1 (.int .i64 1)).bind fun v42 =>
 (ref04_in_s a0 v42 (.int .i64 128) (.int .i64 159)).bind fun v43 =>
 some [(nth v43 0)]) (fun _ =>
 some [(.bool false)])))) (fun _ =>
 (ref04_in_s a0 a1 (.int .i64 238) (.int .i64 239)).bind fun v44 =>
 icond (nth v44 0) (fun _ =>
 (ibin .add a1 (.int .i64 1)).bind fun v45 =>
 (ref04_in_s a0 v45 (.int .i64 128) (.int .i64 191)).bind fun v46 =>
 icond (nth v46 0) (fun _ =>
 some [(.bool true)]) (fun _ =>
 (ref04_in_s a0 a1 (.int .i64 237) (.int .i64 237)).bind fun v47 =>
 icond (nth v47 0) (fun _ =>
 (ibin .add a1 (.int .i64 1)).bind fun v48 =>
 (ref04_in_s a0 v48 (.int .i64 128) (.int .i64 159)).bind fun v49 =>
 some [(nth v49 0)]) (fun _ =>
 some [(.bool false)]))) (fun _ =>
 (ref04_in_s a0 a1 (.int .i64 237) (.int .i64 237)).bind fun v50 =>
 icond (nth v50 0) (fun _ =>
 (ibin .add a1 (.int .i64 1)).bind fun v51 =>
 (ref04_in_s a0 v51 (.int .i64 128) (.int .i64 159)).bind fun v52 =>
 some [(nth v52 0)]) (fun _ =>
 some [(.bool false)]))))) (fun _ =>
 some [(.bool false)])).bind fun v53 =>
 icond (nth v53 0) (fun _ =>
 scal [(.int .i64 3)]) (fun _ =>
 ((ibin .add a1 (.int .i64 2)).bind fun v54 =>
 (ref04_in_s a0 v54 (.int .i64 128) (.int .i64 191)).bind fun v55 =>
 icond (nth v55 0) (fun _ =>
 (ibin .add a1 (.int .i64 3)).bind fun v56 =>
 (ref04_in_s a0 v56 (.int .i64 128) (.int .i64 191)).bind fun v57 =>
 icond (nth v57 0) (fun _ =>
 (ref04_in_s a0 a1 (.int .i64 240) (.int .i64 240)).bind fun v58 =>
 icond (nth v58 0) (fun _ =>
 (ibin .add a1 (.int .i64 1)).bind fun v59 =>
 (ref04_in_s a0 v59 (.int .i64 144) (.int .i64 191)).bind fun v60 =>
 icond (nth v60 0) (fun _ =>
 some [(.bool true)]) (fun _ =>
 (ref04_in_s a0 a1 (.int .i64 241) (.int .i64 243)).bind fun v61 =>
 icond (nth v61 0) (fun _ =>
 (ibin .add a1 (.int .i64 1)).bind fun v62 =>
 (ref04_in_s a0 v62 (.int .i64 128) (.int .i64 191)).bind fun v63 =>
 icond (nth v63 0) (fun _ =>
 some [(.bool true)]) (fun _ =>
 (ref04_in_s a0 a1 (.int .i64 244) (.int .i64 244)).bind fun v64 =>
 icond (nth v64 0) (fun _ =>
 (ibin .add a1 (.int .i64 1)).bind fun v65 =>
 (ref04_in_s a0 v65 (.int .i64 128) (.int .i64 143)).bind fun v66 =>
 some [(nth v66 0)]) (fun _ =>
 some [(.bool false)]))) (fun _ =>
 (ref04_in_s a0 a1 (.int .i64 244) (.int .i64 244)).bind fun v67 =>
 icond (nth v67 0) (fun _ =>
 (ibin .add a1 (.int .i64 1)).bind fun v68 =>
 (ref04_in_s a0 v68 (.int .i64 128) (.int .i64 143)).bind fun v69 =>
 some [(nth v69 0)]) (fun _ =>
 some [(.bool false)])))) (fun _ =>
 (ref04_in_s a0 a1 (.int .i64 241) (.int .i64 243)).bind fun v70 =>
 icond (nth v70 0) (fun _ =>
 (ibin .add a1 (.int .i64 1)).bind fun v71 =>
 (ref04_in_s a0 v71 (.int .i64 128) (.int .i64 191)).bind fun v72 =>
 icond (nth v72 0) (fun _ =>
 some [(.bool true)]) (fun _ =>
 (ref04_in_s a0 a1 (.int .i64 244) (.int .i64 244)).bind fun v73 =>
 icond (nth v73 0) (fun _ =>
 (ibin .add a1 (.int .i64 1)).bind fun v74 =>
 (ref04_in_s a0 v74 (.int .i64 128) (.int .i64 143)).bind fun v75 =>
 some [(nth v75 0)]) (fun _ =>
 some [(.bool false)]))) (fun _ =>
 (ref04_in_s a0 a1 (.int .i64 244) (.int .i64 244)).bind fun v76 =>
 icond (nth v76 0) (fun _ =>
 (ibin .add a1 (.int .i64 1)).bind fun v77 =>
 (ref04_in_s a0 v77 (.int .i64 128) (.int .i64 143)).bind fun v78 =>
 some [(nth v78 0)]) (fun _ =>
 some [(.bool false)])))) (fun _ =>
 some [(.bool false)])) (fun _ =>
 some [(.bool false)])).bind fun v79 =>
 icond (nth v79 0) (fun _ =>
 scal [(.int .i64 4)]) (fun _ =>
 scal [(.int .i64 0)]))))

def ref04_First_l2 (a0 : IV) (v1 : List IV) : Option SR :=
 (ilenS a0).bind fun v2 =>
 (ibin .lss (nth v1 0) v2).bind fun v3 =>
 icond v3 (fun _ =>
 (ref04_sign_s a0 (nth v1 0)).bind fun v4 =>
 (ibin .eql (nth v4 0) (.int .i64 0)).bind fun v5 =>
 icond v5 (fun _ =>
 some (.done 1 [(nth v1 0), (.bool true)])) (fun _ =>
 (ibin .add (nth v1 0) (nth v4 0)).bind fun v6 =>
 some (.next [v6]))) (fun _ =>
 some (.done 0 []))
def ref04_First_s (a0 : IV) : Option (List IV) :=
 (iter rounds (ref04_First_l2 a0) [(.int .i64 0)]).bind fun v7 =>
 sel v7.1 [scal [(.int .i64 0), (.bool false)],
 scal [(nth v7.2 0), (nth v7.2 1)]]

def ref04_Valid_s (a0 : IV) : Option (List IV) :=
 (ref04_First_s a0).bind fun v1 =>
 (iun .not (nth v1 1)).bind fun v2 =>
 scal [v2]

def ref12_One_s (a0 a1 a2 a3 : IV) : Option (List IV) :=
 ((ibin .geq a0 (.int .i64 1)).bind fun v1 =>
 icond v1 (fun _ =>
 (ibin .leq a0 (.int .i64 2147483647)).bind fun v2 =>
 icond v2 (fun _ =>
 (ibin .geq a1 (.int .i64 0)).bind fun v3 =>
 icond v3 (fun _ =>
 (ibin .leq a1 (.int .i64 2147483647)).bind fun v4 =>
 icond v4 (fun _ =>
 (ilenS a2).bind fun v5 =>
 (ibin .leq v5 (.int .i64 64)).bind fun v6 =>
 icond v6 (fun _ =>
 (ref04_Valid_s a2).bind fun v7 =>
 some [(nth v7 0)]) (fun _ =>
 some [(.bool false)])) (fun _ =>
 some [(.bool false)])) (fun _ =>
 some [(.bool false)])) (fun _ =>
 some [(.bool false)])) (fun _ =>
 some [(.bool false)])).bind fun v8 =>
 scal [(nth v8 0)]

def ref12_May_l4 (a0 : IV) (v3 : List IV) : Option SR :=
 (ilenL a0).bind fun v4 =>
 (ibin .lss (nth v3 0) v4).bind fun v5 =>
 icond v5 (fun _ =>
 ((iidx a0 (nth v3 0) 4).bind fun v6 =>
 (ildN a0 v6 0 4).bind fun v7 =>
 (ref12_One_s (nth v7 0) (nth v7 1) (nth v7 2) (nth v7 3)).bind fun v8 =>
 (iun .not (nth v8 0)).bind fun v9 =>
 icond v9 (fun _ =>
 some [(.bool true)]) (fun _ =>
 (ibin .gtr (nth v3 0) (.int .i64 0)).bind fun v10 =>
 icond v10 (fun _ =>
 (ibin .sub (nth v3 0) (.int .i64 1)).bind fun v11 =>
 (iidx a0 v11 4).bind fun v12 =>
 (ild a0 v12 0).bind fun v13 =>
 (iidx a0 (nth v3 0) 4).bind fun v14 =>
 (ild a0 v14 0).bind fun v15 =>
 (ibin .geq v13 v15).bind fun v16 =>
 some [v16]) (fun _ =>
 some [(.bool false)]))).bind fun v17 =>
 icond (nth v17 0) (fun _ =>
 some (.done 1 [(.bool false)])) (fun _ =>
 (ibin .add (nth v3 0) (.int .i64 1)).bind fun v18 =>
 some (.next [v18]))) (fun _ =>
 some (.done 0 []))
def ref12_May_l9 (a0 : IV) (v20 : List IV) : Option SR :=
 (ilenL a0).bind fun v21 =>
 (ibin .lss (nth v20 0) v21).bind fun v22 =>
 icond v22 (fun _ =>
 (iidx a0 (nth v20 0) 4).bind fun v23 =>
 (ild a0 v23 0).bind fun v24 =>
 (iidx a0 (nth v20 0) 4).bind fun v25 =>
 (ild a0 v25 0).bind fun v26 =>
 (ref12_Above_s a0 v24 v26).bind fun v27 =>
 icond (nth v27 0) (fun _ =>
 some (.done 1 [(.bool false)])) (fun _ =>
 (ibin .add (nth v20 0) (.int .i64 1)).bind fun v28 =>
 some (.next [v28]))) (fun _ =>
 some (.done 0 []))
def ref12_May_s (a0 : IV) : Option (List IV) :=
 (ilenL a0).bind fun v1 =>
 (ibin .gtr v1 (.int .i64 2000)).bind fun v2 =>
 icond v2 (fun _ =>
 scal [(.bool false)]) (fun _ =>
 (iter rounds (ref12_May_l4 a0) [(.int .i64 0)]).bind fun v19 =>
 sel v19.1 [(iter rounds (ref12_May_l9 a0) [(.int .i64 0)]).bind fun v29 =>
 sel v29.1 [scal [(.bool true)],
 scal [(nth v29.2 0)]],
 scal [(nth v19.2 0)]])

def ref13_Time_s (a0 a1 : IV) : Option (List IV) :=
 ((ibin .geq a0 (.int .i64 1)).bind fun v1 =>
 icond v1 (fun _ =>
 (ibin .leq a0 (.int .i64 4611686018427387903)).bind fun v2 =>
 icond v2 (fun _ =>
 (ibin .geq a1 (.int .i64 1)).bind fun v3 =>
 icond v3 (fun _ =>
 (ibin .leq a1 (.int .i64 255)).bind fun v4 =>
 some [v4]) (fun _ =>
 some [(.bool false)])) (fun _ =>
 some [(.bool false)])) (fun _ =>
 some [(.bool false)])).bind fun v5 =>
 scal [(nth v5 0)]

def ref13_One_s (a0 a1 a2 a3 a4 a5 : IV) : Option (List IV) :=
 ((ref13_Time_s a0 a1).bind fun v1 =>
 icond (nth v1 0) (fun _ =>
 (ref13_Row_s a0 a1 a2 a3 a4 a5).bind fun v2 =>
 (ref12_One_s (nth v2 0) (nth v2 1) (nth v2 2) (nth v2 3)).bind fun v3 =>
 some [(nth v3 0)]) (fun _ =>
 some [(.bool false)])).bind fun v4 =>
 scal [(nth v4 0)]

def tree_Find_s (a0 a1 : IV) : Option (List IV) :=
 (tree_place_s a0 a1).bind fun v1 =>
 icond (nth v1 1) (fun _ =>
 (iidx a0 (nth v1 0) 4).bind fun v2 =>
 (ildN a0 v2 0 4).bind fun v3 =>
 scal [(nth v3 0), (nth v3 1), (nth v3 2), (nth v3 3), (.bool true)]) (fun _ =>
 scal [(.int .i64 0), (.int .i64 0), (.str ⟨#[]⟩), (.flt .f64 0), (.bool false)])

def law14_FoldOthers_s (a0 a1 a2 a3 a4 a5 a6 a7 a8 : IV) : Option (List IV) :=
 ((ref12_Few_s a0).bind fun v1 =>
 (iun .not (nth v1 0)).bind fun v2 =>
 icond v2 (fun _ =>
 some [(.bool true)]) (fun _ =>
 (ilenS a5).bind fun v3 =>
 (ibin .gtr v3 (.int .i64 100)).bind fun v4 =>
 icond v4 (fun _ =>
 some [(.bool true)]) (fun _ =>
 (ref12_May_s a0).bind fun v5 =>
 (iun .not (nth v5 0)).bind fun v6 =>
 icond v6 (fun _ =>
 some [(.bool true)]) (fun _ =>
 (ref13_One_s a1 a2 a3 a4 a5 a6).bind fun v7 =>
 (iun .not (nth v7 0)).bind fun v8 =>
 some [v8])))).bind fun v9 =>
 icond (nth v9 0) (fun _ =>
 (law14_live_s).bind fun v10 =>
 scal [(nth v10 0)]) (fun _ =>
 (fold_Do_s a0 a1 a2 a3 a4 a5 a6).bind fun v11 =>
 (ibin .neq a7 a4).bind fun v12 =>
 icond v12 (fun _ =>
 (tree_Find_s a0 a7).bind fun v13 =>
 (tree_Find_s (nth v11 0) a7).bind fun v14 =>
 ((ibinB .neq (nth v13 4) (nth v14 4)).bind fun v15 =>
 icond v15 (fun _ =>
 some [(.bool true)]) (fun _ =>
 (ref12_Alike_s (nth v13 0) (nth v13 1) (nth v13 2) (nth v13 3) (nth v14 0) (nth v14 1) (nth v14 2) (nth v14 3)).bind fun v16 =>
 (iun .not (nth v16 0)).bind fun v17 =>
 some [v17])).bind fun v18 =>
 icond (nth v18 0) (fun _ =>
 scal [(.bool false)]) (fun _ =>
 ((ibin .neq a8 a4).bind fun v19 =>
 icond v19 (fun _ =>
 (tree_Above_s a0 a4 a8).bind fun v20 =>
 (iun .not (nth v20 0)).bind fun v21 =>
 icond v21 (fun _ =>
 (tree_Above_s a0 a7 a8).bind fun v22 =>
 (tree_Above_s (nth v11 0) a7 a8).bind fun v23 =>
 (ibinB .neq (nth v22 0) (nth v23 0)).bind fun v24 =>
 some [v24]) (fun _ =>
 some [(.bool false)])) (fun _ =>
 some [(.bool false)])).bind fun v25 =>
 icond (nth v25 0) (fun _ =>
 scal [(.bool false)]) (fun _ =>
 (law14_live_s).bind fun v26 =>
 scal [(nth v26 0)]))) (fun _ =>
 ((ibin .neq a8 a4).bind fun v27 =>
 icond v27 (fun _ =>
 (tree_Above_s a0 a4 a8).bind fun v28 =>
 (iun .not (nth v28 0)).bind fun v29 =>
 icond v29 (fun _ =>
 (tree_Above_s a0 a7 a8).bind fun v30 =>
 (tree_Above_s (nth v11 0) a7 a8).bind fun v31 =>
 (ibinB .neq (nth v30 0) (nth v31 0)).bind fun v32 =>
 some [v32]) (fun _ =>
 some [(.bool false)])) (fun _ =>
 some [(.bool false)])).bind fun v33 =>
 icond (nth v33 0) (fun _ =>
 scal [(.bool false)]) (fun _ =>
 (law14_live_s).bind fun v34 =>
 scal [(nth v34 0)])))

def law14_FoldTree_l5 (a0 : IV) (v9 : List IV) : Option SR :=
 (ilenL a0).bind fun v10 =>
 (ibin .lss (nth v9 1) v10).bind fun v11 =>
 icond v11 (fun _ =>
 (iidx a0 (nth v9 1) 4).bind fun v12 =>
 (ild a0 v12 0).bind fun v13 =>
 (imputK (.int .i64) (nth v9 0) v13 (.bool true)).bind fun v14 =>
 (ibin .add (nth v9 1) (.int .i64 1)).bind fun v15 =>
 some (.next [v14, v15])) (fun _ =>
 some (.done 0 [(nth v9 0)]))
def law14_FoldTree_l10 (a1 : IV) (v17 : List IV) : Option SR :=
 (ilenL a1).bind fun v18 =>
 (ibin .lss (nth v17 2) v18).bind fun v19 =>
 icond v19 (fun _ =>
 (iidx a1 (nth v17 2) 6).bind fun v20 =>
 (ildN a1 v20 0 6).bind fun v21 =>
 (ref13_One_s (nth v21 0) (nth v21 1) (nth v21 2) (nth v21 3) (nth v21 4) (nth v21 5)).bind fun v22 =>
 (iun .not (nth v22 0)).bind fun v23 =>
 icond v23 (fun _ =>
 (law14_live_s).bind fun v24 =>
 some (.done 1 [(nth v24 0)])) (fun _ =>
 (iidx a1 (nth v17 2) 6).bind fun v25 =>
 (ildN a1 v25 0 6).bind fun v26 =>
 (fold_Do_s (nth v17 1) (nth v26 0) (nth v26 1) (nth v26 2) (nth v26 3) (nth v26 4) (nth v26 5)).bind fun v27 =>
 icond (nth v27 1) (fun _ =>
 (iidx a1 (nth v17 2) 6).bind fun v28 =>
 (ild a1 v28 3).bind fun v29 =>
 (imputK (.int .i64) (nth v17 0) v29 (.bool true)).bind fun v30 =>
 (iidx a1 (nth v17 2) 6).bind fun v31 =>
 (ild a1 v31 3).bind fun v32 =>
 (tree_Find_s (nth v27 0) v32).bind fun v33 =>
 ((iun .not (nth v33 4)).bind fun v34 =>
 icond v34 (fun _ =>
 some [(.bool true)]) (fun _ =>
 (iidx a1 (nth v17 2) 6).bind fun v35 =>
 (ildN a1 v35 0 6).bind fun v36 =>
 (ref13_Row_s (nth v36 0) (nth v36 1) (nth v36 2) (nth v36 3) (nth v36 4) (nth v36 5)).bind fun v37 =>
 (ref12_Alike_s (nth v33 0) (nth v33 1) (nth v33 2) (nth v33 3) (nth v37 0) (nth v37 1) (nth v37 2) (nth v37 3)).bind fun v38 =>
 (iun .not (nth v38 0)).bind fun v39 =>
 some [v39])).bind fun v40 =>
 icond (nth v40 0) (fun _ =>
 some (.done 1 [(.bool false)])) (fun _ =>
 (ibin .add (nth v17 2) (.int .i64 1)).bind fun v41 =>
 some (.next [v30, (nth v27 0), v41]))) (fun _ =>
 (ref12_Same_s (nth v27 0) (nth v17 1)).bind fun v42 =>
 (iun .not (nth v42 0)).bind fun v43 =>
 icond v43 (fun _ =>
 some (.done 1 [(.bool false)])) (fun _ =>
 (ibin .add (nth v17 2) (.int .i64 1)).bind fun v44 =>
 some (.next [(nth v17 0), (nth v27 0), v44]))))) (fun _ =>
 some (.done 0 [(nth v17 0), (nth v17 1)]))
def law14_FoldTree_l26 (v45 : Nat × List IV) (v55 : List IV) : Option SR :=
 (ilenL (nth v45.2 1)).bind fun v56 =>
 (ibin .lss (nth v55 0) v56).bind fun v57 =>
 icond v57 (fun _ =>
 (iidx (nth v45.2 1) (nth v55 0) 4).bind fun v58 =>
 (ild (nth v45.2 1) v58 0).bind fun v59 =>
 (imgetK (.int .i64) (nth v45.2 0) v59 (.bool false)).bind fun v60 =>
 (iun .not (nth v60 0)).bind fun v61 =>
 icond v61 (fun _ =>
 some (.done 1 [(.bool false)])) (fun _ =>
 (ibin .add (nth v55 0) (.int .i64 1)).bind fun v62 =>
 some (.next [v62]))) (fun _ =>
 some (.done 0 []))
def law14_FoldTree_s (a0 a1 : IV) : Option (List IV) :=
 ((ref12_Few_s a0).bind fun v1 =>
 (iun .not (nth v1 0)).bind fun v2 =>
 icond v2 (fun _ =>
 some [(.bool true)]) (fun _ =>
 (ref13_Few_s a1 (.int .i64 60)).bind fun v3 =>
 (iun .not (nth v3 0)).bind fun v4 =>
 icond v4 (fun _ =>
 some [(.bool true)]) (fun _ =>
 (ref12_May_s a0).bind fun v5 =>
 (iun .not (nth v5 0)).bind fun v6 =>
 some [v6]))).bind fun v7 =>
 icond (nth v7 0) (fun _ =>
 (law14_live_s).bind fun v8 =>
 scal [(nth v8 0)]) (fun _ =>
 (iter rounds (law14_FoldTree_l5 a0) [(.map []), (.int .i64 0)]).bind fun v16 =>
 sel v16.1 [(iter rounds (law14_FoldTree_l10 a1) [(nth v16.2 0), a0, (.int .i64 0)]).bind fun v45 =>
 sel v45.1 [((tree_May_s (nth v45.2 1)).bind fun v46 =>
 (iun .not (nth v46 0)).bind fun v47 =>
 icond v47 (fun _ =>
 some [(.bool true)]) (fun _ =>
 (ilenL (nth v45.2 1)).bind fun v48 =>
 (imlen (nth v45.2 0)).bind fun v49 =>
 (ibin .neq v48 v49).bind fun v50 =>
 icond v50 (fun _ =>
 some [(.bool true)]) (fun _ =>
 (fold_All_s a0 a1).bind fun v51 =>
 (ref12_Same_s (nth v45.2 1) (nth v51 0)).bind fun v52 =>
 (iun .not (nth v52 0)).bind fun v53 =>
 some [v53]))).bind fun v54 =>
 icond (nth v54 0) (fun _ =>
 scal [(.bool false)]) (fun _ =>
 (iter rounds (law14_FoldTree_l26 v45) [(.int .i64 0)]).bind fun v63 =>
 sel v63.1 [(law14_live_s).bind fun v64 =>
 scal [(nth v64 0)],
 scal [(nth v63.2 0)]]),
 scal [(nth v45.2 0)]]])

end Go.AM

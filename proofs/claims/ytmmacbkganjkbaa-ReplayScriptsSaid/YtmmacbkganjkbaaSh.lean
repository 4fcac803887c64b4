/- The functions of the program that are reached, as the abstract machine runs them; printed by a program of this work. -/
import Derived.Test.YtmmacbkganjkbaaAe
set_option linter.unusedVariables false
namespace Go.AM
abbrev n_law16_ReplayScripts : Nat := 7
abbrev n_law16_ReplayNil : Nat := 8
abbrev n_law16_ReplayOrder : Nat := 10
abbrev n_law16_ReplayParts : Nat := 11
abbrev n_law16_ReplayTells : Nat := 12
abbrev n_ref12_Few : Nat := 13
abbrev n_undo_Do : Nat := 16
abbrev n_ref15_Do : Nat := 17
abbrev n_ref12_Same : Nat := 18
abbrev n_ref15_Alike : Nat := 19
abbrev n_undo_Undo : Nat := 20
abbrev n_ref13_Few : Nat := 22
abbrev n_undo_Run : Nat := 23
abbrev n_ref15_Run : Nat := 24
abbrev n_ref15_Same : Nat := 25
abbrev n_ref13_Same : Nat := 28
abbrev n_undo_Moves : Nat := 29
abbrev n_ref12_May : Nat := 32
abbrev n_tree_Find : Nat := 33
abbrev n_fold_Barred : Nat := 34
abbrev n_ref12_Alike : Nat := 35
abbrev n_ref13_Alike : Nat := 36
abbrev n_law16_live : Nat := 37
abbrev n_replay_New : Nat := 38
abbrev n_replay_Tree_Add : Nat := 39
abbrev n_ref16_Tree_Add : Nat := 40
abbrev n_replay_Tree_Rows : Nat := 41
abbrev n_ref16_Tree_Rows : Nat := 42
abbrev n_replay_Tree_Log : Nat := 43
abbrev n_replay_Tree_Steps : Nat := 44
abbrev n_ref16_Tree_Steps : Nat := 45
abbrev n_replay_Tree_Base : Nat := 46
abbrev n_fold_All : Nat := 47
abbrev n_law16_all : Nat := 48
abbrev n_ref02_Before : Nat := 49
abbrev n_ref13_May : Nat := 50
abbrev n_ref13_Since : Nat := 51
abbrev n_ref13_One : Nat := 52
abbrev n_tree_May : Nat := 53
abbrev n_fold_Do : Nat := 54
abbrev n_ref14_Do : Nat := 55
abbrev n_ref12_Find : Nat := 56
abbrev n_tree_Set : Nat := 57
abbrev n_tree_Drop : Nat := 58
abbrev n_ref12_Set : Nat := 59
abbrev n_ref12_One : Nat := 64
abbrev n_ref12_Above : Nat := 65
abbrev n_tree_place : Nat := 66
abbrev n_tree_Above : Nat := 67
abbrev n_ref01_Same : Nat := 68
abbrev n_ref13_Row : Nat := 69
abbrev n_law16_live_1 : Nat := 70
abbrev n_slices_Clone_Row : Nat := 71
abbrev n_moves_Insert : Nat := 72
abbrev n_slices_Reverse_Move : Nat := 73
abbrev n_ref13_Insert : Nat := 74
abbrev n_slices_Clone_Step : Nat := 75
abbrev n_ref13_Time : Nat := 76
abbrev n_tree_One : Nat := 77
abbrev n_moves_Row : Nat := 80
abbrev n_ref14_Barred : Nat := 81
abbrev n_ref12_place : Nat := 82
abbrev n_slices_IndexFunc_Row : Nat := 83
abbrev n_tree_Set_1 : Nat := 84
abbrev n_slices_Insert_Row : Nat := 85
abbrev n_slices_Delete_Row : Nat := 86
abbrev n_ref04_Valid : Nat := 93
abbrev n_tree_place_1 : Nat := 94
abbrev n_ref01_Bits : Nat := 95
abbrev n_moves_seek : Nat := 96
abbrev n_moves_when_is : Nat := 97
abbrev n_moves_when_before : Nat := 98
abbrev n_slices_Insert_Move : Nat := 99
abbrev n_slices_Clone_Move : Nat := 100
abbrev n_word_Valid : Nat := 101
abbrev n_ref04_First : Nat := 106
abbrev n_ref01_None : Nat := 107
abbrev n_ref01_Minus : Nat := 108
abbrev n_ref01_top : Nat := 109
abbrev n_rank_Before : Nat := 110
abbrev n_word_signs : Nat := 113
abbrev n_ref04_sign : Nat := 117
abbrev n_rank_first : Nat := 118
abbrev n_rank_Before_1 : Nat := 119
abbrev n_cmp_Compare_int : Nat := 120
abbrev n_rank_Before_2 : Nat := 121
abbrev n_word_head : Nat := 123
abbrev n_ref04_in : Nat := 126
abbrev n_cmp_isNaN_int : Nat := 127
abbrev tree_Above_s := aboveS
abbrev slices_Clone_Row_s := cloneS 4 40
abbrev slices_Clone_Step_s := cloneS 12 104
abbrev slices_Insert_Row_s := insertS 4 40
abbrev slices_Delete_Row_s := deleteS
abbrev slices_Insert_Move_s := insertS 6 56
abbrev slices_Clone_Move_s := cloneS 6 56
def word_head_s (a0 : IV) : Option (List IV) :=
 (ibin .lss a0 (.int .u8 128)).bind fun v1 =>
 icond v1 (fun _ =>
 scal [(.int .i64 0), (.int .u8 128), (.int .u8 191), (.bool true)]) (fun _ =>
 (ibin .lss a0 (.int .u8 194)).bind fun v2 =>
 icond v2 (fun _ =>
 scal [(.int .i64 0), (.int .u8 128), (.int .u8 191), (.bool false)]) (fun _ =>
 (ibin .lss a0 (.int .u8 224)).bind fun v3 =>
 icond v3 (fun _ =>
 scal [(.int .i64 1), (.int .u8 128), (.int .u8 191), (.bool true)]) (fun _ =>
 (ibin .lss a0 (.int .u8 240)).bind fun v4 =>
 icond v4 (fun _ =>
 (ibin .eql a0 (.int .u8 224)).bind fun v5 =>
 icond v5 (fun _ =>
 scal [(.int .i64 2), (.int .u8 160), (.int .u8 191), (.bool true)]) (fun _ =>
 (ibin .eql a0 (.int .u8 237)).bind fun v6 =>
 icond v6 (fun _ =>
 scal [(.int .i64 2), (.int .u8 128), (.int .u8 159), (.bool true)]) (fun _ =>
 scal [(.int .i64 2), (.int .u8 128), (.int .u8 191), (.bool true)]))) (fun _ =>
 (ibin .lss a0 (.int .u8 245)).bind fun v7 =>
 icond v7 (fun _ =>
 (ibin .eql a0 (.int .u8 240)).bind fun v8 =>
 icond v8 (fun _ =>
 scal [(.int .i64 3), (.int .u8 144), (.int .u8 191), (.bool true)]) (fun _ =>
 (ibin .eql a0 (.int .u8 244)).bind fun v9 =>
 icond v9 (fun _ =>
 scal [(.int .i64 3), (.int .u8 128), (.int .u8 143), (.bool true)]) (fun _ =>
 scal [(.int .i64 3), (.int .u8 128), (.int .u8 191), (.bool true)]))) (fun _ =>
 scal [(.int .i64 0), (.int .u8 128), (.int .u8 191), (.bool false)])))))

def word_signs_l6 (v16 : IV) (v15 : IV) (v17 : List IV) : Option SR :=
 (ibin .lss (nth v17 2) v16).bind fun v18 =>
 icond v18 (fun _ =>
 (iidx v15 (nth v17 2) 1).bind fun v19 =>
 (ild v15 v19 0).bind fun v20 =>
 ((ibin .lss v20 (nth v17 0)).bind fun v21 =>
 icond v21 (fun _ =>
 some [(.bool true)]) (fun _ =>
 (ibin .gtr v20 (nth v17 1)).bind fun v22 =>
 some [v22])).bind fun v23 =>
 icond (nth v23 0) (fun _ =>
 some (.done 1 [])) (fun _ =>
 (ibin .add (nth v17 2) (.int .i64 1)).bind fun v24 =>
 some (.next [(.int .u8 128), (.int .u8 191), v24]))) (fun _ =>
 some (.done 0 []))
def word_signs_l2 (a0 : IV) (v1 : List IV) : Option SR :=
 (ilenS a0).bind fun v2 =>
 (ibin .lss (nth v1 1) v2).bind fun v3 =>
 icond v3 (fun _ =>
 (istr a0 (nth v1 1)).bind fun v4 =>
 (word_head_s v4).bind fun v5 =>
 ((iun .not (nth v5 3)).bind fun v6 =>
 icond v6 (fun _ =>
 some [(.bool true)]) (fun _ =>
 (ilenS a0).bind fun v7 =>
 (ibin .sub v7 (nth v1 1)).bind fun v8 =>
 (ibin .leq v8 (nth v5 0)).bind fun v9 =>
 some [v9])).bind fun v10 =>
 icond (nth v10 0) (fun _ =>
 some (.done 0 [(nth v1 0), (nth v1 1)])) (fun _ =>
 (ibin .add (nth v1 1) (.int .i64 1)).bind fun v11 =>
 (ibin .add (nth v1 1) (.int .i64 1)).bind fun v12 =>
 (ibin .add v12 (nth v5 0)).bind fun v13 =>
 (islcS a0 (some v11) (some v13)).bind fun v14 =>
 (icvb v14).bind fun v15 =>
 (ilenL v15).bind fun v16 =>
 (iter rounds (word_signs_l6 v16 v15) [(nth v5 1), (nth v5 2), (.int .i64 0)]).bind fun v25 =>
 sel v25.1 [(ibin .add (.int .i64 1) (nth v5 0)).bind fun v26 =>
 (ibin .add (nth v1 1) v26).bind fun v27 =>
 (ibin .add (nth v1 0) (.int .i64 1)).bind fun v28 =>
 some (.next [v28, v27]),
 some (.done 0 [(nth v1 0), (nth v1 1)])])) (fun _ =>
 some (.done 0 [(nth v1 0), (nth v1 1)]))
def word_signs_s (a0 : IV) : Option (List IV) :=
 (iter rounds (word_signs_l2 a0) [(.int .i64 0), (.int .i64 0)]).bind fun v29 =>
 sel v29.1 [scal [(nth v29.2 0), (nth v29.2 1)]]

def word_Valid_s (a0 : IV) : Option (List IV) :=
 (word_signs_s a0).bind fun v1 =>
 (ilenS a0).bind fun v2 =>
 (ibin .eql (nth v1 1) v2).bind fun v3 =>
 scal [v3]

def tree_One_s (a0 a1 a2 a3 : IV) : Option (List IV) :=
 ((ibin .geq a0 (.int .i64 1)).bind fun v1 =>
 icond v1 (fun _ =>
 (ibin .leq a0 (.int .i64 2147483647)).bind fun v2 =>
 icond v2 (fun _ =>
 (ibin .geq a1 (.int .i64 0)).bind fun v3 =>
 icond v3 (fun _ =>
 (ibin .leq a1 (.int .i64 2147483647)).bind fun v4 =>
 icond v4 (fun _ =>
 (ilenS a2).bind fun v5 =>
 (ibin .leq v5 (.int .i64 64)).bind fun v6 =>
 icond v6 (fun _ =>
 (word_Valid_s a2).bind fun v7 =>
 some [(nth v7 0)]) (fun _ =>
 some [(.bool false)])) (fun _ =>
 some [(.bool false)])) (fun _ =>
 some [(.bool false)])) (fun _ =>
 some [(.bool false)])) (fun _ =>
 some [(.bool false)])).bind fun v8 =>
 scal [(nth v8 0)]

abbrev tree_May_s (x : IV) : Option (List IV) := mayS (fun l => match l with | [[x0, x1, x2, x3]] => tree_One_s x0 x1 x2 x3 | _ => none) x
def slices_IndexFunc_Row_l2 (C : IV → List Nat → List (List IV) → Option (List IV)) (v1 : IV) (a0 : IV) (a1 : IV) (v2 : List IV) : Option SR :=
 (ibin .lss (nth v2 0) v1).bind fun v3 =>
 icond v3 (fun _ =>
 (iidx a0 (nth v2 0) 4).bind fun v4 =>
 (ildN a0 v4 0 4).bind fun v5 =>
 (C a1 [1] [[(nth v5 0), (nth v5 1), (nth v5 2), (nth v5 3)]]).bind fun v6 =>
 icond (nth v6 0) (fun _ =>
 some (.done 1 [(nth v2 0)])) (fun _ =>
 (ibin .add (nth v2 0) (.int .i64 1)).bind fun v7 =>
 some (.next [v7]))) (fun _ =>
 some (.done 0 []))
def slices_IndexFunc_Row_s (C : IV → List Nat → List (List IV) → Option (List IV)) (a0 a1 : IV) : Option (List IV) :=
 (ilenL a0).bind fun v1 =>
 (iter rounds (slices_IndexFunc_Row_l2 C v1 a0 a1) [(.int .i64 0)]).bind fun v8 =>
 sel v8.1 [scal [(.int .i64 (-1))],
 scal [(nth v8.2 0)]]

def tree_place_1_s (a0 a1 a2 a3 a4 : IV) : Option (List IV) :=
 (ipld a4 0).bind fun v1 =>
 (ibin .eql a0 v1).bind fun v2 =>
 scal [v2]

def Cx_tree_place : IV → List Nat → List (List IV) → Option (List IV) :=
  tbl n_tree_place_1 [1] (fun caps l => match caps, l with | [a4], [[a0, a1, a2, a3]] => tree_place_1_s a0 a1 a2 a3 a4 | _, _ => none) <|
  fun _ _ _ => none
def tree_place_s (a0 a1 : IV) : Option (List IV) :=
 (slices_IndexFunc_Row_s (Cx_tree_place) a0 (.clo (.func n_tree_place_1) [(.ptr [a1] 0)])).bind fun v1 =>
 (ibin .geq (nth v1 0) (.int .i64 0)).bind fun v2 =>
 scal [(nth v1 0), v2]

def tree_Set_1_s (a0 a1 a2 a3 a4 : IV) : Option (List IV) :=
 (ipnn a4).bind fun v1 =>
 (ipld v1 0).bind fun v2 =>
 (ibin .gtr a0 v2).bind fun v3 =>
 scal [v3]

def Cx_tree_Set : IV → List Nat → List (List IV) → Option (List IV) :=
  tbl n_tree_Set_1 [1] (fun caps l => match caps, l with | [a4], [[a0, a1, a2, a3]] => tree_Set_1_s a0 a1 a2 a3 a4 | _, _ => none) <|
  fun _ _ _ => none
def tree_Set_s (a0 a1 a2 a3 a4 : IV) : Option (List IV) :=
 (slices_Clone_Row_s a0).bind fun v1 =>
 (tree_place_s a0 a1).bind fun v2 =>
 icond (nth v2 1) (fun _ =>
 (ibidx (llen (nth v1 0)) (nth v2 0)).bind fun v3 =>
 (iset (nth v1 0) v3 0 [a1, a2, a3, a4]).bind fun v4 =>
 some [v4]) (fun _ =>
 (slices_IndexFunc_Row_s (Cx_tree_Set) a0 (.clo (.func n_tree_Set_1) [(.ptr [a1, a2, a3, a4] 0)])).bind fun v5 =>
 (ibin .lss (nth v5 0) (.int .i64 0)).bind fun v6 =>
 icond v6 (fun _ =>
 (ilenL a0).bind fun v7 =>
 (slices_Insert_Row_s (nth v1 0) v7 (.lst [[a1, a2, a3, a4]])).bind fun v8 =>
 some [(nth v8 0)]) (fun _ =>
 (slices_Insert_Row_s (nth v1 0) (nth v5 0) (.lst [[a1, a2, a3, a4]])).bind fun v9 =>
 some [(nth v9 0)]))

def tree_Drop_s (a0 a1 : IV) : Option (List IV) :=
 (tree_place_s a0 a1).bind fun v1 =>
 (iun .not (nth v1 1)).bind fun v2 =>
 icond v2 (fun _ =>
 some [a0]) (fun _ =>
 (slices_Clone_Row_s a0).bind fun v3 =>
 (ibin .add (nth v1 0) (.int .i64 1)).bind fun v4 =>
 (slices_Delete_Row_s (nth v3 0) (nth v1 0) v4).bind fun v5 =>
 some [(nth v5 0)])

def undo_Undo_s (a0 a1 a2 a3 a4 a5 a6 a7 a8 a9 a10 a11 a12 : IV) : Option (List IV) :=
 (iun .not a7).bind fun v1 =>
 icond v1 (fun _ =>
 some [a0]) (fun _ =>
 icond a8 (fun _ =>
 (tree_Set_s a0 a9 a10 a11 a12).bind fun v2 =>
 some [(nth v2 0)]) (fun _ =>
 (tree_Drop_s a0 a4).bind fun v3 =>
 some [(nth v3 0)]))

def ref12_place_l2 (a0 : IV) (a1 : IV) (v1 : List IV) : Option SR :=
 (ilenL a0).bind fun v2 =>
 (ibin .lss (nth v1 0) v2).bind fun v3 =>
 icond v3 (fun _ =>
 (iidx a0 (nth v1 0) 4).bind fun v4 =>
 (ild a0 v4 0).bind fun v5 =>
 (ibin .eql v5 a1).bind fun v6 =>
 icond v6 (fun _ =>
 some (.done 1 [(nth v1 0)])) (fun _ =>
 (ibin .add (nth v1 0) (.int .i64 1)).bind fun v7 =>
 some (.next [v7]))) (fun _ =>
 some (.done 0 []))
def ref12_place_s (a0 a1 : IV) : Option (List IV) :=
 (iter rounds (ref12_place_l2 a0 a1) [(.int .i64 0)]).bind fun v8 =>
 sel v8.1 [scal [(.int .i64 (-1))],
 scal [(nth v8.2 0)]]

def ref12_Find_s (a0 a1 : IV) : Option (List IV) :=
 (ref12_place_s a0 a1).bind fun v1 =>
 (ibin .lss (nth v1 0) (.int .i64 0)).bind fun v2 =>
 icond v2 (fun _ =>
 scal [(.int .i64 0), (.int .i64 0), (.str ⟨#[]⟩), (.flt .f64 0), (.bool false)]) (fun _ =>
 (iidx a0 (nth v1 0) 4).bind fun v3 =>
 (ildN a0 v3 0 4).bind fun v4 =>
 scal [(nth v4 0), (nth v4 1), (nth v4 2), (nth v4 3), (.bool true)])

def ref12_Above_l2 (a0 : IV) (a1 : IV) (v1 : List IV) : Option SR :=
 (ilenL a0).bind fun v2 =>
 (ibin .lss (nth v1 1) v2).bind fun v3 =>
 icond v3 (fun _ =>
 (ref12_Find_s a0 (nth v1 0)).bind fun v4 =>
 (iun .not (nth v4 4)).bind fun v5 =>
 icond v5 (fun _ =>
 some (.done 1 [(.bool false)])) (fun _ =>
 (ibin .eql (nth v4 1) a1).bind fun v6 =>
 icond v6 (fun _ =>
 some (.done 1 [(.bool true)])) (fun _ =>
 (ibin .add (nth v1 1) (.int .i64 1)).bind fun v7 =>
 some (.next [(nth v4 1), v7])))) (fun _ =>
 some (.done 0 []))
def ref12_Above_s (a0 a1 a2 : IV) : Option (List IV) :=
 (iter rounds (ref12_Above_l2 a0 a1) [a2, (.int .i64 0)]).bind fun v8 =>
 sel v8.1 [scal [(.bool false)],
 scal [(nth v8.2 0)]]

def ref14_Barred_s (a0 a1 a2 a3 a4 a5 a6 : IV) : Option (List IV) :=
 ((ibin .eql a4 a3).bind fun v1 =>
 icond v1 (fun _ =>
 some [(.bool true)]) (fun _ =>
 (ibin .eql a4 (.int .i64 0)).bind fun v2 =>
 icond v2 (fun _ =>
 some [(.bool true)]) (fun _ =>
 (ref12_Above_s a0 a4 a3).bind fun v3 =>
 some [(nth v3 0)]))).bind fun v4 =>
 scal [(nth v4 0)]

def ref13_Row_s (a0 a1 a2 a3 a4 a5 : IV) : Option (List IV) :=
 scal [a3, a2, a4, a5]

def ref12_Set_l7 (a0 : IV) (a1 : IV) (v6 : List IV) : Option SR :=
 ((ilenL a0).bind fun v7 =>
 (ibin .lss (nth v6 0) v7).bind fun v8 =>
 icond v8 (fun _ =>
 (iidx a0 (nth v6 0) 4).bind fun v9 =>
 (ild a0 v9 0).bind fun v10 =>
 (ibin .lss v10 a1).bind fun v11 =>
 some [v11]) (fun _ =>
 some [(.bool false)])).bind fun v12 =>
 icond (nth v12 0) (fun _ =>
 (ibin .add (nth v6 0) (.int .i64 1)).bind fun v13 =>
 some (.next [v13])) (fun _ =>
 some (.done 0 [(nth v6 0)]))
def ref12_Set_s (a0 a1 a2 a3 a4 : IV) : Option (List IV) :=
 (ref12_place_s a0 a1).bind fun v1 =>
 (ibin .geq (nth v1 0) (.int .i64 0)).bind fun v2 =>
 icond v2 (fun _ =>
 (iapp 4 40 (.lst []) a0).bind fun v3 =>
 (ibidx (llen v3) (nth v1 0)).bind fun v4 =>
 (iset v3 v4 0 [a1, a2, a3, a4]).bind fun v5 =>
 some [v5]) (fun _ =>
 (iter rounds (ref12_Set_l7 a0 a1) [(.int .i64 0)]).bind fun v14 =>
 sel v14.1 [(islcL 4 a0 none (some (nth v14.2 0))).bind fun v15 =>
 (iapp 4 40 (.lst []) v15).bind fun v16 =>
 (iapp 4 40 v16 (.lst [[a1, a2, a3, a4]])).bind fun v17 =>
 (islcL 4 a0 (some (nth v14.2 0)) none).bind fun v18 =>
 (iapp 4 40 v17 v18).bind fun v19 =>
 some [v19]])

def ref14_Do_s (a0 a1 a2 a3 a4 a5 a6 : IV) : Option (List IV) :=
 (ref14_Barred_s a0 a1 a2 a3 a4 a5 a6).bind fun v1 =>
 icond (nth v1 0) (fun _ =>
 some [a0, (.bool false)]) (fun _ =>
 (ref13_Row_s a1 a2 a3 a4 a5 a6).bind fun v2 =>
 (ref12_Set_s a0 (nth v2 0) (nth v2 1) (nth v2 2) (nth v2 3)).bind fun v3 =>
 some [(nth v3 0), (.bool true)])

def ref15_Do_s (a0 a1 a2 a3 a4 a5 a6 : IV) : Option (List IV) :=
 (ref14_Do_s a0 a1 a2 a3 a4 a5 a6).bind fun v1 =>
 icond (nth v1 1) (fun _ =>
 (ref12_Find_s a0 a4).bind fun v2 =>
 some [(nth v1 0), a1, a2, a3, a4, a5, a6, (nth v1 1), (nth v2 4), (nth v2 0), (nth v2 1), (nth v2 2), (nth v2 3)]) (fun _ =>
 some [(nth v1 0), a1, a2, a3, a4, a5, a6, (nth v1 1), (.bool false), (.int .i64 0), (.int .i64 0), (.str ⟨#[]⟩), (.flt .f64 0)])

def ref15_Run_l3 (a1 : IV) (v1 : List IV) : Option SR :=
 (ilenL a1).bind fun v2 =>
 (ibin .lss (nth v1 2) v2).bind fun v3 =>
 icond v3 (fun _ =>
 (iidx a1 (nth v1 2) 6).bind fun v4 =>
 (ildN a1 v4 0 6).bind fun v5 =>
 (ref15_Do_s (nth v1 0) (nth v5 0) (nth v5 1) (nth v5 2) (nth v5 3) (nth v5 4) (nth v5 5)).bind fun v6 =>
 (iapp 12 104 (nth v1 1) (.lst [[(nth v6 1), (nth v6 2), (nth v6 3), (nth v6 4), (nth v6 5), (nth v6 6), (nth v6 7), (nth v6 8), (nth v6 9), (nth v6 10), (nth v6 11), (nth v6 12)]])).bind fun v7 =>
 (ibin .add (nth v1 2) (.int .i64 1)).bind fun v8 =>
 some (.next [(nth v6 0), v7, v8])) (fun _ =>
 some (.done 0 [(nth v1 0), (nth v1 1)]))
def ref15_Run_s (a0 a1 : IV) : Option (List IV) :=
 (iter rounds (ref15_Run_l3 a1) [a0, (.lst []), (.int .i64 0)]).bind fun v9 =>
 sel v9.1 [some [(nth v9.2 0), (nth v9.2 1)]]

abbrev ref16_Tree_Rows_s (x y : IV) : Option (List IV) := run16S ref15_Run_s 0 x y
abbrev ref16_Tree_Steps_s (x y : IV) : Option (List IV) := run16S ref15_Run_s 1 x y
def ref12_Few_l4 (a0 : IV) (v3 : List IV) : Option SR :=
 (ilenL a0).bind fun v4 =>
 (ibin .lss (nth v3 0) v4).bind fun v5 =>
 icond v5 (fun _ =>
 (iidx a0 (nth v3 0) 4).bind fun v6 =>
 (ild a0 v6 2).bind fun v7 =>
 (ilenS v7).bind fun v8 =>
 (ibin .gtr v8 (.int .i64 100)).bind fun v9 =>
 icond v9 (fun _ =>
 some (.done 1 [(.bool false)])) (fun _ =>
 (ibin .add (nth v3 0) (.int .i64 1)).bind fun v10 =>
 some (.next [v10]))) (fun _ =>
 some (.done 0 []))
def ref12_Few_s (a0 : IV) : Option (List IV) :=
 (ilenL a0).bind fun v1 =>
 (ibin .gtr v1 (.int .i64 60)).bind fun v2 =>
 icond v2 (fun _ =>
 scal [(.bool false)]) (fun _ =>
 (iter rounds (ref12_Few_l4 a0) [(.int .i64 0)]).bind fun v11 =>
 sel v11.1 [scal [(.bool true)],
 scal [(nth v11.2 0)]])

def fold_Barred_s (a0 a1 a2 a3 a4 a5 a6 : IV) : Option (List IV) :=
 ((ibin .eql a4 (.int .i64 0)).bind fun v1 =>
 icond v1 (fun _ =>
 some [(.bool true)]) (fun _ =>
 (ibin .eql a4 a3).bind fun v2 =>
 icond v2 (fun _ =>
 some [(.bool true)]) (fun _ =>
 (tree_Above_s a0 a4 a3).bind fun v3 =>
 some [(nth v3 0)]))).bind fun v4 =>
 scal [(nth v4 0)]

def moves_Row_s (a0 a1 a2 a3 a4 a5 : IV) : Option (List IV) :=
 scal [a3, a2, a4, a5]

def fold_Do_s (a0 a1 a2 a3 a4 a5 a6 : IV) : Option (List IV) :=
 (fold_Barred_s a0 a1 a2 a3 a4 a5 a6).bind fun v1 =>
 icond (nth v1 0) (fun _ =>
 some [a0, (.bool false)]) (fun _ =>
 (moves_Row_s a1 a2 a3 a4 a5 a6).bind fun v2 =>
 (tree_Set_s a0 (nth v2 0) (nth v2 1) (nth v2 2) (nth v2 3)).bind fun v3 =>
 some [(nth v3 0), (.bool true)])

def tree_Find_s (a0 a1 : IV) : Option (List IV) :=
 (tree_place_s a0 a1).bind fun v1 =>
 icond (nth v1 1) (fun _ =>
 (iidx a0 (nth v1 0) 4).bind fun v2 =>
 (ildN a0 v2 0 4).bind fun v3 =>
 scal [(nth v3 0), (nth v3 1), (nth v3 2), (nth v3 3), (.bool true)]) (fun _ =>
 scal [(.int .i64 0), (.int .i64 0), (.str ⟨#[]⟩), (.flt .f64 0), (.bool false)])

def undo_Do_s (a0 a1 a2 a3 a4 a5 a6 : IV) : Option (List IV) :=
 (fold_Do_s a0 a1 a2 a3 a4 a5 a6).bind fun v1 =>
 icond (nth v1 1) (fun _ =>
 (tree_Find_s a0 a4).bind fun v2 =>
 some [(nth v1 0), a1, a2, a3, a4, a5, a6, (nth v1 1), (nth v2 4), (nth v2 0), (nth v2 1), (nth v2 2), (nth v2 3)]) (fun _ =>
 some [(nth v1 0), a1, a2, a3, a4, a5, a6, (nth v1 1), (.bool false), (.int .i64 0), (.int .i64 0), (.str ⟨#[]⟩), (.flt .f64 0)])

def undo_Run_l3 (v1 : IV) (a1 : IV) (v2 : List IV) : Option SR :=
 (ibin .lss (nth v2 2) v1).bind fun v3 =>
 icond v3 (fun _ =>
 (iidx a1 (nth v2 2) 6).bind fun v4 =>
 (ildN a1 v4 0 6).bind fun v5 =>
 (undo_Do_s (nth v2 0) (nth v5 0) (nth v5 1) (nth v5 2) (nth v5 3) (nth v5 4) (nth v5 5)).bind fun v6 =>
 (iapp 12 104 (nth v2 1) (.lst [[(nth v6 1), (nth v6 2), (nth v6 3), (nth v6 4), (nth v6 5), (nth v6 6), (nth v6 7), (nth v6 8), (nth v6 9), (nth v6 10), (nth v6 11), (nth v6 12)]])).bind fun v7 =>
 (ibin .add (nth v2 2) (.int .i64 1)).bind fun v8 =>
 some (.next [(nth v6 0), v7, v8])) (fun _ =>
 some (.done 0 [(nth v2 0), (nth v2 1)]))
def undo_Run_s (a0 a1 : IV) : Option (List IV) :=
 (ilenL a1).bind fun v1 =>
 (iter rounds (undo_Run_l3 v1 a1) [a0, (.lst []), (.int .i64 0)]).bind fun v9 =>
 sel v9.1 [some [(nth v9.2 0), (nth v9.2 1)]]

def undo_Moves_l3 (v1 : IV) (a0 : IV) (v2 : List IV) : Option SR :=
 (ibin .lss (nth v2 1) v1).bind fun v3 =>
 icond v3 (fun _ =>
 (iidx a0 (nth v2 1) 12).bind fun v4 =>
 (ildN a0 v4 0 12).bind fun v5 =>
 (iapp 6 56 (nth v2 0) (.lst [[(nth v5 0), (nth v5 1), (nth v5 2), (nth v5 3), (nth v5 4), (nth v5 5)]])).bind fun v6 =>
 (ibin .add (nth v2 1) (.int .i64 1)).bind fun v7 =>
 some (.next [v6, v7])) (fun _ =>
 some (.done 0 [(nth v2 0)]))
def undo_Moves_s (a0 : IV) : Option (List IV) :=
 (ilenL a0).bind fun v1 =>
 (iter rounds (undo_Moves_l3 v1 a0) [(.lst []), (.int .i64 0)]).bind fun v8 =>
 sel v8.1 [if flatI (nth v8.2 0) = true then some [(nth v8.2 0)] else none]

def ref01_None_s : Option (List IV) :=
 scal [(.int .u64 9221120237041090560)]

def ref01_Minus_s (a0 : IV) : Option (List IV) :=
 ((ibin .lss a0 (.flt .f64 0)).bind fun v1 =>
 icond v1 (fun _ =>
 some [(.bool true)]) (fun _ =>
 (ibin .eql a0 (.flt .f64 0)).bind fun v2 =>
 icond v2 (fun _ =>
 (ibin .quo (.flt .f64 4607182418800017408) a0).bind fun v3 =>
 (ibin .lss v3 (.flt .f64 0)).bind fun v4 =>
 some [v4]) (fun _ =>
 some [(.bool false)]))).bind fun v5 =>
 scal [(nth v5 0)]

def ref01_top_s : Option (List IV) :=
 scal [(.int .u64 9223372036854775808)]

def ref01_Bits_l12 (v10 : List IV) : Option SR :=
 (ibin .geq (nth v10 0) (.flt .f64 4611686018427387904)).bind fun v11 =>
 icond v11 (fun _ =>
 (ibin .mul (nth v10 0) (.flt .f64 4602678819172646912)).bind fun v12 =>
 (ibin .add (nth v10 1) (.int .u64 1)).bind fun v13 =>
 some (.next [v12, v13])) (fun _ =>
 some (.done 0 [(nth v10 0), (nth v10 1)]))
def ref01_Bits_l15 (v15 : List IV) : Option SR :=
 ((ibin .lss (nth v15 0) (.flt .f64 4607182418800017408)).bind fun v16 =>
 icond v16 (fun _ =>
 (ibin .gtr (nth v15 1) (.int .u64 1)).bind fun v17 =>
 some [v17]) (fun _ =>
 some [(.bool false)])).bind fun v18 =>
 icond (nth v18 0) (fun _ =>
 (ibin .mul (nth v15 0) (.flt .f64 4611686018427387904)).bind fun v19 =>
 (ibin .sub (nth v15 1) (.int .u64 1)).bind fun v20 =>
 some (.next [v19, v20])) (fun _ =>
 some (.done 0 [(nth v15 0), (nth v15 1)]))
def ref01_Bits_l22 (v23 : List IV) : Option SR :=
 (ibin .lss (nth v23 1) (.int .i64 52)).bind fun v24 =>
 icond v24 (fun _ =>
 (ibin .mul (nth v23 0) (.flt .f64 4611686018427387904)).bind fun v25 =>
 (ibin .add (nth v23 1) (.int .i64 1)).bind fun v26 =>
 some (.next [v25, v26])) (fun _ =>
 some (.done 0 [(nth v23 0)]))
def ref01_Bits_l22_2 (v33 : List IV) : Option SR :=
 (ibin .lss (nth v33 1) (.int .i64 52)).bind fun v34 =>
 icond v34 (fun _ =>
 (ibin .mul (nth v33 0) (.flt .f64 4611686018427387904)).bind fun v35 =>
 (ibin .add (nth v33 1) (.int .i64 1)).bind fun v36 =>
 some (.next [v35, v36])) (fun _ =>
 some (.done 0 [(nth v33 0)]))
def ref01_Bits_l12_2 (v46 : List IV) : Option SR :=
 (ibin .geq (nth v46 0) (.flt .f64 4611686018427387904)).bind fun v47 =>
 icond v47 (fun _ =>
 (ibin .mul (nth v46 0) (.flt .f64 4602678819172646912)).bind fun v48 =>
 (ibin .add (nth v46 1) (.int .u64 1)).bind fun v49 =>
 some (.next [v48, v49])) (fun _ =>
 some (.done 0 [(nth v46 0), (nth v46 1)]))
def ref01_Bits_l15_2 (v51 : List IV) : Option SR :=
 ((ibin .lss (nth v51 0) (.flt .f64 4607182418800017408)).bind fun v52 =>
 icond v52 (fun _ =>
 (ibin .gtr (nth v51 1) (.int .u64 1)).bind fun v53 =>
 some [v53]) (fun _ =>
 some [(.bool false)])).bind fun v54 =>
 icond (nth v54 0) (fun _ =>
 (ibin .mul (nth v51 0) (.flt .f64 4611686018427387904)).bind fun v55 =>
 (ibin .sub (nth v51 1) (.int .u64 1)).bind fun v56 =>
 some (.next [v55, v56])) (fun _ =>
 some (.done 0 [(nth v51 0), (nth v51 1)]))
def ref01_Bits_l22_3 (v59 : List IV) : Option SR :=
 (ibin .lss (nth v59 1) (.int .i64 52)).bind fun v60 =>
 icond v60 (fun _ =>
 (ibin .mul (nth v59 0) (.flt .f64 4611686018427387904)).bind fun v61 =>
 (ibin .add (nth v59 1) (.int .i64 1)).bind fun v62 =>
 some (.next [v61, v62])) (fun _ =>
 some (.done 0 [(nth v59 0)]))
def ref01_Bits_l22_4 (v69 : List IV) : Option SR :=
 (ibin .lss (nth v69 1) (.int .i64 52)).bind fun v70 =>
 icond v70 (fun _ =>
 (ibin .mul (nth v69 0) (.flt .f64 4611686018427387904)).bind fun v71 =>
 (ibin .add (nth v69 1) (.int .i64 1)).bind fun v72 =>
 some (.next [v71, v72])) (fun _ =>
 some (.done 0 [(nth v69 0)]))
def ref01_Bits_s (a0 : IV) : Option (List IV) :=
 (ibin .neq a0 a0).bind fun v1 =>
 icond v1 (fun _ =>
 (ref01_None_s).bind fun v2 =>
 scal [(nth v2 0)]) (fun _ =>
 (ref01_Minus_s a0).bind fun v3 =>
 icond (nth v3 0) (fun _ =>
 (ref01_top_s).bind fun v4 =>
 (iun .neg a0).bind fun v5 =>
 (ibin .eql v5 (.flt .f64 0)).bind fun v6 =>
 icond v6 (fun _ =>
 scal [(nth v4 0)]) (fun _ =>
 (ibin .mul v5 (.flt .f64 4611686018427387904)).bind fun v7 =>
 (ibin .eql v7 v5).bind fun v8 =>
 icond v8 (fun _ =>
 (ibin .add (nth v4 0) (.int .u64 9218868437227405312)).bind fun v9 =>
 scal [v9]) (fun _ =>
 (iter rounds (ref01_Bits_l12) [v5, (.int .u64 1023)]).bind fun v14 =>
 sel v14.1 [(iter rounds (ref01_Bits_l15) [(nth v14.2 0), (nth v14.2 1)]).bind fun v21 =>
 sel v21.1 [(ibin .lss (nth v21.2 0) (.flt .f64 4607182418800017408)).bind fun v22 =>
 icond v22 (fun _ =>
 (iter rounds (ref01_Bits_l22) [(nth v21.2 0), (.int .i64 0)]).bind fun v27 =>
 sel v27.1 [(ibin .shl (.int .u64 0) (.int .u64 52)).bind fun v28 =>
 (ibin .add (nth v4 0) v28).bind fun v29 =>
 (icfi .u64 (nth v27.2 0)).bind fun v30 =>
 (ibin .add v29 v30).bind fun v31 =>
 scal [v31]]) (fun _ =>
 (ibin .sub (nth v21.2 0) (.flt .f64 4607182418800017408)).bind fun v32 =>
 (iter rounds (ref01_Bits_l22_2) [v32, (.int .i64 0)]).bind fun v37 =>
 sel v37.1 [(ibin .shl (nth v21.2 1) (.int .u64 52)).bind fun v38 =>
 (ibin .add (nth v4 0) v38).bind fun v39 =>
 (icfi .u64 (nth v37.2 0)).bind fun v40 =>
 (ibin .add v39 v40).bind fun v41 =>
 scal [v41]])]]))) (fun _ =>
 (ibin .eql a0 (.flt .f64 0)).bind fun v42 =>
 icond v42 (fun _ =>
 scal [(.int .u64 0)]) (fun _ =>
 (ibin .mul a0 (.flt .f64 4611686018427387904)).bind fun v43 =>
 (ibin .eql v43 a0).bind fun v44 =>
 icond v44 (fun _ =>
 (ibin .add (.int .u64 0) (.int .u64 9218868437227405312)).bind fun v45 =>
 scal [v45]) (fun _ =>
 (iter rounds (ref01_Bits_l12_2) [a0, (.int .u64 1023)]).bind fun v50 =>
 sel v50.1 [(iter rounds (ref01_Bits_l15_2) [(nth v50.2 0), (nth v50.2 1)]).bind fun v57 =>
 sel v57.1 [(ibin .lss (nth v57.2 0) (.flt .f64 4607182418800017408)).bind fun v58 =>
 icond v58 (fun _ =>
 (iter rounds (ref01_Bits_l22_3) [(nth v57.2 0), (.int .i64 0)]).bind fun v63 =>
 sel v63.1 [(ibin .shl (.int .u64 0) (.int .u64 52)).bind fun v64 =>
 (ibin .add (.int .u64 0) v64).bind fun v65 =>
 (icfi .u64 (nth v63.2 0)).bind fun v66 =>
 (ibin .add v65 v66).bind fun v67 =>
 scal [v67]]) (fun _ =>
 (ibin .sub (nth v57.2 0) (.flt .f64 4607182418800017408)).bind fun v68 =>
 (iter rounds (ref01_Bits_l22_4) [v68, (.int .i64 0)]).bind fun v73 =>
 sel v73.1 [(ibin .shl (nth v57.2 1) (.int .u64 52)).bind fun v74 =>
 (ibin .add (.int .u64 0) v74).bind fun v75 =>
 (icfi .u64 (nth v73.2 0)).bind fun v76 =>
 (ibin .add v75 v76).bind fun v77 =>
 scal [v77]])]]))))

def ref01_Same_s (a0 a1 : IV) : Option (List IV) :=
 (ref01_Bits_s a0).bind fun v1 =>
 (ref01_Bits_s a1).bind fun v2 =>
 (ibin .eql (nth v1 0) (nth v2 0)).bind fun v3 =>
 scal [v3]

def ref12_Alike_s (a0 a1 a2 a3 a4 a5 a6 a7 : IV) : Option (List IV) :=
 ((ibin .eql a0 a4).bind fun v1 =>
 icond v1 (fun _ =>
 (ibin .eql a1 a5).bind fun v2 =>
 icond v2 (fun _ =>
 (ibin .eql a2 a6).bind fun v3 =>
 icond v3 (fun _ =>
 (ref01_Same_s a3 a7).bind fun v4 =>
 some [(nth v4 0)]) (fun _ =>
 some [(.bool false)])) (fun _ =>
 some [(.bool false)])) (fun _ =>
 some [(.bool false)])).bind fun v5 =>
 scal [(nth v5 0)]

def ref12_Same_l4 (a0 : IV) (a1 : IV) (v4 : List IV) : Option SR :=
 (ilenL a0).bind fun v5 =>
 (ibin .lss (nth v4 0) v5).bind fun v6 =>
 icond v6 (fun _ =>
 (iidx a0 (nth v4 0) 4).bind fun v7 =>
 (ildN a0 v7 0 4).bind fun v8 =>
 (iidx a1 (nth v4 0) 4).bind fun v9 =>
 (ildN a1 v9 0 4).bind fun v10 =>
 (ref12_Alike_s (nth v8 0) (nth v8 1) (nth v8 2) (nth v8 3) (nth v10 0) (nth v10 1) (nth v10 2) (nth v10 3)).bind fun v11 =>
 (iun .not (nth v11 0)).bind fun v12 =>
 icond v12 (fun _ =>
 some (.done 1 [(.bool false)])) (fun _ =>
 (ibin .add (nth v4 0) (.int .i64 1)).bind fun v13 =>
 some (.next [v13]))) (fun _ =>
 some (.done 0 []))
def ref12_Same_s (a0 a1 : IV) : Option (List IV) :=
 (ilenL a0).bind fun v1 =>
 (ilenL a1).bind fun v2 =>
 (ibin .neq v1 v2).bind fun v3 =>
 icond v3 (fun _ =>
 scal [(.bool false)]) (fun _ =>
 (iter rounds (ref12_Same_l4 a0 a1) [(.int .i64 0)]).bind fun v14 =>
 sel v14.1 [scal [(.bool true)],
 scal [(nth v14.2 0)]])

def ref13_Alike_s (a0 a1 a2 a3 a4 a5 a6 a7 a8 a9 a10 a11 : IV) : Option (List IV) :=
 ((ieqs .eql [.i, .i] [a0, a1] [a6, a7]).bind fun v1 =>
 icond v1 (fun _ =>
 (ref13_Row_s a0 a1 a2 a3 a4 a5).bind fun v2 =>
 (ref13_Row_s a6 a7 a8 a9 a10 a11).bind fun v3 =>
 (ref12_Alike_s (nth v2 0) (nth v2 1) (nth v2 2) (nth v2 3) (nth v3 0) (nth v3 1) (nth v3 2) (nth v3 3)).bind fun v4 =>
 some [(nth v4 0)]) (fun _ =>
 some [(.bool false)])).bind fun v5 =>
 scal [(nth v5 0)]

def ref15_Alike_s (a0 a1 a2 a3 a4 a5 a6 a7 a8 a9 a10 a11 a12 a13 a14 a15 a16 a17 a18 a19 a20 a21 a22 a23 : IV) : Option (List IV) :=
 ((ref13_Alike_s a0 a1 a2 a3 a4 a5 a12 a13 a14 a15 a16 a17).bind fun v1 =>
 icond (nth v1 0) (fun _ =>
 (ibinB .eql a6 a18).bind fun v2 =>
 icond v2 (fun _ =>
 (ibinB .eql a7 a19).bind fun v3 =>
 icond v3 (fun _ =>
 (ref12_Alike_s a8 a9 a10 a11 a20 a21 a22 a23).bind fun v4 =>
 some [(nth v4 0)]) (fun _ =>
 some [(.bool false)])) (fun _ =>
 some [(.bool false)])) (fun _ =>
 some [(.bool false)])).bind fun v5 =>
 scal [(nth v5 0)]

def ref13_Few_l4 (a0 : IV) (v3 : List IV) : Option SR :=
 (ilenL a0).bind fun v4 =>
 (ibin .lss (nth v3 0) v4).bind fun v5 =>
 icond v5 (fun _ =>
 (iidx a0 (nth v3 0) 6).bind fun v6 =>
 (ild a0 v6 4).bind fun v7 =>
 (ilenS v7).bind fun v8 =>
 (ibin .gtr v8 (.int .i64 100)).bind fun v9 =>
 icond v9 (fun _ =>
 some (.done 1 [(.bool false)])) (fun _ =>
 (ibin .add (nth v3 0) (.int .i64 1)).bind fun v10 =>
 some (.next [v10]))) (fun _ =>
 some (.done 0 []))
def ref13_Few_s (a0 a1 : IV) : Option (List IV) :=
 (ilenL a0).bind fun v1 =>
 (ibin .gtr v1 a1).bind fun v2 =>
 icond v2 (fun _ =>
 scal [(.bool false)]) (fun _ =>
 (iter rounds (ref13_Few_l4 a0) [(.int .i64 0)]).bind fun v11 =>
 sel v11.1 [scal [(.bool true)],
 scal [(nth v11.2 0)]])

def ref15_Same_l4 (a0 : IV) (a1 : IV) (v4 : List IV) : Option SR :=
 (ilenL a0).bind fun v5 =>
 (ibin .lss (nth v4 0) v5).bind fun v6 =>
 icond v6 (fun _ =>
 (iidx a0 (nth v4 0) 12).bind fun v7 =>
 (ildN a0 v7 0 12).bind fun v8 =>
 (iidx a1 (nth v4 0) 12).bind fun v9 =>
 (ildN a1 v9 0 12).bind fun v10 =>
 (ref15_Alike_s (nth v8 0) (nth v8 1) (nth v8 2) (nth v8 3) (nth v8 4) (nth v8 5) (nth v8 6) (nth v8 7) (nth v8 8) (nth v8 9) (nth v8 10) (nth v8 11) (nth v10 0) (nth v10 1) (nth v10 2) (nth v10 3) (nth v10 4) (nth v10 5) (nth v10 6) (nth v10 7) (nth v10 8) (nth v10 9) (nth v10 10) (nth v10 11)).bind fun v11 =>
 (iun .not (nth v11 0)).bind fun v12 =>
 icond v12 (fun _ =>
 some (.done 1 [(.bool false)])) (fun _ =>
 (ibin .add (nth v4 0) (.int .i64 1)).bind fun v13 =>
 some (.next [v13]))) (fun _ =>
 some (.done 0 []))
def ref15_Same_s (a0 a1 : IV) : Option (List IV) :=
 (ilenL a0).bind fun v1 =>
 (ilenL a1).bind fun v2 =>
 (ibin .neq v1 v2).bind fun v3 =>
 icond v3 (fun _ =>
 scal [(.bool false)]) (fun _ =>
 (iter rounds (ref15_Same_l4 a0 a1) [(.int .i64 0)]).bind fun v14 =>
 sel v14.1 [scal [(.bool true)],
 scal [(nth v14.2 0)]])

def ref13_Same_l4 (a0 : IV) (a1 : IV) (v4 : List IV) : Option SR :=
 (ilenL a0).bind fun v5 =>
 (ibin .lss (nth v4 0) v5).bind fun v6 =>
 icond v6 (fun _ =>
 (iidx a0 (nth v4 0) 6).bind fun v7 =>
 (ildN a0 v7 0 6).bind fun v8 =>
 (iidx a1 (nth v4 0) 6).bind fun v9 =>
 (ildN a1 v9 0 6).bind fun v10 =>
 (ref13_Alike_s (nth v8 0) (nth v8 1) (nth v8 2) (nth v8 3) (nth v8 4) (nth v8 5) (nth v10 0) (nth v10 1) (nth v10 2) (nth v10 3) (nth v10 4) (nth v10 5)).bind fun v11 =>
 (iun .not (nth v11 0)).bind fun v12 =>
 icond v12 (fun _ =>
 some (.done 1 [(.bool false)])) (fun _ =>
 (ibin .add (nth v4 0) (.int .i64 1)).bind fun v13 =>
 some (.next [v13]))) (fun _ =>
 some (.done 0 []))
def ref13_Same_s (a0 a1 : IV) : Option (List IV) :=
 (ilenL a0).bind fun v1 =>
 (ilenL a1).bind fun v2 =>
 (ibin .neq v1 v2).bind fun v3 =>
 icond v3 (fun _ =>
 scal [(.bool false)]) (fun _ =>
 (iter rounds (ref13_Same_l4 a0 a1) [(.int .i64 0)]).bind fun v14 =>
 sel v14.1 [scal [(.bool true)],
 scal [(nth v14.2 0)]])

def ref04_in_s (a0 a1 a2 a3 : IV) : Option (List IV) :=
 ((ilenS a0).bind fun v1 =>
 (ibin .lss a1 v1).bind fun v2 =>
 icond v2 (fun _ =>
 (istr a0 a1).bind fun v3 =>
 (icii .i64 v3).bind fun v4 =>
 (ibin .geq v4 a2).bind fun v5 =>
 icond v5 (fun _ =>
 (istr a0 a1).bind fun v6 =>
 (icii .i64 v6).bind fun v7 =>
 (ibin .leq v7 a3).bind fun v8 =>
 some [v8]) (fun _ =>
 some [(.bool false)])) (fun _ =>
 some [(.bool false)])).bind fun v9 =>
 scal [(nth v9 0)]

def ref04_sign_s (a0 a1 : IV) : Option (List IV) :=
 (ref04_in_s a0 a1 (.int .i64 0) (.int .i64 127)).bind fun v1 =>
 icond (nth v1 0) (fun _ =>
 scal [(.int .i64 1)]) (fun _ =>
 ((ref04_in_s a0 a1 (.int .i64 194) (.int .i64 223)).bind fun v2 =>
 icond (nth v2 0) (fun _ =>
 (ibin .add a1 (.int .i64 1)).bind fun v3 =>
 (ref04_in_s a0 v3 (.int .i64 128) (.int .i64 191)).bind fun v4 =>
 some [(nth v4 0)]) (fun _ =>
 some [(.bool false)])).bind fun v5 =>
 icond (nth v5 0) (fun _ =>
 scal [(.int .i64 2)]) (fun _ =>
 ((ibin .add a1 (.int .i64 2)).bind fun v6 =>
 (ref04_in_s a0 v6 (.int .i64 128) (.int .i64 191)).bind fun v7 =>
 icond (nth v7 0) (fun _ =>
 (ref04_in_s a0 a1 (.int .i64 224) (.int .i64 224)).bind fun v8 =>
 icond (nth v8 0) (fun _ =>
 (ibin .add a1 (.int .i64 1)).bind fun v9 =>
 (ref04_in_s a0 v9 (.int .i64 160) (.int .i64 191)).bind fun v10 =>
 icond (nth v10 0) (fun _ =>
 some [(.bool true)]) (fun _ =>
 (ref04_in_s a0 a1 (.int .i64 225) (.int .i64 236)).bind fun v11 =>
 icond (nth v11 0) (fun _ =>
 (ibin .add a1 (.int .i64 1)).bind fun v12 =>
 (ref04_in_s a0 v12 (.int .i64 128) (.int .i64 191)).bind fun v13 =>
 icond (nth v13 0) (fun _ =>
 some [(.bool true)]) (fun _ =>
 (ref04_in_s a0 a1 (.int .i64 238) (.int .i64 239)).bind fun v14 =>
 icond (nth v14 0) (fun _ =>
 (ibin .add a1 (.int .i64 1)).bind fun v15 =>
 (ref04_in_s a0 v15 (.int .i64 128) (.int .i64 191)).bind fun v16 =>
 icond (nth v16 0) (fun _ =>
 some [(.bool true)]) (fun _ =>
 (ref04_in_s a0 a1 (.int .i64 237) (.int .i64 237)).bind fun v17 =>
 icond (nth v17 0) (fun _ =>
 (ibin .add a1 (.int .i64 1)).bind fun v18 =>
 (ref04_in_s a0 v18 (.int .i64 128) (.int .i64 159)).bind fun v19 =>
 some [(nth v19 0)]) (fun _ =>
 some [(.bool false)]))) (fun _ =>
 (ref04_in_s a0 a1 (.int .i64 237) (.int .i64 237)).bind fun v20 =>
 icond (nth v20 0) (fun _ =>
 (ibin .add a1 (.int .i64 1)).bind fun v21 =>
 (ref04_in_s a0 v21 (.int .i64 128) (.int .i64 159)).bind fun v22 =>
 some [(nth v22 0)]) (fun _ =>
 some [(.bool false)])))) (fun _ =>
 (ref04_in_s a0 a1 (.int .i64 238) (.int .i64 239)).bind fun v23 =>
 icond (nth v23 0) (fun _ =>
 (ibin .add a1 (.int .i64 1)).bind fun v24 =>
 (ref04_in_s a0 v24 (.int .i64 128) (.int .i64 191)).bind fun v25 =>
 icond (nth v25 0) (fun _ =>
 some [(.bool true)]) (fun _ =>
 (ref04_in_s a0 a1 (.int .i64 237) (.int .i64 237)).bind fun v26 =>
 icond (nth v26 0) (fun _ =>
 (ibin .add a1 (.int .i64 1)).bind fun v27 =>
 (ref04_in_s a0 v27 (.int .i64 128) (.int .i64 159)).bind fun v28 =>
 some [(nth v28 0)]) (fun _ =>
 some [(.bool false)]))) (fun _ =>
 (ref04_in_s a0 a1 (.int .i64 237) (.int .i64 237)).bind fun v29 =>
 icond (nth v29 0) (fun _ =>
 (ibin .add a1 (.int .i64 1)).bind fun v30 =>
 (ref04_in_s a0 v30 (.int .i64 128) (.int .i64 159)).bind fun v31 =>
 some [(nth v31 0)]) (fun _ =>
 some [(.bool false)]))))) (fun _ =>
 (ref04_in_s a0 a1 (.int .i64 225) (.int .i64 236)).bind fun v32 =>
 icond (nth v32 0) (fun _ =>
 (ibin .add a1 (.int .i64 1)).bind fun v33 =>
 (ref04_in_s a0 v33 (.int .i64 128) (.int .i64 191)).bind fun v34 =>
 icond (nth v34 0) (fun _ =>
 some [(.bool true)]) (fun _ =>
 (ref04_in_s a0 a1 (.int .i64 238) (.int .i64 239)).bind fun v35 =>
 icond (nth v35 0) (fun _ =>
 (ibin .add a1 (.int .i64 1)).bind fun v36 =>
 (ref04_in_s a0 v36 (.int .i64 128) (.int .i64 191)).bind fun v37 =>
 icond (nth v37 0) (fun _ =>
 some [(.bool true)]) (fun _ =>
 (ref04_in_s a0 a1 (.int .i64 237) (.int .i64 237)).bind fun v38 =>
 icond (nth v38 0) (fun _ =>
 (ibin .add a1 (.int .i64 1)).bind fun v39 =>
 (ref04_in_s a0 v39 (.int .i64 128) (.int .i64 159)).bind fun v40 =>
 some [(nth v40 0)]) (fun _ =>
 some [(.bool false)]))) (fun _ =>
 (ref04_in_s a0 a1 (.int .i64 237) (.int .i64 237)).bind fun v41 =>
 icond (nth v41 0) (fun _ =>
 (ibin .add a1 (.int .i64 1)).bind fun v42 =>
 (ref04_in_s a0 v42 (.int .i64 128) (.int .i64 159)).bind fun v43 =>
 some [(nth v43 0)]) (fun _ =>
 some [(.bool false)])))) (fun _ =>
 (ref04_in_s a0 a1 (.int .i64 238) (.int .i64 239)).bind fun v44 =>
 icond (nth v44 0) (fun _ =>
 (ibin .add a1 (.int .i64 1)).bind fun v45 =>
 (ref04_in_s a0 v45 (.int .i64 128) (.int .i64 191)).bind fun v46 =>
 icond (nth v46 0) (fun _ =>
 some [(.bool true)]) (fun _ =>
 (ref04_in_s a0 a1 (.int .i64 237) (.int .i64 237)).bind fun v47 =>
 icond (nth v47 0) (fun _ =>
 (ibin .add a1 (.int .i64 1)).bind fun v48 =>
 (ref04_in_s a0 v48 (.int .i64 128) (.int .i64 159)).bind fun v49 =>
 some [(nth v49 0)]) (fun _ =>
 some [(.bool false)]))) (fun _ =>
 (ref04_in_s a0 a1 (.int .i64 237) (.int .i64 237)).bind fun v50 =>
 icond (nth v50 0) (fun _ =>
 (ibin .add a1 (.int .i64 1)).bind fun v51 =>
 (ref04_in_s a0 v51 (.int .i64 128) (.int .i64 159)).bind fun v52 =>
 some [(nth v52 0)]) (fun _ =>
 some [(.bool false)]))))) (fun _ =>
 some [(.bool false)])).bind fun v53 =>
 icond (nth v53 0) (fun _ =>
 scal [(.int .i64 3)]) (fun _ =>
 ((ibin .add a1 (.int .i64 2)).bind fun v54 =>
 (ref04_in_s a0 v54 (.int .i64 128) (.int .i64 191)).bind fun v55 =>
 icond (nth v55 0) (fun _ =>
 (ibin .add a1 (.int .i64 3)).bind fun v56 =>
 (ref04_in_s a0 v56 (.int .i64 128) (.int .i64 191)).bind fun v57 =>
 icond (nth v57 0) (fun _ =>
 (ref04_in_s a0 a1 (.int .i64 240) (.int .i64 240)).bind fun v58 =>
 icond (nth v58 0) (fun _ =>
 (ibin .add a1 (.int .i64 1)).bind fun v59 =>
 (ref04_in_s a0 v59 (.int .i64 144) (.int .i64 191)).bind fun v60 =>
 icond (nth v60 0) (fun _ =>
 some [(.bool true)]) (fun _ =>
 (ref04_in_s a0 a1 (.int .i64 241) (.int .i64 243)).bind fun v61 =>
 icond (nth v61 0) (fun _ =>
 (ibin .add a1 (.int .i64 1)).bind fun v62 =>
 (ref04_in_s a0 v62 (.int .i64 128) (.int .i64 191)).bind fun v63 =>
 icond (nth v63 0) (fun _ =>
 some [(.bool true)]) (fun _ =>
 (ref04_in_s a0 a1 (.int .i64 244) (.int .i64 244)).bind fun v64 =>
 icond (nth v64 0) (fun _ =>
 (ibin .add a1 (.int .i64 1)).bind fun v65 =>
 (ref04_in_s a0 v65 (.int .i64 128) (.int .i64 143)).bind fun v66 =>
 some [(nth v66 0)]) (fun _ =>
 some [(.bool false)]))) (fun _ =>
 (ref04_in_s a0 a1 (.int .i64 244) (.int .i64 244)).bind fun v67 =>
 icond (nth v67 0) (fun _ =>
 (ibin .add a1 (.int .i64 1)).bind fun v68 =>
 (ref04_in_s a0 v68 (.int .i64 128) (.int .i64 143)).bind fun v69 =>
 some [(nth v69 0)]) (fun _ =>
 some [(.bool false)])))) (fun _ =>
 (ref04_in_s a0 a1 (.int .i64 241) (.int .i64 243)).bind fun v70 =>
 icond (nth v70 0) (fun _ =>
 (ibin .add a1 (.int .i64 1)).bind fun v71 =>
 (ref04_in_s a0 v71 (.int .i64 128) (.int .i64 191)).bind fun v72 =>
 icond (nth v72 0) (fun _ =>
 some [(.bool true)]) (fun _ =>
 (ref04_in_s a0 a1 (.int .i64 244) (.int .i64 244)).bind fun v73 =>
 icond (nth v73 0) (fun _ =>
 (ibin .add a1 (.int .i64 1)).bind fun v74 =>
 (ref04_in_s a0 v74 (.int .i64 128) (.int .i64 143)).bind fun v75 =>
 some [(nth v75 0)]) (fun _ =>
 some [(.bool false)]))) (fun _ =>
 (ref04_in_s a0 a1 (.int .i64 244) (.int .i64 244)).bind fun v76 =>
 icond (nth v76 0) (fun _ =>
 (ibin .add a1 (.int .i64 1)).bind fun v77 =>
 (ref04_in_s a0 v77 (.int .i64 128) (.int .i64 143)).bind fun v78 =>
 some [(nth v78 0)]) (fun _ =>
 some [(.bool false)])))) (fun _ =>
 some [(.bool false)])) (fun _ =>
 some [(.bool false)])).bind fun v79 =>
 icond (nth v79 0) (fun _ =>
 scal [(.int .i64 4)]) (fun _ =>
 scal [(.int .i64 0)]))))

def ref04_First_l2 (a0 : IV) (v1 : List IV) : Option SR :=
 (ilenS a0).bind fun v2 =>
 (ibin .lss (nth v1 0) v2).bind fun v3 =>
 icond v3 (fun _ =>
 (ref04_sign_s a0 (nth v1 0)).bind fun v4 =>
 (ibin .eql (nth v4 0) (.int .i64 0)).bind fun v5 =>
 icond v5 (fun _ =>
 some (.done 1 [(nth v1 0), (.bool true)])) (fun _ =>
 (ibin .add (nth v1 0) (nth v4 0)).bind fun v6 =>
 some (.next [v6]))) (fun _ =>
 some (.done 0 []))
def ref04_First_s (a0 : IV) : Option (List IV) :=
 (iter rounds (ref04_First_l2 a0) [(.int .i64 0)]).bind fun v7 =>
 sel v7.1 [scal [(.int .i64 0), (.bool false)],
 scal [(nth v7.2 0), (nth v7.2 1)]]

def ref04_Valid_s (a0 : IV) : Option (List IV) :=
 (ref04_First_s a0).bind fun v1 =>
 (iun .not (nth v1 1)).bind fun v2 =>
 scal [v2]

def ref12_One_s (a0 a1 a2 a3 : IV) : Option (List IV) :=
 ((ibin .geq a0 (.int .i64 1)).bind fun v1 =>
 icond v1 (fun _ =>
 (ibin .leq a0 (.int .i64 2147483647)).bind fun v2 =>
 icond v2 (fun _ =>
 (ibin .geq a1 (.int .i64 0)).bind fun v3 =>
 icond v3 (fun _ =>
 (ibin .leq a1 (.int .i64 2147483647)).bind fun v4 =>
 icond v4 (fun _ =>
 (ilenS a2).bind fun v5 =>
 (ibin .leq v5 (.int .i64 64)).bind fun v6 =>
 icond v6 (fun _ =>
 (ref04_Valid_s a2).bind fun v7 =>
 some [(nth v7 0)]) (fun _ =>
 some [(.bool false)])) (fun _ =>
 some [(.bool false)])) (fun _ =>
 some [(.bool false)])) (fun _ =>
 some [(.bool false)])) (fun _ =>
 some [(.bool false)])).bind fun v8 =>
 scal [(nth v8 0)]

def ref12_May_l4 (a0 : IV) (v3 : List IV) : Option SR :=
 (ilenL a0).bind fun v4 =>
 (ibin .lss (nth v3 0) v4).bind fun v5 =>
 icond v5 (fun _ =>
 ((iidx a0 (nth v3 0) 4).bind fun v6 =>
 (ildN a0 v6 0 4).bind fun v7 =>
 (ref12_One_s (nth v7 0) (nth v7 1) (nth v7 2) (nth v7 3)).bind fun v8 =>
 (iun .not (nth v8 0)).bind fun v9 =>
 icond v9 (fun _ =>
 some [(.bool true)]) (fun _ =>
 (ibin .gtr (nth v3 0) (.int .i64 0)).bind fun v10 =>
 icond v10 (fun _ =>
 (ibin .sub (nth v3 0) (.int .i64 1)).bind fun v11 =>
 (iidx a0 v11 4).bind fun v12 =>
 (ild a0 v12 0).bind fun v13 =>
 (iidx a0 (nth v3 0) 4).bind fun v14 =>
 (ild a0 v14 0).bind fun v15 =>
 (ibin .geq v13 v15).bind fun v16 =>
 some [v16]) (fun _ =>
 some [(.bool false)]))).bind fun v17 =>
 icond (nth v17 0) (fun _ =>
 some (.done 1 [(.bool false)])) (fun _ =>
 (ibin .add (nth v3 0) (.int .i64 1)).bind fun v18 =>
 some (.next [v18]))) (fun _ =>
 some (.done 0 []))
def ref12_May_l9 (a0 : IV) (v20 : List IV) : Option SR :=
 (ilenL a0).bind fun v21 =>
 (ibin .lss (nth v20 0) v21).bind fun v22 =>
 icond v22 (fun _ =>
 (iidx a0 (nth v20 0) 4).bind fun v23 =>
 (ild a0 v23 0).bind fun v24 =>
 (iidx a0 (nth v20 0) 4).bind fun v25 =>
 (ild a0 v25 0).bind fun v26 =>
 (ref12_Above_s a0 v24 v26).bind fun v27 =>
 icond (nth v27 0) (fun _ =>
 some (.done 1 [(.bool false)])) (fun _ =>
 (ibin .add (nth v20 0) (.int .i64 1)).bind fun v28 =>
 some (.next [v28]))) (fun _ =>
 some (.done 0 []))
def ref12_May_s (a0 : IV) : Option (List IV) :=
 (ilenL a0).bind fun v1 =>
 (ibin .gtr v1 (.int .i64 2000)).bind fun v2 =>
 icond v2 (fun _ =>
 scal [(.bool false)]) (fun _ =>
 (iter rounds (ref12_May_l4 a0) [(.int .i64 0)]).bind fun v19 =>
 sel v19.1 [(iter rounds (ref12_May_l9 a0) [(.int .i64 0)]).bind fun v29 =>
 sel v29.1 [scal [(.bool true)],
 scal [(nth v29.2 0)]],
 scal [(nth v19.2 0)]])

def replay_New_s (a0 : IV) : Option (List IV) :=
 (slices_Clone_Row_s a0).bind fun v1 =>
 (slices_Clone_Row_s a0).bind fun v2 =>
 some [(nth v1 0), (nth v2 0), (.lst [])]

def replay_Tree_Log_s (a0 : IV) : Option (List IV) :=
 (ibinP .eql a0 .nilp).bind fun v1 =>
 icond v1 (fun _ =>
 if flatI (.lst []) = true then some [(.lst [])] else none) (fun _ =>
 (ipnn a0).bind fun v2 =>
 (ipnn v2).bind fun v3 =>
 (ipld v3 2).bind fun v4 =>
 (undo_Moves_s v4).bind fun v5 =>
 if flatI (nth v5 0) = true then some [(nth v5 0)] else none)

def moves_seek_l2 (C : IV → List Nat → List (List IV) → Option (List IV)) (v1 : IV) (a0 : IV) (a3 : IV) (a1 : IV) (a2 : IV) (v2 : List IV) : Option SR :=
 (ibin .lss (nth v2 0) v1).bind fun v3 =>
 icond v3 (fun _ =>
 (iidx a0 (nth v2 0) 6).bind fun v4 =>
 (ildN a0 v4 0 6).bind fun v5 =>
 (C a3 [1] [[a1, a2], [(nth v5 0), (nth v5 1), (nth v5 2), (nth v5 3), (nth v5 4), (nth v5 5)]]).bind fun v6 =>
 icond (nth v6 0) (fun _ =>
 some (.done 1 [(nth v2 0)])) (fun _ =>
 (ibin .add (nth v2 0) (.int .i64 1)).bind fun v7 =>
 some (.next [v7]))) (fun _ =>
 some (.done 0 []))
def moves_seek_s (C : IV → List Nat → List (List IV) → Option (List IV)) (a0 a1 a2 a3 : IV) : Option (List IV) :=
 (ilenL a0).bind fun v1 =>
 (iter rounds (moves_seek_l2 C v1 a0 a3 a1 a2) [(.int .i64 0)]).bind fun v8 =>
 sel v8.1 [(ilenL a0).bind fun v9 =>
 scal [v9],
 scal [(nth v8.2 0)]]

def moves_when_is_s (a0 a1 a2 a3 a4 a5 a6 a7 : IV) : Option (List IV) :=
 (ieqs .eql [.i, .i] [a2, a3] [a0, a1]).bind fun v1 =>
 scal [v1]

def rank_first_l2 (C : IV → List Nat → List (List IV) → Option (List IV)) (v1 : IV) (a0 : IV) (v2 : List IV) : Option SR :=
 (ibin .lss (nth v2 0) v1).bind fun v3 =>
 icond v3 (fun _ =>
 (iidx a0 (nth v2 0) 1).bind fun v4 =>
 (ild a0 v4 0).bind fun v5 =>
 (C v5 [1] []).bind fun v6 =>
 (ibin .neq (nth v6 0) (.int .i64 0)).bind fun v7 =>
 icond v7 (fun _ =>
 some (.done 1 [(nth v6 0)])) (fun _ =>
 (ibin .add (nth v2 0) (.int .i64 1)).bind fun v8 =>
 some (.next [v8]))) (fun _ =>
 some (.done 0 []))
def rank_first_s (C : IV → List Nat → List (List IV) → Option (List IV)) (a0 : IV) : Option (List IV) :=
 (ilenL a0).bind fun v1 =>
 (iter rounds (rank_first_l2 C v1 a0) [(.int .i64 0)]).bind fun v9 =>
 sel v9.1 [scal [(.int .i64 0)],
 scal [(nth v9.2 0)]]

def cmp_isNaN_int_s (a0 : IV) : Option (List IV) :=
 (ibin .neq a0 a0).bind fun v1 =>
 scal [v1]

def cmp_Compare_int_s (a0 a1 : IV) : Option (List IV) :=
 (cmp_isNaN_int_s a0).bind fun v1 =>
 (cmp_isNaN_int_s a1).bind fun v2 =>
 icond (nth v1 0) (fun _ =>
 icond (nth v2 0) (fun _ =>
 scal [(.int .i64 0)]) (fun _ =>
 scal [(.int .i64 (-1))])) (fun _ =>
 icond (nth v2 0) (fun _ =>
 scal [(.int .i64 1)]) (fun _ =>
 (ibin .lss a0 a1).bind fun v3 =>
 icond v3 (fun _ =>
 scal [(.int .i64 (-1))]) (fun _ =>
 (ibin .gtr a0 a1).bind fun v4 =>
 icond v4 (fun _ =>
 scal [(.int .i64 1)]) (fun _ =>
 scal [(.int .i64 0)]))))

def rank_Before_1_s (a0 a1 : IV) : Option (List IV) :=
 (ipnn a0).bind fun v1 =>
 (ipld v1 0).bind fun v2 =>
 (ipnn a1).bind fun v3 =>
 (ipld v3 0).bind fun v4 =>
 (cmp_Compare_int_s v2 v4).bind fun v5 =>
 scal [(nth v5 0)]

def rank_Before_2_s (a0 a1 : IV) : Option (List IV) :=
 (ipnn a0).bind fun v1 =>
 (ipld v1 1).bind fun v2 =>
 (ipnn a1).bind fun v3 =>
 (ipld v3 1).bind fun v4 =>
 (cmp_Compare_int_s v2 v4).bind fun v5 =>
 scal [(nth v5 0)]

def Cx_rank_Before : IV → List Nat → List (List IV) → Option (List IV) :=
  tbl n_rank_Before_1 [1] (fun caps l => match caps, l with | [a0, a1], [] => rank_Before_1_s a0 a1 | _, _ => none) <|
  tbl n_rank_Before_2 [1] (fun caps l => match caps, l with | [a0, a1], [] => rank_Before_2_s a0 a1 | _, _ => none) <|
  fun _ _ _ => none
def rank_Before_s (a0 a1 a2 a3 : IV) : Option (List IV) :=
 (rank_first_s (Cx_rank_Before) (.lst [[(.clo (.func n_rank_Before_1) [(.ptr [a0, a1] 0), (.ptr [a2, a3] 0)])], [(.clo (.func n_rank_Before_2) [(.ptr [a0, a1] 0), (.ptr [a2, a3] 0)])]])).bind fun v1 =>
 (ibin .lss (nth v1 0) (.int .i64 0)).bind fun v2 =>
 scal [v2]

def moves_when_before_s (a0 a1 a2 a3 a4 a5 a6 a7 : IV) : Option (List IV) :=
 (rank_Before_s a0 a1 a2 a3).bind fun v1 =>
 scal [(nth v1 0)]

def Cx_moves_Insert : IV → List Nat → List (List IV) → Option (List IV) :=
  tbl n_moves_when_is [1] (fun caps l => match caps, l with | [], [[a0, a1], [a2, a3, a4, a5, a6, a7]] => moves_when_is_s a0 a1 a2 a3 a4 a5 a6 a7 | _, _ => none) <|
  tbl n_moves_when_before [1] (fun caps l => match caps, l with | [], [[a0, a1], [a2, a3, a4, a5, a6, a7]] => moves_when_before_s a0 a1 a2 a3 a4 a5 a6 a7 | _, _ => none) <|
  fun _ _ _ => none
def moves_Insert_s (a0 a1 a2 a3 a4 a5 a6 : IV) : Option (List IV) :=
 (moves_seek_s (Cx_moves_Insert) a0 a1 a2 (.clo (.func n_moves_when_is) [])).bind fun v1 =>
 (ilenL a0).bind fun v2 =>
 (ibin .lss (nth v1 0) v2).bind fun v3 =>
 icond v3 (fun _ =>
 some [a0, (nth v1 0), (.bool false)]) (fun _ =>
 (moves_seek_s (Cx_moves_Insert) a0 a1 a2 (.clo (.func n_moves_when_before) [])).bind fun v4 =>
 (slices_Clone_Move_s a0).bind fun v5 =>
 (slices_Insert_Move_s (nth v5 0) (nth v4 0) (.lst [[a1, a2, a3, a4, a5, a6]])).bind fun v6 =>
 some [(nth v6 0), (nth v4 0), (.bool true)])

def slices_Reverse_Move_l1 (v2 : List IV) : Option SR :=
 (ibin .lss (nth v2 1) (nth v2 2)).bind fun v3 =>
 icond v3 (fun _ =>
 (ibidx (llen (nth v2 0)) (nth v2 2)).bind fun v4 =>
 (ildN (nth v2 0) v4 0 6).bind fun v5 =>
 (ibidx (llen (nth v2 0)) (nth v2 1)).bind fun v6 =>
 (ildN (nth v2 0) v6 0 6).bind fun v7 =>
 (ibidx (llen (nth v2 0)) (nth v2 1)).bind fun v8 =>
 (iset (nth v2 0) v8 0 [(nth v5 0), (nth v5 1), (nth v5 2), (nth v5 3), (nth v5 4), (nth v5 5)]).bind fun v9 =>
 (ibidx (llen (nth v2 0)) (nth v2 2)).bind fun v10 =>
 (iset v9 v10 0 [(nth v7 0), (nth v7 1), (nth v7 2), (nth v7 3), (nth v7 4), (nth v7 5)]).bind fun v11 =>
 (ibin .add (nth v2 1) (.int .i64 1)).bind fun v12 =>
 (ibin .sub (nth v2 2) (.int .i64 1)).bind fun v13 =>
 some (.next [v11, v12, v13])) (fun _ =>
 some (.done 0 [(nth v2 0)]))
def slices_Reverse_Move_s (a0 : IV) : Option (List IV) :=
 (ibin .sub (.int .i64 ((llen a0) : Nat)) (.int .i64 1)).bind fun v1 =>
 (iter rounds (slices_Reverse_Move_l1) [a0, (.int .i64 0), v1]).bind fun v14 =>
 sel v14.1 [some [(nth v14.2 0)]]

def replay_Tree_Add_l7 (v2 : List IV) (a3 : IV) (a4 : IV) (a5 : IV) (a6 : IV) (a7 : IV) (a8 : IV) (v4 : List IV) : Option SR :=
 (ibin .sub (.int .i64 ((llen (nth v4 2)) : Nat)) (.int .i64 1)).bind fun v5 =>
 (ibin .geq v5 (nth v2 1)).bind fun v6 =>
 icond v6 (fun _ =>
 (ibidx (llen (nth v4 2)) v5).bind fun v7 =>
 (ildN (nth v4 2) v7 0 12).bind fun v8 =>
 (undo_Undo_s (nth v4 1) (nth v8 0) (nth v8 1) (nth v8 2) (nth v8 3) (nth v8 4) (nth v8 5) (nth v8 6) (nth v8 7) (nth v8 8) (nth v8 9) (nth v8 10) (nth v8 11)).bind fun v9 =>
 (bnd3 v5 v5 (llen (nth v4 2))).bind fun v10 =>
 (iapp 6 56 (nth v4 3) (.lst [[(nth v8 0), (nth v8 1), (nth v8 2), (nth v8 3), (nth v8 4), (nth v8 5)]])).bind fun v11 =>
 some (.next [(nth v4 0), (nth v9 0), (lsub (nth v4 2) 0 v10), v11])) (fun _ =>
 (iapp 6 56 (nth v4 3) (.lst [[a3, a4, a5, a6, a7, a8]])).bind fun v12 =>
 (slices_Reverse_Move_s v12).bind fun v13 =>
 (undo_Run_s (nth v4 1) (nth v13 0)).bind fun v14 =>
 (iapp 12 104 (nth v4 2) (nth v14 1)).bind fun v15 =>
 (ibin .sub (.int .i64 ((llen v12) : Nat)) (.int .i64 1)).bind fun v16 =>
 some (.done 1 [(nth v4 0), (nth v14 0), v15, v16, (.bool true)]))
def replay_Tree_Add_s (a0 a1 a2 a3 a4 a5 a6 a7 a8 : IV) : Option (List IV) :=
 (replay_Tree_Log_s (.ptr [a0, a1, a2] 0)).bind fun v1 =>
 (moves_Insert_s (nth v1 0) a3 a4 a5 a6 a7 a8).bind fun v2 =>
 (iun .not (nth v2 2)).bind fun v3 =>
 icond v3 (fun _ =>
 some [a0, a1, a2, (.int .i64 0), (.bool false)]) (fun _ =>
 (iter rounds (replay_Tree_Add_l7 v2 a3 a4 a5 a6 a7 a8) [a0, a1, a2, (.lst [])]).bind fun v17 =>
 sel v17.1 [none,
 some [(nth v17.2 0), (nth v17.2 1), (nth v17.2 2), (nth v17.2 3), (nth v17.2 4)]])
def replay_Tree_Add_nil (a0 a1 a2 a3 a4 a5 : IV) : Option (List IV) :=
 some [(.int .i64 0), (.bool false)]

def replay_Tree_Rows_s (a0 : IV) : Option (List IV) :=
 (ibinP .eql a0 .nilp).bind fun v1 =>
 icond v1 (fun _ =>
 if flatI (.lst []) = true then some [(.lst [])] else none) (fun _ =>
 (ipnn a0).bind fun v2 =>
 (ipnn v2).bind fun v3 =>
 (ipld v3 1).bind fun v4 =>
 (slices_Clone_Row_s v4).bind fun v5 =>
 if flatI (nth v5 0) = true then some [(nth v5 0)] else none)

def replay_Tree_Steps_s (a0 : IV) : Option (List IV) :=
 (ibinP .eql a0 .nilp).bind fun v1 =>
 icond v1 (fun _ =>
 if flatI (.lst []) = true then some [(.lst [])] else none) (fun _ =>
 (ipnn a0).bind fun v2 =>
 (ipnn v2).bind fun v3 =>
 (ipld v3 2).bind fun v4 =>
 (slices_Clone_Step_s v4).bind fun v5 =>
 if flatI (nth v5 0) = true then some [(nth v5 0)] else none)

def replay_Tree_Base_s (a0 : IV) : Option (List IV) :=
 (ibinP .eql a0 .nilp).bind fun v1 =>
 icond v1 (fun _ =>
 if flatI (.lst []) = true then some [(.lst [])] else none) (fun _ =>
 (ipnn a0).bind fun v2 =>
 (ipnn v2).bind fun v3 =>
 (ipld v3 0).bind fun v4 =>
 (slices_Clone_Row_s v4).bind fun v5 =>
 if flatI (nth v5 0) = true then some [(nth v5 0)] else none)

def law16_live_1_s (a0 a1 a2 : IV) : Option (List IV) :=
 scal [a0, (.int .i64 1), a2, a1, (.str ⟨#[]⟩), (.flt .f64 0)]

def Cx_law16_live : IV → List Nat → List (List IV) → Option (List IV) :=
  tbl n_law16_live_1 [6] (fun caps l => match caps, l with | [], [[a0], [a1], [a2]] => law16_live_1_s a0 a1 a2 | _, _ => none) <|
  fun _ _ _ => none
def law16_live_g (C : IV → List Nat → List (List IV) → Option (List IV)) : Option (List IV) :=
 (replay_New_s (.lst [])).bind fun v1 =>
 (C (.clo (.func n_law16_live_1) []) [6] [[(.int .i64 3)], [(.int .i64 1)], [(.int .i64 2)]]).bind fun v2 =>
 (replay_Tree_Add_s (nth v1 0) (nth v1 1) (nth v1 2) (nth v2 0) (nth v2 1) (nth v2 2) (nth v2 3) (nth v2 4) (nth v2 5)).bind fun v3 =>
 (C (.clo (.func n_law16_live_1) []) [6] [[(.int .i64 1)], [(.int .i64 2)], [(.int .i64 0)]]).bind fun v4 =>
 (replay_Tree_Add_s (nth v3 0) (nth v3 1) (nth v3 2) (nth v4 0) (nth v4 1) (nth v4 2) (nth v4 3) (nth v4 4) (nth v4 5)).bind fun v5 =>
 (C (.clo (.func n_law16_live_1) []) [6] [[(.int .i64 2)], [(.int .i64 2)], [(.int .i64 1)]]).bind fun v6 =>
 (replay_Tree_Add_s (nth v5 0) (nth v5 1) (nth v5 2) (nth v6 0) (nth v6 1) (nth v6 2) (nth v6 3) (nth v6 4) (nth v6 5)).bind fun v7 =>
 (C (.clo (.func n_law16_live_1) []) [6] [[(.int .i64 2)], [(.int .i64 9)], [(.int .i64 0)]]).bind fun v8 =>
 (replay_Tree_Add_s (nth v7 0) (nth v7 1) (nth v7 2) (nth v8 0) (nth v8 1) (nth v8 2) (nth v8 3) (nth v8 4) (nth v8 5)).bind fun v9 =>
 (replay_Tree_Rows_s (.ptr [(nth v9 0), (nth v9 1), (nth v9 2)] 0)).bind fun v10 =>
 (replay_Tree_Steps_s (.ptr [(nth v9 0), (nth v9 1), (nth v9 2)] 0)).bind fun v11 =>
 ((ibin .neq (.int .i64 ((llen (nth v10 0)) : Nat)) (.int .i64 1)).bind fun v12 =>
 icond v12 (fun _ =>
 some [(.bool true)]) (fun _ =>
 (ibin .neq (.int .i64 ((llen (nth v11 0)) : Nat)) (.int .i64 3)).bind fun v13 =>
 some [v13])).bind fun v14 =>
 icond (nth v14 0) (fun _ =>
 scal [(.bool false)]) (fun _ =>
 ((ibin .eql (nth (v3.drop 3) 0) (.int .i64 0)).bind fun v15 =>
 icond v15 (fun _ =>
 icond (nth (v3.drop 3) 1) (fun _ =>
 (ibin .eql (nth (v5.drop 3) 0) (.int .i64 1)).bind fun v16 =>
 icond v16 (fun _ =>
 icond (nth (v5.drop 3) 1) (fun _ =>
 (ibin .eql (nth (v7.drop 3) 0) (.int .i64 1)).bind fun v17 =>
 icond v17 (fun _ =>
 icond (nth (v7.drop 3) 1) (fun _ =>
 (ibin .eql (nth (v9.drop 3) 0) (.int .i64 0)).bind fun v18 =>
 icond v18 (fun _ =>
 (iun .not (nth (v9.drop 3) 1)).bind fun v19 =>
 icond v19 (fun _ =>
 (ibidx (llen (nth v10 0)) (.int .i64 0)).bind fun v20 =>
 (ild (nth v10 0) v20 0).bind fun v21 =>
 (ibin .eql v21 (.int .i64 2)).bind fun v22 =>
 icond v22 (fun _ =>
 (ibidx (llen (nth v10 0)) (.int .i64 0)).bind fun v23 =>
 (ild (nth v10 0) v23 1).bind fun v24 =>
 (ibin .eql v24 (.int .i64 1)).bind fun v25 =>
 icond v25 (fun _ =>
 (ibidx (llen (nth v11 0)) (.int .i64 1)).bind fun v26 =>
 (ild (nth v11 0) v26 7).bind fun v27 =>
 icond v27 (fun _ =>
 (ibidx (llen (nth v11 0)) (.int .i64 2)).bind fun v28 =>
 (ild (nth v11 0) v28 6).bind fun v29 =>
 (iun .not v29).bind fun v30 =>
 icond v30 (fun _ =>
 (replay_Tree_Log_s (.ptr [(nth v9 0), (nth v9 1), (nth v9 2)] 0)).bind fun v31 =>
 (ibin .eql (.int .i64 ((llen (nth v31 0)) : Nat)) (.int .i64 3)).bind fun v32 =>
 icond v32 (fun _ =>
 (replay_Tree_Base_s (.ptr [(nth v9 0), (nth v9 1), (nth v9 2)] 0)).bind fun v33 =>
 (ibin .eql (.int .i64 ((llen (nth v33 0)) : Nat)) (.int .i64 0)).bind fun v34 =>
 some [v34]) (fun _ =>
 some [(.bool false)])) (fun _ =>
 some [(.bool false)])) (fun _ =>
 some [(.bool false)])) (fun _ =>
 some [(.bool false)])) (fun _ =>
 some [(.bool false)])) (fun _ =>
 some [(.bool false)])) (fun _ =>
 some [(.bool false)])) (fun _ =>
 some [(.bool false)])) (fun _ =>
 some [(.bool false)])) (fun _ =>
 some [(.bool false)])) (fun _ =>
 some [(.bool false)])) (fun _ =>
 some [(.bool false)])) (fun _ =>
 some [(.bool false)])).bind fun v35 =>
 scal [(nth v35 0)])
def law16_live_s : Option (List IV) := law16_live_g Cx_law16_live

def ref02_Before_s (a0 a1 a2 a3 : IV) : Option (List IV) :=
 ((ibin .lss a0 a2).bind fun v1 =>
 icond v1 (fun _ =>
 some [(.bool true)]) (fun _ =>
 (ibin .eql a0 a2).bind fun v2 =>
 icond v2 (fun _ =>
 (ibin .lss a1 a3).bind fun v3 =>
 some [v3]) (fun _ =>
 some [(.bool false)]))).bind fun v4 =>
 scal [(nth v4 0)]

def ref13_Insert_l2 (a0 : IV) (a1 : IV) (a2 : IV) (v1 : List IV) : Option SR :=
 (ilenL a0).bind fun v2 =>
 (ibin .lss (nth v1 0) v2).bind fun v3 =>
 icond v3 (fun _ =>
 (iidx a0 (nth v1 0) 6).bind fun v4 =>
 (ildN a0 v4 0 2).bind fun v5 =>
 (ieqs .eql [.i, .i] [(nth v5 0), (nth v5 1)] [a1, a2]).bind fun v6 =>
 icond v6 (fun _ =>
 some (.done 1 [a0, (nth v1 0), (.bool false)])) (fun _ =>
 (ibin .add (nth v1 0) (.int .i64 1)).bind fun v7 =>
 some (.next [v7]))) (fun _ =>
 some (.done 0 []))
def ref13_Insert_l7 (a0 : IV) (a1 : IV) (a2 : IV) (v9 : List IV) : Option SR :=
 ((ilenL a0).bind fun v10 =>
 (ibin .lss (nth v9 0) v10).bind fun v11 =>
 icond v11 (fun _ =>
 (iidx a0 (nth v9 0) 6).bind fun v12 =>
 (ildN a0 v12 0 2).bind fun v13 =>
 (ref02_Before_s a1 a2 (nth v13 0) (nth v13 1)).bind fun v14 =>
 (iun .not (nth v14 0)).bind fun v15 =>
 some [v15]) (fun _ =>
 some [(.bool false)])).bind fun v16 =>
 icond (nth v16 0) (fun _ =>
 (ibin .add (nth v9 0) (.int .i64 1)).bind fun v17 =>
 some (.next [v17])) (fun _ =>
 some (.done 0 [(nth v9 0)]))
def ref13_Insert_s (a0 a1 a2 a3 a4 a5 a6 : IV) : Option (List IV) :=
 (iter rounds (ref13_Insert_l2 a0 a1 a2) [(.int .i64 0)]).bind fun v8 =>
 sel v8.1 [(iter rounds (ref13_Insert_l7 a0 a1 a2) [(.int .i64 0)]).bind fun v18 =>
 sel v18.1 [(islcL 6 a0 none (some (nth v18.2 0))).bind fun v19 =>
 (iapp 6 56 (.lst []) v19).bind fun v20 =>
 (iapp 6 56 v20 (.lst [[a1, a2, a3, a4, a5, a6]])).bind fun v21 =>
 (islcL 6 a0 (some (nth v18.2 0)) none).bind fun v22 =>
 (iapp 6 56 v21 v22).bind fun v23 =>
 some [v23, (nth v18.2 0), (.bool true)]],
 some [(nth v8.2 0), (nth v8.2 1), (nth v8.2 2)]]

def ref16_Tree_Add_s (a0 a1 a2 a3 a4 a5 a6 a7 : IV) : Option (List IV) :=
 (ref13_Insert_s a1 a2 a3 a4 a5 a6 a7).bind fun v1 =>
 (iun .not (nth v1 2)).bind fun v2 =>
 icond v2 (fun _ =>
 some [a0, a1, (.int .i64 0), (.bool false)]) (fun _ =>
 (ilenL (nth v1 0)).bind fun v3 =>
 (ibin .sub v3 (.int .i64 1)).bind fun v4 =>
 (ibin .sub v4 (nth v1 1)).bind fun v5 =>
 some [a0, (nth v1 0), v5, (.bool true)])

def law16_ReplayScripts_l8 (a1 : IV) (a0 : IV) (v12 : List IV) : Option SR :=
 (ilenL a1).bind fun v13 =>
 (ibin .lss (nth v12 5) v13).bind fun v14 =>
 icond v14 (fun _ =>
 (iidx a1 (nth v12 5) 6).bind fun v15 =>
 (ildN a1 v15 0 6).bind fun v16 =>
 (replay_Tree_Add_s (nth v12 0) (nth v12 1) (nth v12 2) (nth v16 0) (nth v16 1) (nth v16 2) (nth v16 3) (nth v16 4) (nth v16 5)).bind fun v17 =>
 (iidx a1 (nth v12 5) 6).bind fun v18 =>
 (ildN a1 v18 0 6).bind fun v19 =>
 (ref16_Tree_Add_s (nth v12 3) (nth v12 4) (nth v19 0) (nth v19 1) (nth v19 2) (nth v19 3) (nth v19 4) (nth v19 5)).bind fun v20 =>
 ((ibin .neq (nth (v17.drop 3) 0) (nth (v20.drop 2) 0)).bind fun v21 =>
 icond v21 (fun _ =>
 some [(.bool true)]) (fun _ =>
 (ibinB .neq (nth (v17.drop 3) 1) (nth (v20.drop 2) 1)).bind fun v22 =>
 icond v22 (fun _ =>
 some [(.bool true)]) (fun _ =>
 (replay_Tree_Rows_s (.ptr [(nth v17 0), (nth v17 1), (nth v17 2)] 0)).bind fun v23 =>
 (ref16_Tree_Rows_s (nth v20 0) (nth v20 1)).bind fun v24 =>
 (ref12_Same_s (nth v23 0) (nth v24 0)).bind fun v25 =>
 (iun .not (nth v25 0)).bind fun v26 =>
 icond v26 (fun _ =>
 some [(.bool true)]) (fun _ =>
 (replay_Tree_Log_s (.ptr [(nth v17 0), (nth v17 1), (nth v17 2)] 0)).bind fun v27 =>
 (ref13_Same_s (nth v27 0) (nth v20 1)).bind fun v28 =>
 (iun .not (nth v28 0)).bind fun v29 =>
 icond v29 (fun _ =>
 some [(.bool true)]) (fun _ =>
 (replay_Tree_Steps_s (.ptr [(nth v17 0), (nth v17 1), (nth v17 2)] 0)).bind fun v30 =>
 (ref16_Tree_Steps_s (nth v20 0) (nth v20 1)).bind fun v31 =>
 (ref15_Same_s (nth v30 0) (nth v31 0)).bind fun v32 =>
 (iun .not (nth v32 0)).bind fun v33 =>
 icond v33 (fun _ =>
 some [(.bool true)]) (fun _ =>
 (replay_Tree_Base_s (.ptr [(nth v17 0), (nth v17 1), (nth v17 2)] 0)).bind fun v34 =>
 (ref12_Same_s (nth v34 0) a0).bind fun v35 =>
 (iun .not (nth v35 0)).bind fun v36 =>
 some [v36])))))).bind fun v37 =>
 icond (nth v37 0) (fun _ =>
 some (.done 1 [(.bool false)])) (fun _ =>
 (ibin .add (nth v12 5) (.int .i64 1)).bind fun v38 =>
 some (.next [(nth v17 0), (nth v17 1), (nth v17 2), (nth v20 0), (nth v20 1), v38]))) (fun _ =>
 some (.done 0 []))
def law16_ReplayScripts_s (a0 a1 : IV) : Option (List IV) :=
 ((ilenL a0).bind fun v1 =>
 (ibin .gtr v1 (.int .i64 40)).bind fun v2 =>
 icond v2 (fun _ =>
 some [(.bool true)]) (fun _ =>
 (ref12_Few_s a0).bind fun v3 =>
 (iun .not (nth v3 0)).bind fun v4 =>
 icond v4 (fun _ =>
 some [(.bool true)]) (fun _ =>
 (ref13_Few_s a1 (.int .i64 40)).bind fun v5 =>
 (iun .not (nth v5 0)).bind fun v6 =>
 icond v6 (fun _ =>
 some [(.bool true)]) (fun _ =>
 (ref12_May_s a0).bind fun v7 =>
 (iun .not (nth v7 0)).bind fun v8 =>
 some [v8])))).bind fun v9 =>
 icond (nth v9 0) (fun _ =>
 (law16_live_s).bind fun v10 =>
 scal [(nth v10 0)]) (fun _ =>
 (replay_New_s a0).bind fun v11 =>
 (iter rounds (law16_ReplayScripts_l8 a1 a0) [(nth v11 0), (nth v11 1), (nth v11 2), a0, (.lst []), (.int .i64 0)]).bind fun v39 =>
 sel v39.1 [(law16_live_s).bind fun v40 =>
 scal [(nth v40 0)],
 scal [(nth v39.2 0)]])

def law16_ReplayNil_s (a0 a1 a2 a3 a4 a5 : IV) : Option (List IV) :=
 (ilenS a4).bind fun v1 =>
 (ibin .gtr v1 (.int .i64 100)).bind fun v2 =>
 icond v2 (fun _ =>
 (law16_live_s).bind fun v3 =>
 scal [(nth v3 0)]) (fun _ =>
 (replay_Tree_Add_nil a0 a1 a2 a3 a4 a5).bind fun v4 =>
 ((ibin .eql (nth v4 0) (.int .i64 0)).bind fun v5 =>
 icond v5 (fun _ =>
 (iun .not (nth v4 1)).bind fun v6 =>
 icond v6 (fun _ =>
 (replay_Tree_Rows_s .nilp).bind fun v7 =>
 (ibin .eql (.int .i64 ((llen (nth v7 0)) : Nat)) (.int .i64 0)).bind fun v8 =>
 icond v8 (fun _ =>
 (replay_Tree_Log_s .nilp).bind fun v9 =>
 (ibin .eql (.int .i64 ((llen (nth v9 0)) : Nat)) (.int .i64 0)).bind fun v10 =>
 icond v10 (fun _ =>
 (replay_Tree_Steps_s .nilp).bind fun v11 =>
 (ibin .eql (.int .i64 ((llen (nth v11 0)) : Nat)) (.int .i64 0)).bind fun v12 =>
 icond v12 (fun _ =>
 (replay_Tree_Base_s .nilp).bind fun v13 =>
 (ibin .eql (.int .i64 ((llen (nth v13 0)) : Nat)) (.int .i64 0)).bind fun v14 =>
 icond v14 (fun _ =>
 (law16_live_s).bind fun v15 =>
 some [(nth v15 0)]) (fun _ =>
 some [(.bool false)])) (fun _ =>
 some [(.bool false)])) (fun _ =>
 some [(.bool false)])) (fun _ =>
 some [(.bool false)])) (fun _ =>
 some [(.bool false)])) (fun _ =>
 some [(.bool false)])).bind fun v16 =>
 scal [(nth v16 0)])

def fold_All_l2 (v1 : IV) (a1 : IV) (v2 : List IV) : Option SR :=
 (ibin .lss (nth v2 1) v1).bind fun v3 =>
 icond v3 (fun _ =>
 (iidx a1 (nth v2 1) 6).bind fun v4 =>
 (ildN a1 v4 0 6).bind fun v5 =>
 (fold_Do_s (nth v2 0) (nth v5 0) (nth v5 1) (nth v5 2) (nth v5 3) (nth v5 4) (nth v5 5)).bind fun v6 =>
 (ibin .add (nth v2 1) (.int .i64 1)).bind fun v7 =>
 some (.next [(nth v6 0), v7])) (fun _ =>
 some (.done 0 [(nth v2 0)]))
def fold_All_s (a0 a1 : IV) : Option (List IV) :=
 (ilenL a1).bind fun v1 =>
 (iter rounds (fold_All_l2 v1 a1) [a0, (.int .i64 0)]).bind fun v8 =>
 sel v8.1 [some [(nth v8.2 0)]]

def law16_all_l3 (a1 : IV) (v2 : List IV) : Option SR :=
 (ilenL a1).bind fun v3 =>
 (ibin .lss (nth v2 3) v3).bind fun v4 =>
 icond v4 (fun _ =>
 (iidx a1 (nth v2 3) 6).bind fun v5 =>
 (ildN a1 v5 0 6).bind fun v6 =>
 (replay_Tree_Add_s (nth v2 0) (nth v2 1) (nth v2 2) (nth v6 0) (nth v6 1) (nth v6 2) (nth v6 3) (nth v6 4) (nth v6 5)).bind fun v7 =>
 (ibin .add (nth v2 3) (.int .i64 1)).bind fun v8 =>
 some (.next [(nth v7 0), (nth v7 1), (nth v7 2), v8])) (fun _ =>
 some (.done 0 [(nth v2 0), (nth v2 1), (nth v2 2)]))
def law16_all_s (a0 a1 : IV) : Option (List IV) :=
 (replay_New_s a0).bind fun v1 =>
 (iter rounds (law16_all_l3 a1) [(nth v1 0), (nth v1 1), (nth v1 2), (.int .i64 0)]).bind fun v9 =>
 sel v9.1 [some [(nth v9.2 0), (nth v9.2 1), (nth v9.2 2)]]

def law16_ReplayOrder_l7 (v13 : List IV) (a1 : IV) (v16 : List IV) : Option SR :=
 (ibin .lss (nth v16 0) (nth v13 0)).bind fun v17 =>
 icond v17 (fun _ =>
 ((iidx a1 (nth v13 0) 6).bind fun v18 =>
 (ildN a1 v18 0 2).bind fun v19 =>
 (iidx a1 (nth v16 0) 6).bind fun v20 =>
 (ildN a1 v20 0 2).bind fun v21 =>
 (ieqs .eql [.i, .i] [(nth v19 0), (nth v19 1)] [(nth v21 0), (nth v21 1)]).bind fun v22 =>
 icond v22 (fun _ =>
 (iidx a1 (nth v13 0) 6).bind fun v23 =>
 (ildN a1 v23 0 6).bind fun v24 =>
 (iidx a1 (nth v16 0) 6).bind fun v25 =>
 (ildN a1 v25 0 6).bind fun v26 =>
 (ref13_Alike_s (nth v24 0) (nth v24 1) (nth v24 2) (nth v24 3) (nth v24 4) (nth v24 5) (nth v26 0) (nth v26 1) (nth v26 2) (nth v26 3) (nth v26 4) (nth v26 5)).bind fun v27 =>
 (iun .not (nth v27 0)).bind fun v28 =>
 some [v28]) (fun _ =>
 some [(.bool false)])).bind fun v29 =>
 icond (nth v29 0) (fun _ =>
 (law16_live_s).bind fun v30 =>
 some (.done 1 [(nth v30 0)])) (fun _ =>
 (ibin .add (nth v16 0) (.int .i64 1)).bind fun v31 =>
 some (.next [v31]))) (fun _ =>
 some (.done 0 []))
def law16_ReplayOrder_l4 (a1 : IV) (v13 : List IV) : Option SR :=
 (ilenL a1).bind fun v14 =>
 (ibin .lss (nth v13 0) v14).bind fun v15 =>
 icond v15 (fun _ =>
 (iter rounds (law16_ReplayOrder_l7 v13 a1) [(.int .i64 0)]).bind fun v32 =>
 sel v32.1 [(ibin .add (nth v13 0) (.int .i64 1)).bind fun v33 =>
 some (.next [v33]),
 some (.done 1 [(nth v32.2 0)])]) (fun _ =>
 some (.done 0 []))
def law16_ReplayOrder_l13 (a2 : IV) (a1 : IV) (v35 : List IV) : Option SR :=
 (ilenL a2).bind fun v36 =>
 (ibin .lss (nth v35 1) v36).bind fun v37 =>
 icond v37 (fun _ =>
 ((iidx a2 (nth v35 1) 1).bind fun v38 =>
 (ild a2 v38 0).bind fun v39 =>
 (ibin .geq v39 (.int .i64 0)).bind fun v40 =>
 icond v40 (fun _ =>
 (iidx a2 (nth v35 1) 1).bind fun v41 =>
 (ild a2 v41 0).bind fun v42 =>
 (ilenL a1).bind fun v43 =>
 (ibin .lss v42 v43).bind fun v44 =>
 some [v44]) (fun _ =>
 some [(.bool false)])).bind fun v45 =>
 icond (nth v45 0) (fun _ =>
 (iidx a2 (nth v35 1) 1).bind fun v46 =>
 (ild a2 v46 0).bind fun v47 =>
 (iidx a1 v47 6).bind fun v48 =>
 (ildN a1 v48 0 6).bind fun v49 =>
 (iapp 6 56 (nth v35 0) (.lst [[(nth v49 0), (nth v49 1), (nth v49 2), (nth v49 3), (nth v49 4), (nth v49 5)]])).bind fun v50 =>
 (ibin .add (nth v35 1) (.int .i64 1)).bind fun v51 =>
 some (.next [v50, v51])) (fun _ =>
 (ibin .add (nth v35 1) (.int .i64 1)).bind fun v52 =>
 some (.next [(nth v35 0), v52]))) (fun _ =>
 some (.done 0 [(nth v35 0)]))
def law16_ReplayOrder_l18 (a1 : IV) (v56 : List IV) : Option SR :=
 (ibin .geq (nth v56 1) (.int .i64 0)).bind fun v57 =>
 icond v57 (fun _ =>
 (iidx a1 (nth v56 1) 6).bind fun v58 =>
 (ildN a1 v58 0 6).bind fun v59 =>
 (iapp 6 56 (nth v56 0) (.lst [[(nth v59 0), (nth v59 1), (nth v59 2), (nth v59 3), (nth v59 4), (nth v59 5)]])).bind fun v60 =>
 (ibin .sub (nth v56 1) (.int .i64 1)).bind fun v61 =>
 some (.next [v60, v61])) (fun _ =>
 some (.done 0 [(nth v56 0)]))
def law16_ReplayOrder_l27 (v78 : List IV) (v79 : List IV) : Option SR :=
 (ibin .lss (nth v79 0) (.int .i64 ((llen (nth v78 0)) : Nat))).bind fun v80 =>
 icond v80 (fun _ =>
 (ibin .sub (nth v79 0) (.int .i64 1)).bind fun v81 =>
 (ibidx (llen (nth v78 0)) v81).bind fun v82 =>
 (ildN (nth v78 0) v82 0 2).bind fun v83 =>
 (ibidx (llen (nth v78 0)) (nth v79 0)).bind fun v84 =>
 (ildN (nth v78 0) v84 0 2).bind fun v85 =>
 (ref02_Before_s (nth v83 0) (nth v83 1) (nth v85 0) (nth v85 1)).bind fun v86 =>
 (iun .not (nth v86 0)).bind fun v87 =>
 icond v87 (fun _ =>
 some (.done 1 [(.bool false)])) (fun _ =>
 (ibin .add (nth v79 0) (.int .i64 1)).bind fun v88 =>
 some (.next [v88]))) (fun _ =>
 some (.done 0 []))
def law16_ReplayOrder_s (a0 a1 a2 : IV) : Option (List IV) :=
 ((ilenL a0).bind fun v1 =>
 (ibin .gtr v1 (.int .i64 40)).bind fun v2 =>
 icond v2 (fun _ =>
 some [(.bool true)]) (fun _ =>
 (ref12_Few_s a0).bind fun v3 =>
 (iun .not (nth v3 0)).bind fun v4 =>
 icond v4 (fun _ =>
 some [(.bool true)]) (fun _ =>
 (ref13_Few_s a1 (.int .i64 40)).bind fun v5 =>
 (iun .not (nth v5 0)).bind fun v6 =>
 icond v6 (fun _ =>
 some [(.bool true)]) (fun _ =>
 (ref12_May_s a0).bind fun v7 =>
 (iun .not (nth v7 0)).bind fun v8 =>
 icond v8 (fun _ =>
 some [(.bool true)]) (fun _ =>
 (ilenL a2).bind fun v9 =>
 (ibin .gtr v9 (.int .i64 60)).bind fun v10 =>
 some [v10]))))).bind fun v11 =>
 icond (nth v11 0) (fun _ =>
 (law16_live_s).bind fun v12 =>
 scal [(nth v12 0)]) (fun _ =>
 (iter rounds (law16_ReplayOrder_l4 a1) [(.int .i64 0)]).bind fun v34 =>
 sel v34.1 [(iter rounds (law16_ReplayOrder_l13 a2 a1) [(.lst []), (.int .i64 0)]).bind fun v53 =>
 sel v53.1 [(ilenL a1).bind fun v54 =>
 (ibin .sub v54 (.int .i64 1)).bind fun v55 =>
 (iter rounds (law16_ReplayOrder_l18 a1) [(nth v53.2 0), v55]).bind fun v62 =>
 sel v62.1 [(law16_all_s a0 a1).bind fun v63 =>
 (law16_all_s a0 (nth v62.2 0)).bind fun v64 =>
 ((replay_Tree_Rows_s (.ptr [(nth v63 0), (nth v63 1), (nth v63 2)] 0)).bind fun v65 =>
 (replay_Tree_Rows_s (.ptr [(nth v64 0), (nth v64 1), (nth v64 2)] 0)).bind fun v66 =>
 (ref12_Same_s (nth v65 0) (nth v66 0)).bind fun v67 =>
 (iun .not (nth v67 0)).bind fun v68 =>
 icond v68 (fun _ =>
 some [(.bool true)]) (fun _ =>
 (replay_Tree_Log_s (.ptr [(nth v63 0), (nth v63 1), (nth v63 2)] 0)).bind fun v69 =>
 (replay_Tree_Log_s (.ptr [(nth v64 0), (nth v64 1), (nth v64 2)] 0)).bind fun v70 =>
 (ref13_Same_s (nth v69 0) (nth v70 0)).bind fun v71 =>
 (iun .not (nth v71 0)).bind fun v72 =>
 icond v72 (fun _ =>
 some [(.bool true)]) (fun _ =>
 (replay_Tree_Steps_s (.ptr [(nth v63 0), (nth v63 1), (nth v63 2)] 0)).bind fun v73 =>
 (replay_Tree_Steps_s (.ptr [(nth v64 0), (nth v64 1), (nth v64 2)] 0)).bind fun v74 =>
 (ref15_Same_s (nth v73 0) (nth v74 0)).bind fun v75 =>
 (iun .not (nth v75 0)).bind fun v76 =>
 some [v76]))).bind fun v77 =>
 icond (nth v77 0) (fun _ =>
 scal [(.bool false)]) (fun _ =>
 (replay_Tree_Log_s (.ptr [(nth v63 0), (nth v63 1), (nth v63 2)] 0)).bind fun v78 =>
 (iter rounds (law16_ReplayOrder_l27 v78) [(.int .i64 1)]).bind fun v89 =>
 sel v89.1 [(replay_Tree_Rows_s (.ptr [(nth v63 0), (nth v63 1), (nth v63 2)] 0)).bind fun v90 =>
 (fold_All_s a0 (nth v78 0)).bind fun v91 =>
 (ref12_Same_s (nth v90 0) (nth v91 0)).bind fun v92 =>
 icond (nth v92 0) (fun _ =>
 (law16_live_s).bind fun v93 =>
 scal [(nth v93 0)]) (fun _ =>
 scal [(.bool false)]),
 scal [(nth v89.2 0)]])]],
 scal [(nth v34.2 0)]])

def ref13_Time_s (a0 a1 : IV) : Option (List IV) :=
 ((ibin .geq a0 (.int .i64 1)).bind fun v1 =>
 icond v1 (fun _ =>
 (ibin .leq a0 (.int .i64 4611686018427387903)).bind fun v2 =>
 icond v2 (fun _ =>
 (ibin .geq a1 (.int .i64 1)).bind fun v3 =>
 icond v3 (fun _ =>
 (ibin .leq a1 (.int .i64 255)).bind fun v4 =>
 some [v4]) (fun _ =>
 some [(.bool false)])) (fun _ =>
 some [(.bool false)])) (fun _ =>
 some [(.bool false)])).bind fun v5 =>
 scal [(nth v5 0)]

def ref13_One_s (a0 a1 a2 a3 a4 a5 : IV) : Option (List IV) :=
 ((ref13_Time_s a0 a1).bind fun v1 =>
 icond (nth v1 0) (fun _ =>
 (ref13_Row_s a0 a1 a2 a3 a4 a5).bind fun v2 =>
 (ref12_One_s (nth v2 0) (nth v2 1) (nth v2 2) (nth v2 3)).bind fun v3 =>
 some [(nth v3 0)]) (fun _ =>
 some [(.bool false)])).bind fun v4 =>
 scal [(nth v4 0)]

def ref13_May_l4 (a0 : IV) (v3 : List IV) : Option SR :=
 (ilenL a0).bind fun v4 =>
 (ibin .lss (nth v3 0) v4).bind fun v5 =>
 icond v5 (fun _ =>
 ((iidx a0 (nth v3 0) 6).bind fun v6 =>
 (ildN a0 v6 0 6).bind fun v7 =>
 (ref13_One_s (nth v7 0) (nth v7 1) (nth v7 2) (nth v7 3) (nth v7 4) (nth v7 5)).bind fun v8 =>
 (iun .not (nth v8 0)).bind fun v9 =>
 icond v9 (fun _ =>
 some [(.bool true)]) (fun _ =>
 (ibin .gtr (nth v3 0) (.int .i64 0)).bind fun v10 =>
 icond v10 (fun _ =>
 (ibin .sub (nth v3 0) (.int .i64 1)).bind fun v11 =>
 (iidx a0 v11 6).bind fun v12 =>
 (ildN a0 v12 0 2).bind fun v13 =>
 (iidx a0 (nth v3 0) 6).bind fun v14 =>
 (ildN a0 v14 0 2).bind fun v15 =>
 (ref02_Before_s (nth v13 0) (nth v13 1) (nth v15 0) (nth v15 1)).bind fun v16 =>
 (iun .not (nth v16 0)).bind fun v17 =>
 some [v17]) (fun _ =>
 some [(.bool false)]))).bind fun v18 =>
 icond (nth v18 0) (fun _ =>
 some (.done 1 [(.bool false)])) (fun _ =>
 (ibin .add (nth v3 0) (.int .i64 1)).bind fun v19 =>
 some (.next [v19]))) (fun _ =>
 some (.done 0 []))
def ref13_May_s (a0 : IV) : Option (List IV) :=
 (ilenL a0).bind fun v1 =>
 (ibin .gtr v1 (.int .i64 2000)).bind fun v2 =>
 icond v2 (fun _ =>
 scal [(.bool false)]) (fun _ =>
 (iter rounds (ref13_May_l4 a0) [(.int .i64 0)]).bind fun v20 =>
 sel v20.1 [scal [(.bool true)],
 scal [(nth v20.2 0)]])

def ref13_Since_l3 (a0 : IV) (a1 : IV) (a2 : IV) (v1 : List IV) : Option SR :=
 (ilenL a0).bind fun v2 =>
 (ibin .lss (nth v1 1) v2).bind fun v3 =>
 icond v3 (fun _ =>
 (iidx a0 (nth v1 1) 6).bind fun v4 =>
 (ildN a0 v4 0 2).bind fun v5 =>
 (ref02_Before_s a1 a2 (nth v5 0) (nth v5 1)).bind fun v6 =>
 icond (nth v6 0) (fun _ =>
 (iidx a0 (nth v1 1) 6).bind fun v7 =>
 (ildN a0 v7 0 6).bind fun v8 =>
 (iapp 6 56 (nth v1 0) (.lst [[(nth v8 0), (nth v8 1), (nth v8 2), (nth v8 3), (nth v8 4), (nth v8 5)]])).bind fun v9 =>
 (ibin .add (nth v1 1) (.int .i64 1)).bind fun v10 =>
 some (.next [v9, v10])) (fun _ =>
 (ibin .add (nth v1 1) (.int .i64 1)).bind fun v11 =>
 some (.next [(nth v1 0), v11]))) (fun _ =>
 some (.done 0 [(nth v1 0)]))
def ref13_Since_s (a0 a1 a2 : IV) : Option (List IV) :=
 (iter rounds (ref13_Since_l3 a0 a1 a2) [(.lst []), (.int .i64 0)]).bind fun v12 =>
 sel v12.1 [some [(nth v12.2 0)]]

def law16_ReplayParts_l11 (v14 : List IV) (v23 : List IV) : Option SR :=
 (ibin .geq (nth v23 3) (.int .i64 0)).bind fun v24 =>
 icond v24 (fun _ =>
 (iidx (nth v14 0) (nth v23 3) 6).bind fun v25 =>
 (ildN (nth v14 0) v25 0 6).bind fun v26 =>
 (replay_Tree_Add_s (nth v23 0) (nth v23 1) (nth v23 2) (nth v26 0) (nth v26 1) (nth v26 2) (nth v26 3) (nth v26 4) (nth v26 5)).bind fun v27 =>
 ((iun .not (nth (v27.drop 3) 1)).bind fun v28 =>
 icond v28 (fun _ =>
 some [(.bool true)]) (fun _ =>
 (ilenL (nth v14 0)).bind fun v29 =>
 (ibin .sub v29 (.int .i64 1)).bind fun v30 =>
 (ibin .sub v30 (nth v23 3)).bind fun v31 =>
 (ibin .neq (nth (v27.drop 3) 0) v31).bind fun v32 =>
 some [v32])).bind fun v33 =>
 icond (nth v33 0) (fun _ =>
 some (.done 1 [(.bool false)])) (fun _ =>
 (ibin .sub (nth v23 3) (.int .i64 1)).bind fun v34 =>
 some (.next [(nth v27 0), (nth v27 1), (nth v27 2), v34]))) (fun _ =>
 some (.done 0 [(nth v23 0), (nth v23 1), (nth v23 2)]))
def law16_ReplayParts_s (a0 a1 a2 a3 : IV) : Option (List IV) :=
 ((ilenL a0).bind fun v1 =>
 (ibin .gtr v1 (.int .i64 30)).bind fun v2 =>
 icond v2 (fun _ =>
 some [(.bool true)]) (fun _ =>
 (ref12_Few_s a0).bind fun v3 =>
 (iun .not (nth v3 0)).bind fun v4 =>
 icond v4 (fun _ =>
 some [(.bool true)]) (fun _ =>
 (ref13_Few_s a1 (.int .i64 30)).bind fun v5 =>
 (iun .not (nth v5 0)).bind fun v6 =>
 icond v6 (fun _ =>
 some [(.bool true)]) (fun _ =>
 (ref12_May_s a0).bind fun v7 =>
 (iun .not (nth v7 0)).bind fun v8 =>
 icond v8 (fun _ =>
 some [(.bool true)]) (fun _ =>
 (ref13_May_s a1).bind fun v9 =>
 (iun .not (nth v9 0)).bind fun v10 =>
 some [v10]))))).bind fun v11 =>
 icond (nth v11 0) (fun _ =>
 (law16_live_s).bind fun v12 =>
 scal [(nth v12 0)]) (fun _ =>
 (law16_all_s a0 a1).bind fun v13 =>
 (ref13_Since_s a1 a2 a3).bind fun v14 =>
 (ilenL a1).bind fun v15 =>
 (ilenL (nth v14 0)).bind fun v16 =>
 (ibin .sub v15 v16).bind fun v17 =>
 (islcL 6 a1 none (some v17)).bind fun v18 =>
 (fold_All_s a0 v18).bind fun v19 =>
 (replay_New_s (nth v19 0)).bind fun v20 =>
 (ilenL (nth v14 0)).bind fun v21 =>
 (ibin .sub v21 (.int .i64 1)).bind fun v22 =>
 (iter rounds (law16_ReplayParts_l11 v14) [(nth v20 0), (nth v20 1), (nth v20 2), v22]).bind fun v35 =>
 sel v35.1 [((replay_Tree_Rows_s (.ptr [(nth v35.2 0), (nth v35.2 1), (nth v35.2 2)] 0)).bind fun v36 =>
 (replay_Tree_Rows_s (.ptr [(nth v13 0), (nth v13 1), (nth v13 2)] 0)).bind fun v37 =>
 (ref12_Same_s (nth v36 0) (nth v37 0)).bind fun v38 =>
 icond (nth v38 0) (fun _ =>
 (replay_Tree_Log_s (.ptr [(nth v35.2 0), (nth v35.2 1), (nth v35.2 2)] 0)).bind fun v39 =>
 (ref13_Same_s (nth v39 0) (nth v14 0)).bind fun v40 =>
 icond (nth v40 0) (fun _ =>
 (law16_live_s).bind fun v41 =>
 some [(nth v41 0)]) (fun _ =>
 some [(.bool false)])) (fun _ =>
 some [(.bool false)])).bind fun v42 =>
 scal [(nth v42 0)],
 scal [(nth v35.2 0)]])

def law16_ReplayTells_l4 (a1 : IV) (v13 : List IV) : Option SR :=
 (ilenL a1).bind fun v14 =>
 (ibin .lss (nth v13 0) v14).bind fun v15 =>
 icond v15 (fun _ =>
 (iidx a1 (nth v13 0) 6).bind fun v16 =>
 (ildN a1 v16 0 6).bind fun v17 =>
 (ref13_One_s (nth v17 0) (nth v17 1) (nth v17 2) (nth v17 3) (nth v17 4) (nth v17 5)).bind fun v18 =>
 (iun .not (nth v18 0)).bind fun v19 =>
 icond v19 (fun _ =>
 (law16_live_s).bind fun v20 =>
 some (.done 1 [(nth v20 0)])) (fun _ =>
 (ibin .add (nth v13 0) (.int .i64 1)).bind fun v21 =>
 some (.next [v21]))) (fun _ =>
 some (.done 0 []))
def law16_ReplayTells_l16 (v25 : List IV) (a2 : IV) (a3 : IV) (v26 : List IV) : Option SR :=
 (ibin .lss (nth v26 2) (.int .i64 ((llen (nth v25 0)) : Nat))).bind fun v27 =>
 icond v27 (fun _ =>
 (ibidx (llen (nth v25 0)) (nth v26 2)).bind fun v28 =>
 (ildN (nth v25 0) v28 0 2).bind fun v29 =>
 (ref02_Before_s a2 a3 (nth v29 0) (nth v29 1)).bind fun v30 =>
 icond (nth v30 0) (fun _ =>
 (ibin .add (nth v26 0) (.int .i64 1)).bind fun v31 =>
 (icond (nth v26 1) (fun _ =>
 some [(.bool true)]) (fun _ =>
 (ibidx (llen (nth v25 0)) (nth v26 2)).bind fun v32 =>
 (ildN (nth v25 0) v32 0 2).bind fun v33 =>
 (ieqs .eql [.i, .i] [(nth v33 0), (nth v33 1)] [a2, a3]).bind fun v34 =>
 some [v34])).bind fun v35 =>
 (ibin .add (nth v26 2) (.int .i64 1)).bind fun v36 =>
 some (.next [v31, (nth v35 0), v36])) (fun _ =>
 (icond (nth v26 1) (fun _ =>
 some [(.bool true)]) (fun _ =>
 (ibidx (llen (nth v25 0)) (nth v26 2)).bind fun v37 =>
 (ildN (nth v25 0) v37 0 2).bind fun v38 =>
 (ieqs .eql [.i, .i] [(nth v38 0), (nth v38 1)] [a2, a3]).bind fun v39 =>
 some [v39])).bind fun v40 =>
 (ibin .add (nth v26 2) (.int .i64 1)).bind fun v41 =>
 some (.next [(nth v26 0), (nth v40 0), v41]))) (fun _ =>
 some (.done 0 [(nth v26 0), (nth v26 1)]))
def law16_ReplayTells_s (a0 a1 a2 a3 a4 a5 a6 a7 : IV) : Option (List IV) :=
 ((ilenL a0).bind fun v1 =>
 (ibin .gtr v1 (.int .i64 40)).bind fun v2 =>
 icond v2 (fun _ =>
 some [(.bool true)]) (fun _ =>
 (ref12_Few_s a0).bind fun v3 =>
 (iun .not (nth v3 0)).bind fun v4 =>
 icond v4 (fun _ =>
 some [(.bool true)]) (fun _ =>
 (ref13_Few_s a1 (.int .i64 40)).bind fun v5 =>
 (iun .not (nth v5 0)).bind fun v6 =>
 icond v6 (fun _ =>
 some [(.bool true)]) (fun _ =>
 (ref12_May_s a0).bind fun v7 =>
 (iun .not (nth v7 0)).bind fun v8 =>
 icond v8 (fun _ =>
 some [(.bool true)]) (fun _ =>
 (ref13_One_s a2 a3 a4 a5 a6 a7).bind fun v9 =>
 (iun .not (nth v9 0)).bind fun v10 =>
 some [v10]))))).bind fun v11 =>
 icond (nth v11 0) (fun _ =>
 (law16_live_s).bind fun v12 =>
 scal [(nth v12 0)]) (fun _ =>
 (iter rounds (law16_ReplayTells_l4 a1) [(.int .i64 0)]).bind fun v22 =>
 sel v22.1 [(law16_all_s a0 a1).bind fun v23 =>
 (replay_Tree_Rows_s (.ptr [(nth v23 0), (nth v23 1), (nth v23 2)] 0)).bind fun v24 =>
 (replay_Tree_Log_s (.ptr [(nth v23 0), (nth v23 1), (nth v23 2)] 0)).bind fun v25 =>
 (iter rounds (law16_ReplayTells_l16 v25 a2 a3) [(.int .i64 0), (.bool false), (.int .i64 0)]).bind fun v42 =>
 sel v42.1 [(replay_Tree_Add_s (nth v23 0) (nth v23 1) (nth v23 2) a2 a3 a4 a5 a6 a7).bind fun v43 =>
 ((ibinB .eql (nth (v43.drop 3) 1) (nth v42.2 1)).bind fun v44 =>
 icond v44 (fun _ =>
 some [(.bool true)]) (fun _ =>
 icond (nth (v43.drop 3) 1) (fun _ =>
 (ibin .neq (nth (v43.drop 3) 0) (nth v42.2 0)).bind fun v45 =>
 icond v45 (fun _ =>
 some [(.bool true)]) (fun _ =>
 (iun .not (nth (v43.drop 3) 1)).bind fun v46 =>
 icond v46 (fun _ =>
 (ibin .neq (nth (v43.drop 3) 0) (.int .i64 0)).bind fun v47 =>
 icond v47 (fun _ =>
 some [(.bool true)]) (fun _ =>
 (replay_Tree_Rows_s (.ptr [(nth v43 0), (nth v43 1), (nth v43 2)] 0)).bind fun v48 =>
 (ref12_Same_s (nth v48 0) (nth v24 0)).bind fun v49 =>
 (iun .not (nth v49 0)).bind fun v50 =>
 some [v50])) (fun _ =>
 some [(.bool false)]))) (fun _ =>
 (iun .not (nth (v43.drop 3) 1)).bind fun v51 =>
 icond v51 (fun _ =>
 (ibin .neq (nth (v43.drop 3) 0) (.int .i64 0)).bind fun v52 =>
 icond v52 (fun _ =>
 some [(.bool true)]) (fun _ =>
 (replay_Tree_Rows_s (.ptr [(nth v43 0), (nth v43 1), (nth v43 2)] 0)).bind fun v53 =>
 (ref12_Same_s (nth v53 0) (nth v24 0)).bind fun v54 =>
 (iun .not (nth v54 0)).bind fun v55 =>
 some [v55])) (fun _ =>
 some [(.bool false)])))).bind fun v56 =>
 icond (nth v56 0) (fun _ =>
 scal [(.bool false)]) (fun _ =>
 ((replay_Tree_Rows_s (.ptr [(nth v43 0), (nth v43 1), (nth v43 2)] 0)).bind fun v57 =>
 (tree_May_s (nth v57 0)).bind fun v58 =>
 icond (nth v58 0) (fun _ =>
 (replay_Tree_Log_s (.ptr [(nth v43 0), (nth v43 1), (nth v43 2)] 0)).bind fun v59 =>
 (replay_Tree_Steps_s (.ptr [(nth v43 0), (nth v43 1), (nth v43 2)] 0)).bind fun v60 =>
 (ibin .eql (.int .i64 ((llen (nth v59 0)) : Nat)) (.int .i64 ((llen (nth v60 0)) : Nat))).bind fun v61 =>
 icond v61 (fun _ =>
 (law16_live_s).bind fun v62 =>
 some [(nth v62 0)]) (fun _ =>
 some [(.bool false)])) (fun _ =>
 some [(.bool false)])).bind fun v63 =>
 scal [(nth v63 0)])],
 scal [(nth v22.2 0)]])

end Go.AM

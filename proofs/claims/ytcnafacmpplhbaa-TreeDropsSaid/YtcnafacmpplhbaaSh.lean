/- The functions of the program that are reached, as the abstract machine runs them; printed by a program of this work. -/
import Derived.Test.YtcnafacmpplhbaaAe
import Derived.Test.YtcnafacmpplhbaaAf
set_option linter.unusedVariables false
namespace Go.AM
abbrev n_law12_TreeTells : Nat := 8
abbrev n_law12_TreeSets : Nat := 9
abbrev n_law12_TreeOrder : Nat := 10
abbrev n_law12_TreePaths : Nat := 11
abbrev n_law12_TreeKids : Nat := 12
abbrev n_law12_TreeHangs : Nat := 13
abbrev n_law12_TreeDrops : Nat := 14
abbrev n_ref12_Few : Nat := 15
abbrev n_ref12_Same : Nat := 19
abbrev n_ref05_Same : Nat := 25
abbrev n_ref12_May : Nat := 28
abbrev n_tree_Find : Nat := 30
abbrev n_ref12_Alike : Nat := 31
abbrev n_tree_Above : Nat := 32
abbrev n_tree_May : Nat := 34
abbrev n_law12_live : Nat := 35
abbrev n_tree_One : Nat := 36
abbrev n_ref12_One : Nat := 37
abbrev n_ref12_Find : Nat := 38
abbrev n_tree_Same : Nat := 39
abbrev n_tree_Drop : Nat := 40
abbrev n_ref12_Drop : Nat := 41
abbrev n_tree_Path : Nat := 42
abbrev n_ref12_Path : Nat := 43
abbrev n_tree_Set : Nat := 44
abbrev n_ref12_Set : Nat := 45
abbrev n_ref12_Above : Nat := 46
abbrev n_tree_Kids : Nat := 47
abbrev n_ref12_Kids : Nat := 48
abbrev n_tree_Reached : Nat := 49
abbrev n_ref12_Reached : Nat := 50
abbrev n_ref02_Less : Nat := 51
abbrev n_tree_place : Nat := 57
abbrev n_ref01_Same : Nat := 58
abbrev n_word_Valid : Nat := 61
abbrev n_ref04_Valid : Nat := 62
abbrev n_ref12_place : Nat := 63
abbrev n_slices_EqualFunc_Row_Row : Nat := 64
abbrev n_tree_Same_1 : Nat := 65
abbrev n_bits_Same : Nat := 66
abbrev n_slices_Delete_Row : Nat := 67
abbrev n_slices_Clone_Row : Nat := 68
abbrev n_slices_IndexFunc_Row : Nat := 70
abbrev n_tree_Set_1 : Nat := 71
abbrev n_slices_Insert_Row : Nat := 72
abbrev n_slices_SortStableFunc_Row : Nat := 73
abbrev n_tree_Kids_1 : Nat := 74
abbrev n_rank_Less : Nat := 75
abbrev n_ref02_Compare : Nat := 78
abbrev n_tree_place_1 : Nat := 81
abbrev n_ref01_Bits : Nat := 82
abbrev n_word_signs : Nat := 84
abbrev n_ref04_First : Nat := 85
abbrev n_bits_Bits : Nat := 86
abbrev n_slices_Contains_int : Nat := 87
abbrev n_rank_first : Nat := 92
abbrev n_rank_Less_1 : Nat := 93
abbrev n_rank_Compare : Nat := 94
abbrev n_rank_Less_2 : Nat := 95
abbrev n_cmp_Compare_int : Nat := 96
abbrev n_ref02_Key : Nat := 99
abbrev n_ref01_None : Nat := 101
abbrev n_ref01_Minus : Nat := 102
abbrev n_ref01_top : Nat := 103
abbrev n_word_head : Nat := 104
abbrev n_ref04_sign : Nat := 105
abbrev n_bits_Minus : Nat := 106
abbrev n_bits_split : Nat := 107
abbrev n_slices_Index_int : Nat := 108
abbrev n_cmp_Compare_uint64 : Nat := 112
abbrev n_rank_Key : Nat := 113
abbrev n_cmp_isNaN_int : Nat := 114
abbrev n_ref04_in : Nat := 126
abbrev n_bits_powers : Nat := 127
abbrev n_cmp_isNaN_uint64 : Nat := 130
abbrev tree_Above_s := aboveS
abbrev tree_Path_s := pathS
abbrev tree_Reached_s := reachS
abbrev slices_Delete_Row_s := deleteS
abbrev slices_Clone_Row_s := cloneS 4 40
abbrev slices_Insert_Row_s := insertS 4 40
abbrev slices_SortStableFunc_Row_s := sortS n_tree_Kids_1
def word_head_s (a0 : IV) : Option (List IV) :=
 (ibin .lss a0 (.int .u8 128)).bind fun v1 =>
 icond v1 (fun _ =>
 scal [(.int .i64 0), (.int .u8 128), (.int .u8 191), (.bool true)]) (fun _ =>
 (ibin .lss a0 (.int .u8 194)).bind fun v2 =>
 icond v2 (fun _ =>
 scal [(.int .i64 0), (.int .u8 128), (.int .u8 191), (.bool false)]) (fun _ =>
 (ibin .lss a0 (.int .u8 224)).bind fun v3 =>
 icond v3 (fun _ =>
 scal [(.int .i64 1), (.int .u8 128), (.int .u8 191), (.bool true)]) (fun _ =>
 (ibin .lss a0 (.int .u8 240)).bind fun v4 =>
 icond v4 (fun _ =>
 (ibin .eql a0 (.int .u8 224)).bind fun v5 =>
 icond v5 (fun _ =>
 scal [(.int .i64 2), (.int .u8 160), (.int .u8 191), (.bool true)]) (fun _ =>
 (ibin .eql a0 (.int .u8 237)).bind fun v6 =>
 icond v6 (fun _ =>
 scal [(.int .i64 2), (.int .u8 128), (.int .u8 159), (.bool true)]) (fun _ =>
 scal [(.int .i64 2), (.int .u8 128), (.int .u8 191), (.bool true)]))) (fun _ =>
 (ibin .lss a0 (.int .u8 245)).bind fun v7 =>
 icond v7 (fun _ =>
 (ibin .eql a0 (.int .u8 240)).bind fun v8 =>
 icond v8 (fun _ =>
 scal [(.int .i64 3), (.int .u8 144), (.int .u8 191), (.bool true)]) (fun _ =>
 (ibin .eql a0 (.int .u8 244)).bind fun v9 =>
 icond v9 (fun _ =>
 scal [(.int .i64 3), (.int .u8 128), (.int .u8 143), (.bool true)]) (fun _ =>
 scal [(.int .i64 3), (.int .u8 128), (.int .u8 191), (.bool true)]))) (fun _ =>
 scal [(.int .i64 0), (.int .u8 128), (.int .u8 191), (.bool false)])))))

def word_signs_l6 (v16 : IV) (v15 : IV) (v17 : List IV) : Option SR :=
 (ibin .lss (nth v17 2) v16).bind fun v18 =>
 icond v18 (fun _ =>
 (iidx v15 (nth v17 2) 1).bind fun v19 =>
 (ild v15 v19 0).bind fun v20 =>
 ((ibin .lss v20 (nth v17 0)).bind fun v21 =>
 icond v21 (fun _ =>
 some [(.bool true)]) (fun _ =>
 (ibin .gtr v20 (nth v17 1)).bind fun v22 =>
 some [v22])).bind fun v23 =>
 icond (nth v23 0) (fun _ =>
 some (.done 1 [])) (fun _ =>
 (ibin .add (nth v17 2) (.int .i64 1)).bind fun v24 =>
 some (.next [(.int .u8 128), (.int .u8 191), v24]))) (fun _ =>
 some (.done 0 []))
def word_signs_l2 (a0 : IV) (v1 : List IV) : Option SR :=
 (ilenS a0).bind fun v2 =>
 (ibin .lss (nth v1 1) v2).bind fun v3 =>
 icond v3 (fun _ =>
 (istr a0 (nth v1 1)).bind fun v4 =>
 (word_head_s v4).bind fun v5 =>
 ((iun .not (nth v5 3)).bind fun v6 =>
 icond v6 (fun _ =>
 some [(.bool true)]) (fun _ =>
 (ilenS a0).bind fun v7 =>
 (ibin .sub v7 (nth v1 1)).bind fun v8 =>
 (ibin .leq v8 (nth v5 0)).bind fun v9 =>
 some [v9])).bind fun v10 =>
 icond (nth v10 0) (fun _ =>
 some (.done 0 [(nth v1 0), (nth v1 1)])) (fun _ =>
 (ibin .add (nth v1 1) (.int .i64 1)).bind fun v11 =>
 (ibin .add (nth v1 1) (.int .i64 1)).bind fun v12 =>
 (ibin .add v12 (nth v5 0)).bind fun v13 =>
 (islcS a0 (some v11) (some v13)).bind fun v14 =>
 (icvb v14).bind fun v15 =>
 (ilenL v15).bind fun v16 =>
 (iter rounds (word_signs_l6 v16 v15) [(nth v5 1), (nth v5 2), (.int .i64 0)]).bind fun v25 =>
 sel v25.1 [(ibin .add (.int .i64 1) (nth v5 0)).bind fun v26 =>
 (ibin .add (nth v1 1) v26).bind fun v27 =>
 (ibin .add (nth v1 0) (.int .i64 1)).bind fun v28 =>
 some (.next [v28, v27]),
 some (.done 0 [(nth v1 0), (nth v1 1)])])) (fun _ =>
 some (.done 0 [(nth v1 0), (nth v1 1)]))
def word_signs_s (a0 : IV) : Option (List IV) :=
 (iter rounds (word_signs_l2 a0) [(.int .i64 0), (.int .i64 0)]).bind fun v29 =>
 sel v29.1 [scal [(nth v29.2 0), (nth v29.2 1)]]

def word_Valid_s (a0 : IV) : Option (List IV) :=
 (word_signs_s a0).bind fun v1 =>
 (ilenS a0).bind fun v2 =>
 (ibin .eql (nth v1 1) v2).bind fun v3 =>
 scal [v3]

def tree_One_s (a0 a1 a2 a3 : IV) : Option (List IV) :=
 ((ibin .geq a0 (.int .i64 1)).bind fun v1 =>
 icond v1 (fun _ =>
 (ibin .leq a0 (.int .i64 2147483647)).bind fun v2 =>
 icond v2 (fun _ =>
 (ibin .geq a1 (.int .i64 0)).bind fun v3 =>
 icond v3 (fun _ =>
 (ibin .leq a1 (.int .i64 2147483647)).bind fun v4 =>
 icond v4 (fun _ =>
 (ilenS a2).bind fun v5 =>
 (ibin .leq v5 (.int .i64 64)).bind fun v6 =>
 icond v6 (fun _ =>
 (word_Valid_s a2).bind fun v7 =>
 some [(nth v7 0)]) (fun _ =>
 some [(.bool false)])) (fun _ =>
 some [(.bool false)])) (fun _ =>
 some [(.bool false)])) (fun _ =>
 some [(.bool false)])) (fun _ =>
 some [(.bool false)])).bind fun v8 =>
 scal [(nth v8 0)]

abbrev tree_May_s (x : IV) : Option (List IV) := mayS (fun l => match l with | [[x0, x1, x2, x3]] => tree_One_s x0 x1 x2 x3 | _ => none) x
def rank_first_l2 (C : IV → List Nat → List (List IV) → Option (List IV)) (v1 : IV) (a0 : IV) (v2 : List IV) : Option SR :=
 (ibin .lss (nth v2 0) v1).bind fun v3 =>
 icond v3 (fun _ =>
 (iidx a0 (nth v2 0) 1).bind fun v4 =>
 (ild a0 v4 0).bind fun v5 =>
 (C v5 [1] []).bind fun v6 =>
 (ibin .neq (nth v6 0) (.int .i64 0)).bind fun v7 =>
 icond v7 (fun _ =>
 some (.done 1 [(nth v6 0)])) (fun _ =>
 (ibin .add (nth v2 0) (.int .i64 1)).bind fun v8 =>
 some (.next [v8]))) (fun _ =>
 some (.done 0 []))
def rank_first_s (C : IV → List Nat → List (List IV) → Option (List IV)) (a0 : IV) : Option (List IV) :=
 (ilenL a0).bind fun v1 =>
 (iter rounds (rank_first_l2 C v1 a0) [(.int .i64 0)]).bind fun v9 =>
 sel v9.1 [scal [(.int .i64 0)],
 scal [(nth v9.2 0)]]

def bits_Minus_s (a0 : IV) : Option (List IV) :=
 ((ibin .lss a0 (.flt .f64 0)).bind fun v1 =>
 icond v1 (fun _ =>
 some [(.bool true)]) (fun _ =>
 (ibin .eql a0 (.flt .f64 0)).bind fun v2 =>
 icond v2 (fun _ =>
 (ibin .quo (.flt .f64 4607182418800017408) a0).bind fun v3 =>
 (ibin .lss v3 (.flt .f64 0)).bind fun v4 =>
 some [v4]) (fun _ =>
 some [(.bool false)]))).bind fun v5 =>
 scal [(nth v5 0)]

def bits_powers_s : Option (List IV) :=
 scal [(.int .i64 512), (.flt .f64 6913025428013711360), (.flt .f64 2301339409586323456), (.int .i64 256), (.flt .f64 5760103923406864384), (.flt .f64 3454260914193170432), (.int .i64 128), (.flt .f64 5183643171103440896), (.flt .f64 4030721666496593920), (.int .i64 64), (.flt .f64 4895412794951729152), (.flt .f64 4318952042648305664), (.int .i64 32), (.flt .f64 4751297606875873280), (.flt .f64 4463067230724161536), (.int .i64 16), (.flt .f64 4679240012837945344), (.flt .f64 4535124824762089472), (.int .i64 8), (.flt .f64 4643211215818981376), (.flt .f64 4571153621781053440), (.int .i64 4), (.flt .f64 4625196817309499392), (.flt .f64 4589168020290535424), (.int .i64 2), (.flt .f64 4616189618054758400), (.flt .f64 4598175219545276416), (.int .i64 1), (.flt .f64 4611686018427387904), (.flt .f64 4602678819172646912)]

def bits_split_l3 (v1 : List IV) (v2 : List IV) : Option SR :=
 (ibin .lss (nth v2 2) (.int .i64 10)).bind fun v3 =>
 icond v3 (fun _ =>
 (ibidx 10 (nth v2 2)).bind fun v4 =>
 (ibin .geq (nth v2 0) (nth [(nth v1 0), (nth v1 1), (nth v1 2), (nth v1 3), (nth v1 4), (nth v1 5), (nth v1 6), (nth v1 7), (nth v1 8), (nth v1 9), (nth v1 10), (nth v1 11), (nth v1 12), (nth v1 13), (nth v1 14), (nth v1 15), (nth v1 16), (nth v1 17), (nth v1 18), (nth v1 19), (nth v1 20), (nth v1 21), (nth v1 22), (nth v1 23), (nth v1 24), (nth v1 25), (nth v1 26), (nth v1 27), (nth v1 28), (nth v1 29)] (v4 * 3 + 1))).bind fun v5 =>
 icond v5 (fun _ =>
 (ibin .mul (nth v2 0) (nth [(nth v1 0), (nth v1 1), (nth v1 2), (nth v1 3), (nth v1 4), (nth v1 5), (nth v1 6), (nth v1 7), (nth v1 8), (nth v1 9), (nth v1 10), (nth v1 11), (nth v1 12), (nth v1 13), (nth v1 14), (nth v1 15), (nth v1 16), (nth v1 17), (nth v1 18), (nth v1 19), (nth v1 20), (nth v1 21), (nth v1 22), (nth v1 23), (nth v1 24), (nth v1 25), (nth v1 26), (nth v1 27), (nth v1 28), (nth v1 29)] (v4 * 3 + 2))).bind fun v6 =>
 (ibin .add (nth v2 1) (nth [(nth v1 0), (nth v1 1), (nth v1 2), (nth v1 3), (nth v1 4), (nth v1 5), (nth v1 6), (nth v1 7), (nth v1 8), (nth v1 9), (nth v1 10), (nth v1 11), (nth v1 12), (nth v1 13), (nth v1 14), (nth v1 15), (nth v1 16), (nth v1 17), (nth v1 18), (nth v1 19), (nth v1 20), (nth v1 21), (nth v1 22), (nth v1 23), (nth v1 24), (nth v1 25), (nth v1 26), (nth v1 27), (nth v1 28), (nth v1 29)] (v4 * 3 + 0))).bind fun v7 =>
 (ibin .lss v6 (nth [(nth v1 0), (nth v1 1), (nth v1 2), (nth v1 3), (nth v1 4), (nth v1 5), (nth v1 6), (nth v1 7), (nth v1 8), (nth v1 9), (nth v1 10), (nth v1 11), (nth v1 12), (nth v1 13), (nth v1 14), (nth v1 15), (nth v1 16), (nth v1 17), (nth v1 18), (nth v1 19), (nth v1 20), (nth v1 21), (nth v1 22), (nth v1 23), (nth v1 24), (nth v1 25), (nth v1 26), (nth v1 27), (nth v1 28), (nth v1 29)] (v4 * 3 + 2))).bind fun v8 =>
 icond v8 (fun _ =>
 (ibin .mul v6 (nth [(nth v1 0), (nth v1 1), (nth v1 2), (nth v1 3), (nth v1 4), (nth v1 5), (nth v1 6), (nth v1 7), (nth v1 8), (nth v1 9), (nth v1 10), (nth v1 11), (nth v1 12), (nth v1 13), (nth v1 14), (nth v1 15), (nth v1 16), (nth v1 17), (nth v1 18), (nth v1 19), (nth v1 20), (nth v1 21), (nth v1 22), (nth v1 23), (nth v1 24), (nth v1 25), (nth v1 26), (nth v1 27), (nth v1 28), (nth v1 29)] (v4 * 3 + 1))).bind fun v9 =>
 (ibin .sub v7 (nth [(nth v1 0), (nth v1 1), (nth v1 2), (nth v1 3), (nth v1 4), (nth v1 5), (nth v1 6), (nth v1 7), (nth v1 8), (nth v1 9), (nth v1 10), (nth v1 11), (nth v1 12), (nth v1 13), (nth v1 14), (nth v1 15), (nth v1 16), (nth v1 17), (nth v1 18), (nth v1 19), (nth v1 20), (nth v1 21), (nth v1 22), (nth v1 23), (nth v1 24), (nth v1 25), (nth v1 26), (nth v1 27), (nth v1 28), (nth v1 29)] (v4 * 3 + 0))).bind fun v10 =>
 (ibin .add (nth v2 2) (.int .i64 1)).bind fun v11 =>
 some (.next [v9, v10, v11])) (fun _ =>
 (ibin .add (nth v2 2) (.int .i64 1)).bind fun v12 =>
 some (.next [v6, v7, v12]))) (fun _ =>
 (ibin .lss (nth v2 0) (nth [(nth v1 0), (nth v1 1), (nth v1 2), (nth v1 3), (nth v1 4), (nth v1 5), (nth v1 6), (nth v1 7), (nth v1 8), (nth v1 9), (nth v1 10), (nth v1 11), (nth v1 12), (nth v1 13), (nth v1 14), (nth v1 15), (nth v1 16), (nth v1 17), (nth v1 18), (nth v1 19), (nth v1 20), (nth v1 21), (nth v1 22), (nth v1 23), (nth v1 24), (nth v1 25), (nth v1 26), (nth v1 27), (nth v1 28), (nth v1 29)] (v4 * 3 + 2))).bind fun v13 =>
 icond v13 (fun _ =>
 (ibin .mul (nth v2 0) (nth [(nth v1 0), (nth v1 1), (nth v1 2), (nth v1 3), (nth v1 4), (nth v1 5), (nth v1 6), (nth v1 7), (nth v1 8), (nth v1 9), (nth v1 10), (nth v1 11), (nth v1 12), (nth v1 13), (nth v1 14), (nth v1 15), (nth v1 16), (nth v1 17), (nth v1 18), (nth v1 19), (nth v1 20), (nth v1 21), (nth v1 22), (nth v1 23), (nth v1 24), (nth v1 25), (nth v1 26), (nth v1 27), (nth v1 28), (nth v1 29)] (v4 * 3 + 1))).bind fun v14 =>
 (ibin .sub (nth v2 1) (nth [(nth v1 0), (nth v1 1), (nth v1 2), (nth v1 3), (nth v1 4), (nth v1 5), (nth v1 6), (nth v1 7), (nth v1 8), (nth v1 9), (nth v1 10), (nth v1 11), (nth v1 12), (nth v1 13), (nth v1 14), (nth v1 15), (nth v1 16), (nth v1 17), (nth v1 18), (nth v1 19), (nth v1 20), (nth v1 21), (nth v1 22), (nth v1 23), (nth v1 24), (nth v1 25), (nth v1 26), (nth v1 27), (nth v1 28), (nth v1 29)] (v4 * 3 + 0))).bind fun v15 =>
 (ibin .add (nth v2 2) (.int .i64 1)).bind fun v16 =>
 some (.next [v14, v15, v16])) (fun _ =>
 (ibin .add (nth v2 2) (.int .i64 1)).bind fun v17 =>
 some (.next [(nth v2 0), (nth v2 1), v17])))) (fun _ =>
 some (.done 0 [(nth v2 0), (nth v2 1)]))
def bits_split_l12 (v19 : List IV) : Option SR :=
 (ibin .geq (nth v19 0) (.flt .f64 4611686018427387904)).bind fun v20 =>
 icond v20 (fun _ =>
 (ibin .mul (nth v19 0) (.flt .f64 4602678819172646912)).bind fun v21 =>
 (ibin .add (nth v19 1) (.int .i64 1)).bind fun v22 =>
 some (.next [v21, v22])) (fun _ =>
 some (.done 0 [(nth v19 0), (nth v19 1)]))
def bits_split_l15 (v24 : List IV) : Option SR :=
 (ibin .lss (nth v24 0) (.flt .f64 4607182418800017408)).bind fun v25 =>
 icond v25 (fun _ =>
 (ibin .mul (nth v24 0) (.flt .f64 4611686018427387904)).bind fun v26 =>
 (ibin .sub (nth v24 1) (.int .i64 1)).bind fun v27 =>
 some (.next [v26, v27])) (fun _ =>
 some (.done 0 [(nth v24 0), (nth v24 1)]))
def bits_split_s (a0 : IV) : Option (List IV) :=
 (bits_powers_s).bind fun v1 =>
 (iter rounds (bits_split_l3 v1) [a0, (.int .i64 0), (.int .i64 0)]).bind fun v18 =>
 sel v18.1 [(iter rounds (bits_split_l12) [(nth v18.2 0), (nth v18.2 1)]).bind fun v23 =>
 sel v23.1 [(iter rounds (bits_split_l15) [(nth v23.2 0), (nth v23.2 1)]).bind fun v28 =>
 sel v28.1 [scal [(nth v28.2 0), (nth v28.2 1)]]]]

def bits_Bits_s (a0 : IV) : Option (List IV) :=
 (bits_Minus_s a0).bind fun v1 =>
 icond (nth v1 0) (fun _ =>
 (iun .neg a0).bind fun v2 =>
 (ibin .neq v2 v2).bind fun v3 =>
 icond v3 (fun _ =>
 scal [(.int .u64 9221120237041090560)]) (fun _ =>
 (ibin .eql v2 (.flt .f64 0)).bind fun v4 =>
 icond v4 (fun _ =>
 scal [(.int .u64 9223372036854775808)]) (fun _ =>
 (ibin .mul v2 (.flt .f64 4611686018427387904)).bind fun v5 =>
 (ibin .eql v2 v5).bind fun v6 =>
 icond v6 (fun _ =>
 (ibin .or (.int .u64 9223372036854775808) (.int .u64 9218868437227405312)).bind fun v7 =>
 scal [v7]) (fun _ =>
 (bits_split_s v2).bind fun v8 =>
 (ibin .mul (nth v8 0) (.flt .f64 4841369599423283200)).bind fun v9 =>
 (icfi .u64 v9).bind fun v10 =>
 (ibin .add (nth v8 1) (.int .i64 1023)).bind fun v11 =>
 (ibin .gtr v11 (.int .i64 0)).bind fun v12 =>
 icond v12 (fun _ =>
 (icii .u64 v11).bind fun v13 =>
 (ibin .shl v13 (.int .u64 52)).bind fun v14 =>
 (ibin .or (.int .u64 9223372036854775808) v14).bind fun v15 =>
 (ibin .and v10 (.int .u64 4503599627370495)).bind fun v16 =>
 (ibin .or v15 v16).bind fun v17 =>
 scal [v17]) (fun _ =>
 (ibin .sub (.int .i64 1) (nth v8 1)).bind fun v18 =>
 (ibin .sub v18 (.int .i64 1023)).bind fun v19 =>
 (ibin .shr v10 v19).bind fun v20 =>
 (ibin .or (.int .u64 9223372036854775808) v20).bind fun v21 =>
 scal [v21]))))) (fun _ =>
 (ibin .neq a0 a0).bind fun v22 =>
 icond v22 (fun _ =>
 scal [(.int .u64 9221120237041090560)]) (fun _ =>
 (ibin .eql a0 (.flt .f64 0)).bind fun v23 =>
 icond v23 (fun _ =>
 scal [(.int .u64 0)]) (fun _ =>
 (ibin .mul a0 (.flt .f64 4611686018427387904)).bind fun v24 =>
 (ibin .eql a0 v24).bind fun v25 =>
 icond v25 (fun _ =>
 (ibin .or (.int .u64 0) (.int .u64 9218868437227405312)).bind fun v26 =>
 scal [v26]) (fun _ =>
 (bits_split_s a0).bind fun v27 =>
 (ibin .mul (nth v27 0) (.flt .f64 4841369599423283200)).bind fun v28 =>
 (icfi .u64 v28).bind fun v29 =>
 (ibin .add (nth v27 1) (.int .i64 1023)).bind fun v30 =>
 (ibin .gtr v30 (.int .i64 0)).bind fun v31 =>
 icond v31 (fun _ =>
 (icii .u64 v30).bind fun v32 =>
 (ibin .shl v32 (.int .u64 52)).bind fun v33 =>
 (ibin .or (.int .u64 0) v33).bind fun v34 =>
 (ibin .and v29 (.int .u64 4503599627370495)).bind fun v35 =>
 (ibin .or v34 v35).bind fun v36 =>
 scal [v36]) (fun _ =>
 (ibin .sub (.int .i64 1) (nth v27 1)).bind fun v37 =>
 (ibin .sub v37 (.int .i64 1023)).bind fun v38 =>
 (ibin .shr v29 v38).bind fun v39 =>
 (ibin .or (.int .u64 0) v39).bind fun v40 =>
 scal [v40])))))

def rank_Key_s (a0 : IV) : Option (List IV) :=
 (bits_Bits_s a0).bind fun v1 =>
 (ibin .and (nth v1 0) (.int .u64 9223372036854775808)).bind fun v2 =>
 (ibin .neq v2 (.int .u64 0)).bind fun v3 =>
 icond v3 (fun _ =>
 (iun .xor (nth v1 0)).bind fun v4 =>
 scal [v4]) (fun _ =>
 (ibin .or (nth v1 0) (.int .u64 9223372036854775808)).bind fun v5 =>
 scal [v5])

def cmp_isNaN_uint64_s (a0 : IV) : Option (List IV) :=
 (ibin .neq a0 a0).bind fun v1 =>
 scal [v1]

def cmp_Compare_uint64_s (a0 a1 : IV) : Option (List IV) :=
 (cmp_isNaN_uint64_s a0).bind fun v1 =>
 (cmp_isNaN_uint64_s a1).bind fun v2 =>
 icond (nth v1 0) (fun _ =>
 icond (nth v2 0) (fun _ =>
 scal [(.int .i64 0)]) (fun _ =>
 scal [(.int .i64 (-1))])) (fun _ =>
 icond (nth v2 0) (fun _ =>
 scal [(.int .i64 1)]) (fun _ =>
 (ibin .lss a0 a1).bind fun v3 =>
 icond v3 (fun _ =>
 scal [(.int .i64 (-1))]) (fun _ =>
 (ibin .gtr a0 a1).bind fun v4 =>
 icond v4 (fun _ =>
 scal [(.int .i64 1)]) (fun _ =>
 scal [(.int .i64 0)]))))

def rank_Compare_s (a0 a1 : IV) : Option (List IV) :=
 (rank_Key_s a0).bind fun v1 =>
 (rank_Key_s a1).bind fun v2 =>
 (cmp_Compare_uint64_s (nth v1 0) (nth v2 0)).bind fun v3 =>
 scal [(nth v3 0)]

def rank_Less_1_s (a0 a1 : IV) : Option (List IV) :=
 (ipnn a0).bind fun v1 =>
 (ipld v1 3).bind fun v2 =>
 (ipnn a1).bind fun v3 =>
 (ipld v3 3).bind fun v4 =>
 (rank_Compare_s v2 v4).bind fun v5 =>
 scal [(nth v5 0)]

def cmp_isNaN_int_s (a0 : IV) : Option (List IV) :=
 (ibin .neq a0 a0).bind fun v1 =>
 scal [v1]

def cmp_Compare_int_s (a0 a1 : IV) : Option (List IV) :=
 (cmp_isNaN_int_s a0).bind fun v1 =>
 (cmp_isNaN_int_s a1).bind fun v2 =>
 icond (nth v1 0) (fun _ =>
 icond (nth v2 0) (fun _ =>
 scal [(.int .i64 0)]) (fun _ =>
 scal [(.int .i64 (-1))])) (fun _ =>
 icond (nth v2 0) (fun _ =>
 scal [(.int .i64 1)]) (fun _ =>
 (ibin .lss a0 a1).bind fun v3 =>
 icond v3 (fun _ =>
 scal [(.int .i64 (-1))]) (fun _ =>
 (ibin .gtr a0 a1).bind fun v4 =>
 icond v4 (fun _ =>
 scal [(.int .i64 1)]) (fun _ =>
 scal [(.int .i64 0)]))))

def rank_Less_2_s (a0 a1 : IV) : Option (List IV) :=
 (ipnn a0).bind fun v1 =>
 (ipld v1 0).bind fun v2 =>
 (ipnn a1).bind fun v3 =>
 (ipld v3 0).bind fun v4 =>
 (cmp_Compare_int_s v2 v4).bind fun v5 =>
 scal [(nth v5 0)]

def Cx_rank_Less : IV → List Nat → List (List IV) → Option (List IV) :=
  tbl n_rank_Less_1 [1] (fun caps l => match caps, l with | [a0, a1], [] => rank_Less_1_s a0 a1 | _, _ => none) <|
  tbl n_rank_Less_2 [1] (fun caps l => match caps, l with | [a0, a1], [] => rank_Less_2_s a0 a1 | _, _ => none) <|
  fun _ _ _ => none
def rank_Less_s (a0 a1 a2 a3 a4 a5 a6 a7 : IV) : Option (List IV) :=
 (rank_first_s (Cx_rank_Less) (.lst [[(.clo (.func n_rank_Less_1) [(.ptr [a0, a1, a2, a3] 0), (.ptr [a4, a5, a6, a7] 0)])], [(.clo (.func n_rank_Less_2) [(.ptr [a0, a1, a2, a3] 0), (.ptr [a4, a5, a6, a7] 0)])]])).bind fun v1 =>
 (ibin .lss (nth v1 0) (.int .i64 0)).bind fun v2 =>
 scal [v2]

def tree_Kids_1_s (a0 a1 a2 a3 a4 a5 a6 a7 : IV) : Option (List IV) :=
 (rank_Less_s a0 a1 a2 a3 a4 a5 a6 a7).bind fun v1 =>
 icond (nth v1 0) (fun _ =>
 scal [(.int .i64 (-1))]) (fun _ =>
 (rank_Less_s a4 a5 a6 a7 a0 a1 a2 a3).bind fun v2 =>
 icond (nth v2 0) (fun _ =>
 scal [(.int .i64 1)]) (fun _ =>
 scal [(.int .i64 0)]))

def slices_Index_int_l2 (v1 : IV) (a0 : IV) (a1 : IV) (v2 : List IV) : Option SR :=
 (ibin .lss (nth v2 0) v1).bind fun v3 =>
 icond v3 (fun _ =>
 (iidx a0 (nth v2 0) 1).bind fun v4 =>
 (ild a0 v4 0).bind fun v5 =>
 (ibin .eql a1 v5).bind fun v6 =>
 icond v6 (fun _ =>
 some (.done 1 [(nth v2 0)])) (fun _ =>
 (ibin .add (nth v2 0) (.int .i64 1)).bind fun v7 =>
 some (.next [v7]))) (fun _ =>
 some (.done 0 []))
def slices_Index_int_s (a0 a1 : IV) : Option (List IV) :=
 (ilenL a0).bind fun v1 =>
 (iter rounds (slices_Index_int_l2 v1 a0 a1) [(.int .i64 0)]).bind fun v8 =>
 sel v8.1 [scal [(.int .i64 (-1))],
 scal [(nth v8.2 0)]]

def slices_Contains_int_s (a0 a1 : IV) : Option (List IV) :=
 (slices_Index_int_s a0 a1).bind fun v1 =>
 (ibin .geq (nth v1 0) (.int .i64 0)).bind fun v2 =>
 scal [v2]

def ref12_Few_l4 (a0 : IV) (v3 : List IV) : Option SR :=
 (ilenL a0).bind fun v4 =>
 (ibin .lss (nth v3 0) v4).bind fun v5 =>
 icond v5 (fun _ =>
 (iidx a0 (nth v3 0) 4).bind fun v6 =>
 (ild a0 v6 2).bind fun v7 =>
 (ilenS v7).bind fun v8 =>
 (ibin .gtr v8 (.int .i64 100)).bind fun v9 =>
 icond v9 (fun _ =>
 some (.done 1 [(.bool false)])) (fun _ =>
 (ibin .add (nth v3 0) (.int .i64 1)).bind fun v10 =>
 some (.next [v10]))) (fun _ =>
 some (.done 0 []))
def ref12_Few_s (a0 : IV) : Option (List IV) :=
 (ilenL a0).bind fun v1 =>
 (ibin .gtr v1 (.int .i64 60)).bind fun v2 =>
 icond v2 (fun _ =>
 scal [(.bool false)]) (fun _ =>
 (iter rounds (ref12_Few_l4 a0) [(.int .i64 0)]).bind fun v11 =>
 sel v11.1 [scal [(.bool true)],
 scal [(nth v11.2 0)]])

def slices_IndexFunc_Row_l2 (C : IV → List Nat → List (List IV) → Option (List IV)) (v1 : IV) (a0 : IV) (a1 : IV) (v2 : List IV) : Option SR :=
 (ibin .lss (nth v2 0) v1).bind fun v3 =>
 icond v3 (fun _ =>
 (iidx a0 (nth v2 0) 4).bind fun v4 =>
 (ildN a0 v4 0 4).bind fun v5 =>
 (C a1 [1] [[(nth v5 0), (nth v5 1), (nth v5 2), (nth v5 3)]]).bind fun v6 =>
 icond (nth v6 0) (fun _ =>
 some (.done 1 [(nth v2 0)])) (fun _ =>
 (ibin .add (nth v2 0) (.int .i64 1)).bind fun v7 =>
 some (.next [v7]))) (fun _ =>
 some (.done 0 []))
def slices_IndexFunc_Row_s (C : IV → List Nat → List (List IV) → Option (List IV)) (a0 a1 : IV) : Option (List IV) :=
 (ilenL a0).bind fun v1 =>
 (iter rounds (slices_IndexFunc_Row_l2 C v1 a0 a1) [(.int .i64 0)]).bind fun v8 =>
 sel v8.1 [scal [(.int .i64 (-1))],
 scal [(nth v8.2 0)]]

def tree_place_1_s (a0 a1 a2 a3 a4 : IV) : Option (List IV) :=
 (ipld a4 0).bind fun v1 =>
 (ibin .eql a0 v1).bind fun v2 =>
 scal [v2]

def Cx_tree_place : IV → List Nat → List (List IV) → Option (List IV) :=
  tbl n_tree_place_1 [1] (fun caps l => match caps, l with | [a4], [[a0, a1, a2, a3]] => tree_place_1_s a0 a1 a2 a3 a4 | _, _ => none) <|
  fun _ _ _ => none
def tree_place_s (a0 a1 : IV) : Option (List IV) :=
 (slices_IndexFunc_Row_s (Cx_tree_place) a0 (.clo (.func n_tree_place_1) [(.ptr [a1] 0)])).bind fun v1 =>
 (ibin .geq (nth v1 0) (.int .i64 0)).bind fun v2 =>
 scal [(nth v1 0), v2]

def tree_Set_1_s (a0 a1 a2 a3 a4 : IV) : Option (List IV) :=
 (ipnn a4).bind fun v1 =>
 (ipld v1 0).bind fun v2 =>
 (ibin .gtr a0 v2).bind fun v3 =>
 scal [v3]

def Cx_tree_Set : IV → List Nat → List (List IV) → Option (List IV) :=
  tbl n_tree_Set_1 [1] (fun caps l => match caps, l with | [a4], [[a0, a1, a2, a3]] => tree_Set_1_s a0 a1 a2 a3 a4 | _, _ => none) <|
  fun _ _ _ => none
def tree_Set_s (a0 a1 a2 a3 a4 : IV) : Option (List IV) :=
 (slices_Clone_Row_s a0).bind fun v1 =>
 (tree_place_s a0 a1).bind fun v2 =>
 icond (nth v2 1) (fun _ =>
 (ibidx (llen (nth v1 0)) (nth v2 0)).bind fun v3 =>
 (iset (nth v1 0) v3 0 [a1, a2, a3, a4]).bind fun v4 =>
 some [v4]) (fun _ =>
 (slices_IndexFunc_Row_s (Cx_tree_Set) a0 (.clo (.func n_tree_Set_1) [(.ptr [a1, a2, a3, a4] 0)])).bind fun v5 =>
 (ibin .lss (nth v5 0) (.int .i64 0)).bind fun v6 =>
 icond v6 (fun _ =>
 (ilenL a0).bind fun v7 =>
 (slices_Insert_Row_s (nth v1 0) v7 (.lst [[a1, a2, a3, a4]])).bind fun v8 =>
 some [(nth v8 0)]) (fun _ =>
 (slices_Insert_Row_s (nth v1 0) (nth v5 0) (.lst [[a1, a2, a3, a4]])).bind fun v9 =>
 some [(nth v9 0)]))

def ref05_Same_l4 (a0 : IV) (a1 : IV) (v4 : List IV) : Option SR :=
 (ilenL a0).bind fun v5 =>
 (ibin .lss (nth v4 0) v5).bind fun v6 =>
 icond v6 (fun _ =>
 (iidx a0 (nth v4 0) 1).bind fun v7 =>
 (ild a0 v7 0).bind fun v8 =>
 (iidx a1 (nth v4 0) 1).bind fun v9 =>
 (ild a1 v9 0).bind fun v10 =>
 (ibin .neq v8 v10).bind fun v11 =>
 icond v11 (fun _ =>
 some (.done 1 [(.bool false)])) (fun _ =>
 (ibin .add (nth v4 0) (.int .i64 1)).bind fun v12 =>
 some (.next [v12]))) (fun _ =>
 some (.done 0 []))
def ref05_Same_s (a0 a1 : IV) : Option (List IV) :=
 (ilenL a0).bind fun v1 =>
 (ilenL a1).bind fun v2 =>
 (ibin .neq v1 v2).bind fun v3 =>
 icond v3 (fun _ =>
 scal [(.bool false)]) (fun _ =>
 (iter rounds (ref05_Same_l4 a0 a1) [(.int .i64 0)]).bind fun v13 =>
 sel v13.1 [scal [(.bool true)],
 scal [(nth v13.2 0)]])

def ref12_place_l2 (a0 : IV) (a1 : IV) (v1 : List IV) : Option SR :=
 (ilenL a0).bind fun v2 =>
 (ibin .lss (nth v1 0) v2).bind fun v3 =>
 icond v3 (fun _ =>
 (iidx a0 (nth v1 0) 4).bind fun v4 =>
 (ild a0 v4 0).bind fun v5 =>
 (ibin .eql v5 a1).bind fun v6 =>
 icond v6 (fun _ =>
 some (.done 1 [(nth v1 0)])) (fun _ =>
 (ibin .add (nth v1 0) (.int .i64 1)).bind fun v7 =>
 some (.next [v7]))) (fun _ =>
 some (.done 0 []))
def ref12_place_s (a0 a1 : IV) : Option (List IV) :=
 (iter rounds (ref12_place_l2 a0 a1) [(.int .i64 0)]).bind fun v8 =>
 sel v8.1 [scal [(.int .i64 (-1))],
 scal [(nth v8.2 0)]]

def ref12_Find_s (a0 a1 : IV) : Option (List IV) :=
 (ref12_place_s a0 a1).bind fun v1 =>
 (ibin .lss (nth v1 0) (.int .i64 0)).bind fun v2 =>
 icond v2 (fun _ =>
 scal [(.int .i64 0), (.int .i64 0), (.str ⟨#[]⟩), (.flt .f64 0), (.bool false)]) (fun _ =>
 (iidx a0 (nth v1 0) 4).bind fun v3 =>
 (ildN a0 v3 0 4).bind fun v4 =>
 scal [(nth v4 0), (nth v4 1), (nth v4 2), (nth v4 3), (.bool true)])

def ref12_Above_l2 (a0 : IV) (a1 : IV) (v1 : List IV) : Option SR :=
 (ilenL a0).bind fun v2 =>
 (ibin .lss (nth v1 1) v2).bind fun v3 =>
 icond v3 (fun _ =>
 (ref12_Find_s a0 (nth v1 0)).bind fun v4 =>
 (iun .not (nth v4 4)).bind fun v5 =>
 icond v5 (fun _ =>
 some (.done 1 [(.bool false)])) (fun _ =>
 (ibin .eql (nth v4 1) a1).bind fun v6 =>
 icond v6 (fun _ =>
 some (.done 1 [(.bool true)])) (fun _ =>
 (ibin .add (nth v1 1) (.int .i64 1)).bind fun v7 =>
 some (.next [(nth v4 1), v7])))) (fun _ =>
 some (.done 0 []))
def ref12_Above_s (a0 a1 a2 : IV) : Option (List IV) :=
 (iter rounds (ref12_Above_l2 a0 a1) [a2, (.int .i64 0)]).bind fun v8 =>
 sel v8.1 [scal [(.bool false)],
 scal [(nth v8.2 0)]]

def ref12_Set_l7 (a0 : IV) (a1 : IV) (v6 : List IV) : Option SR :=
 ((ilenL a0).bind fun v7 =>
 (ibin .lss (nth v6 0) v7).bind fun v8 =>
 icond v8 (fun _ =>
 (iidx a0 (nth v6 0) 4).bind fun v9 =>
 (ild a0 v9 0).bind fun v10 =>
 (ibin .lss v10 a1).bind fun v11 =>
 some [v11]) (fun _ =>
 some [(.bool false)])).bind fun v12 =>
 icond (nth v12 0) (fun _ =>
 (ibin .add (nth v6 0) (.int .i64 1)).bind fun v13 =>
 some (.next [v13])) (fun _ =>
 some (.done 0 [(nth v6 0)]))
def ref12_Set_s (a0 a1 a2 a3 a4 : IV) : Option (List IV) :=
 (ref12_place_s a0 a1).bind fun v1 =>
 (ibin .geq (nth v1 0) (.int .i64 0)).bind fun v2 =>
 icond v2 (fun _ =>
 (iapp 4 40 (.lst []) a0).bind fun v3 =>
 (ibidx (llen v3) (nth v1 0)).bind fun v4 =>
 (iset v3 v4 0 [a1, a2, a3, a4]).bind fun v5 =>
 some [v5]) (fun _ =>
 (iter rounds (ref12_Set_l7 a0 a1) [(.int .i64 0)]).bind fun v14 =>
 sel v14.1 [(islcL 4 a0 none (some (nth v14.2 0))).bind fun v15 =>
 (iapp 4 40 (.lst []) v15).bind fun v16 =>
 (iapp 4 40 v16 (.lst [[a1, a2, a3, a4]])).bind fun v17 =>
 (islcL 4 a0 (some (nth v14.2 0)) none).bind fun v18 =>
 (iapp 4 40 v17 v18).bind fun v19 =>
 some [v19]])

def ref01_None_s : Option (List IV) :=
 scal [(.int .u64 9221120237041090560)]

def ref01_Minus_s (a0 : IV) : Option (List IV) :=
 ((ibin .lss a0 (.flt .f64 0)).bind fun v1 =>
 icond v1 (fun _ =>
 some [(.bool true)]) (fun _ =>
 (ibin .eql a0 (.flt .f64 0)).bind fun v2 =>
 icond v2 (fun _ =>
 (ibin .quo (.flt .f64 4607182418800017408) a0).bind fun v3 =>
 (ibin .lss v3 (.flt .f64 0)).bind fun v4 =>
 some [v4]) (fun _ =>
 some [(.bool false)]))).bind fun v5 =>
 scal [(nth v5 0)]

def ref01_top_s : Option (List IV) :=
 scal [(.int .u64 9223372036854775808)]

def ref01_Bits_l12 (v10 : List IV) : Option SR :=
 (ibin .geq (nth v10 0) (.flt .f64 4611686018427387904)).bind fun v11 =>
 icond v11 (fun _ =>
 (ibin .mul (nth v10 0) (.flt .f64 4602678819172646912)).bind fun v12 =>
 (ibin .add (nth v10 1) (.int .u64 1)).bind fun v13 =>
 some (.next [v12, v13])) (fun _ =>
 some (.done 0 [(nth v10 0), (nth v10 1)]))
def ref01_Bits_l15 (v15 : List IV) : Option SR :=
 ((ibin .lss (nth v15 0) (.flt .f64 4607182418800017408)).bind fun v16 =>
 icond v16 (fun _ =>
 (ibin .gtr (nth v15 1) (.int .u64 1)).bind fun v17 =>
 some [v17]) (fun _ =>
 some [(.bool false)])).bind fun v18 =>
 icond (nth v18 0) (fun _ =>
 (ibin .mul (nth v15 0) (.flt .f64 4611686018427387904)).bind fun v19 =>
 (ibin .sub (nth v15 1) (.int .u64 1)).bind fun v20 =>
 some (.next [v19, v20])) (fun _ =>
 some (.done 0 [(nth v15 0), (nth v15 1)]))
def ref01_Bits_l22 (v23 : List IV) : Option SR :=
 (ibin .lss (nth v23 1) (.int .i64 52)).bind fun v24 =>
 icond v24 (fun _ =>
 (ibin .mul (nth v23 0) (.flt .f64 4611686018427387904)).bind fun v25 =>
 (ibin .add (nth v23 1) (.int .i64 1)).bind fun v26 =>
 some (.next [v25, v26])) (fun _ =>
 some (.done 0 [(nth v23 0)]))
def ref01_Bits_l22_2 (v33 : List IV) : Option SR :=
 (ibin .lss (nth v33 1) (.int .i64 52)).bind fun v34 =>
 icond v34 (fun _ =>
 (ibin .mul (nth v33 0) (.flt .f64 4611686018427387904)).bind fun v35 =>
 (ibin .add (nth v33 1) (.int .i64 1)).bind fun v36 =>
 some (.next [v35, v36])) (fun _ =>
 some (.done 0 [(nth v33 0)]))
def ref01_Bits_l12_2 (v46 : List IV) : Option SR :=
 (ibin .geq (nth v46 0) (.flt .f64 4611686018427387904)).bind fun v47 =>
 icond v47 (fun _ =>
 (ibin .mul (nth v46 0) (.flt .f64 4602678819172646912)).bind fun v48 =>
 (ibin .add (nth v46 1) (.int .u64 1)).bind fun v49 =>
 some (.next [v48, v49])) (fun _ =>
 some (.done 0 [(nth v46 0), (nth v46 1)]))
def ref01_Bits_l15_2 (v51 : List IV) : Option SR :=
 ((ibin .lss (nth v51 0) (.flt .f64 4607182418800017408)).bind fun v52 =>
 icond v52 (fun _ =>
 (ibin .gtr (nth v51 1) (.int .u64 1)).bind fun v53 =>
 some [v53]) (fun _ =>
 some [(.bool false)])).bind fun v54 =>
 icond (nth v54 0) (fun _ =>
 (ibin .mul (nth v51 0) (.flt .f64 4611686018427387904)).bind fun v55 =>
 (ibin .sub (nth v51 1) (.int .u64 1)).bind fun v56 =>
 some (.next [v55, v56])) (fun _ =>
 some (.done 0 [(nth v51 0), (nth v51 1)]))
def ref01_Bits_l22_3 (v59 : List IV) : Option SR :=
 (ibin .lss (nth v59 1) (.int .i64 52)).bind fun v60 =>
 icond v60 (fun _ =>
 (ibin .mul (nth v59 0) (.flt .f64 4611686018427387904)).bind fun v61 =>
 (ibin .add (nth v59 1) (.int .i64 1)).bind fun v62 =>
 some (.next [v61, v62])) (fun _ =>
 some (.done 0 [(nth v59 0)]))
def ref01_Bits_l22_4 (v69 : List IV) : Option SR :=
 (ibin .lss (nth v69 1) (.int .i64 52)).bind fun v70 =>
 icond v70 (fun _ =>
 (ibin .mul (nth v69 0) (.flt .f64 4611686018427387904)).bind fun v71 =>
 (ibin .add (nth v69 1) (.int .i64 1)).bind fun v72 =>
 some (.next [v71, v72])) (fun _ =>
 some (.done 0 [(nth v69 0)]))
def ref01_Bits_s (a0 : IV) : Option (List IV) :=
 (ibin .neq a0 a0).bind fun v1 =>
 icond v1 (fun _ =>
 (ref01_None_s).bind fun v2 =>
 scal [(nth v2 0)]) (fun _ =>
 (ref01_Minus_s a0).bind fun v3 =>
 icond (nth v3 0) (fun _ =>
 (ref01_top_s).bind fun v4 =>
 (iun .neg a0).bind fun v5 =>
 (ibin .eql v5 (.flt .f64 0)).bind fun v6 =>
 icond v6 (fun _ =>
 scal [(nth v4 0)]) (fun _ =>
 (ibin .mul v5 (.flt .f64 4611686018427387904)).bind fun v7 =>
 (ibin .eql v7 v5).bind fun v8 =>
 icond v8 (fun _ =>
 (ibin .add (nth v4 0) (.int .u64 9218868437227405312)).bind fun v9 =>
 scal [v9]) (fun _ =>
 (iter rounds (ref01_Bits_l12) [v5, (.int .u64 1023)]).bind fun v14 =>
 sel v14.1 [(iter rounds (ref01_Bits_l15) [(nth v14.2 0), (nth v14.2 1)]).bind fun v21 =>
 sel v21.1 [(ibin .lss (nth v21.2 0) (.flt .f64 4607182418800017408)).bind fun v22 =>
 icond v22 (fun _ =>
 (iter rounds (ref01_Bits_l22) [(nth v21.2 0), (.int .i64 0)]).bind fun v27 =>
 sel v27.1 [(ibin .shl (.int .u64 0) (.int .u64 52)).bind fun v28 =>
 (ibin .add (nth v4 0) v28).bind fun v29 =>
 (icfi .u64 (nth v27.2 0)).bind fun v30 =>
 (ibin .add v29 v30).bind fun v31 =>
 scal [v31]]) (fun _ =>
 (ibin .sub (nth v21.2 0) (.flt .f64 4607182418800017408)).bind fun v32 =>
 (iter rounds (ref01_Bits_l22_2) [v32, (.int .i64 0)]).bind fun v37 =>
 sel v37.1 [(ibin .shl (nth v21.2 1) (.int .u64 52)).bind fun v38 =>
 (ibin .add (nth v4 0) v38).bind fun v39 =>
 (icfi .u64 (nth v37.2 0)).bind fun v40 =>
 (ibin .add v39 v40).bind fun v41 =>
 scal [v41]])]]))) (fun _ =>
 (ibin .eql a0 (.flt .f64 0)).bind fun v42 =>
 icond v42 (fun _ =>
 scal [(.int .u64 0)]) (fun _ =>
 (ibin .mul a0 (.flt .f64 4611686018427387904)).bind fun v43 =>
 (ibin .eql v43 a0).bind fun v44 =>
 icond v44 (fun _ =>
 (ibin .add (.int .u64 0) (.int .u64 9218868437227405312)).bind fun v45 =>
 scal [v45]) (fun _ =>
 (iter rounds (ref01_Bits_l12_2) [a0, (.int .u64 1023)]).bind fun v50 =>
 sel v50.1 [(iter rounds (ref01_Bits_l15_2) [(nth v50.2 0), (nth v50.2 1)]).bind fun v57 =>
 sel v57.1 [(ibin .lss (nth v57.2 0) (.flt .f64 4607182418800017408)).bind fun v58 =>
 icond v58 (fun _ =>
 (iter rounds (ref01_Bits_l22_3) [(nth v57.2 0), (.int .i64 0)]).bind fun v63 =>
 sel v63.1 [(ibin .shl (.int .u64 0) (.int .u64 52)).bind fun v64 =>
 (ibin .add (.int .u64 0) v64).bind fun v65 =>
 (icfi .u64 (nth v63.2 0)).bind fun v66 =>
 (ibin .add v65 v66).bind fun v67 =>
 scal [v67]]) (fun _ =>
 (ibin .sub (nth v57.2 0) (.flt .f64 4607182418800017408)).bind fun v68 =>
 (iter rounds (ref01_Bits_l22_4) [v68, (.int .i64 0)]).bind fun v73 =>
 sel v73.1 [(ibin .shl (nth v57.2 1) (.int .u64 52)).bind fun v74 =>
 (ibin .add (.int .u64 0) v74).bind fun v75 =>
 (icfi .u64 (nth v73.2 0)).bind fun v76 =>
 (ibin .add v75 v76).bind fun v77 =>
 scal [v77]])]]))))

def ref01_Same_s (a0 a1 : IV) : Option (List IV) :=
 (ref01_Bits_s a0).bind fun v1 =>
 (ref01_Bits_s a1).bind fun v2 =>
 (ibin .eql (nth v1 0) (nth v2 0)).bind fun v3 =>
 scal [v3]

def ref12_Alike_s (a0 a1 a2 a3 a4 a5 a6 a7 : IV) : Option (List IV) :=
 ((ibin .eql a0 a4).bind fun v1 =>
 icond v1 (fun _ =>
 (ibin .eql a1 a5).bind fun v2 =>
 icond v2 (fun _ =>
 (ibin .eql a2 a6).bind fun v3 =>
 icond v3 (fun _ =>
 (ref01_Same_s a3 a7).bind fun v4 =>
 some [(nth v4 0)]) (fun _ =>
 some [(.bool false)])) (fun _ =>
 some [(.bool false)])) (fun _ =>
 some [(.bool false)])).bind fun v5 =>
 scal [(nth v5 0)]

def ref12_Same_l4 (a0 : IV) (a1 : IV) (v4 : List IV) : Option SR :=
 (ilenL a0).bind fun v5 =>
 (ibin .lss (nth v4 0) v5).bind fun v6 =>
 icond v6 (fun _ =>
 (iidx a0 (nth v4 0) 4).bind fun v7 =>
 (ildN a0 v7 0 4).bind fun v8 =>
 (iidx a1 (nth v4 0) 4).bind fun v9 =>
 (ildN a1 v9 0 4).bind fun v10 =>
 (ref12_Alike_s (nth v8 0) (nth v8 1) (nth v8 2) (nth v8 3) (nth v10 0) (nth v10 1) (nth v10 2) (nth v10 3)).bind fun v11 =>
 (iun .not (nth v11 0)).bind fun v12 =>
 icond v12 (fun _ =>
 some (.done 1 [(.bool false)])) (fun _ =>
 (ibin .add (nth v4 0) (.int .i64 1)).bind fun v13 =>
 some (.next [v13]))) (fun _ =>
 some (.done 0 []))
def ref12_Same_s (a0 a1 : IV) : Option (List IV) :=
 (ilenL a0).bind fun v1 =>
 (ilenL a1).bind fun v2 =>
 (ibin .neq v1 v2).bind fun v3 =>
 icond v3 (fun _ =>
 scal [(.bool false)]) (fun _ =>
 (iter rounds (ref12_Same_l4 a0 a1) [(.int .i64 0)]).bind fun v14 =>
 sel v14.1 [scal [(.bool true)],
 scal [(nth v14.2 0)]])

def ref04_in_s (a0 a1 a2 a3 : IV) : Option (List IV) :=
 ((ilenS a0).bind fun v1 =>
 (ibin .lss a1 v1).bind fun v2 =>
 icond v2 (fun _ =>
 (istr a0 a1).bind fun v3 =>
 (icii .i64 v3).bind fun v4 =>
 (ibin .geq v4 a2).bind fun v5 =>
 icond v5 (fun _ =>
 (istr a0 a1).bind fun v6 =>
 (icii .i64 v6).bind fun v7 =>
 (ibin .leq v7 a3).bind fun v8 =>
 some [v8]) (fun _ =>
 some [(.bool false)])) (fun _ =>
 some [(.bool false)])).bind fun v9 =>
 scal [(nth v9 0)]

def ref04_sign_s (a0 a1 : IV) : Option (List IV) :=
 (ref04_in_s a0 a1 (.int .i64 0) (.int .i64 127)).bind fun v1 =>
 icond (nth v1 0) (fun _ =>
 scal [(.int .i64 1)]) (fun _ =>
 ((ref04_in_s a0 a1 (.int .i64 194) (.int .i64 223)).bind fun v2 =>
 icond (nth v2 0) (fun _ =>
 (ibin .add a1 (.int .i64 1)).bind fun v3 =>
 (ref04_in_s a0 v3 (.int .i64 128) (.int .i64 191)).bind fun v4 =>
 some [(nth v4 0)]) (fun _ =>
 some [(.bool false)])).bind fun v5 =>
 icond (nth v5 0) (fun _ =>
 scal [(.int .i64 2)]) (fun _ =>
 ((ibin .add a1 (.int .i64 2)).bind fun v6 =>
 (ref04_in_s a0 v6 (.int .i64 128) (.int .i64 191)).bind fun v7 =>
 icond (nth v7 0) (fun _ =>
 (ref04_in_s a0 a1 (.int .i64 224) (.int .i64 224)).bind fun v8 =>
 icond (nth v8 0) (fun _ =>
 (ibin .add a1 (.int .i64 1)).bind fun v9 =>
 (ref04_in_s a0 v9 (.int .i64 160) (.int .i64 191)).bind fun v10 =>
 icond (nth v10 0) (fun _ =>
 some [(.bool true)]) (fun _ =>
 (ref04_in_s a0 a1 (.int .i64 225) (.int .i64 236)).bind fun v11 =>
 icond (nth v11 0) (fun _ =>
 (ibin .add a1 (.int .i64 1)).bind fun v12 =>
 (ref04_in_s a0 v12 (.int .i64 128) (.int .i64 191)).bind fun v13 =>
 icond (nth v13 0) (fun _ =>
 some [(.bool true)]) (fun _ =>
 (ref04_in_s a0 a1 (.int .i64 238) (.int .i64 239)).bind fun v14 =>
 icond (nth v14 0) (fun _ =>
 (ibin .add a1 (.int .i64 1)).bind fun v15 =>
 (ref04_in_s a0 v15 (.int .i64 128) (.int .i64 191)).bind fun v16 =>
 icond (nth v16 0) (fun _ =>
 some [(.bool true)]) (fun _ =>
 (ref04_in_s a0 a1 (.int .i64 237) (.int .i64 237)).bind fun v17 =>
 icond (nth v17 0) (fun _ =>
 (ibin .add a1 (.int .i64 1)).bind fun v18 =>
 (ref04_in_s a0 v18 (.int .i64 128) (.int .i64 159)).bind fun v19 =>
 some [(nth v19 0)]) (fun _ =>
 some [(.bool false)]))) (fun _ =>
 (ref04_in_s a0 a1 (.int .i64 237) (.int .i64 237)).bind fun v20 =>
 icond (nth v20 0) (fun _ =>
 (ibin .add a1 (.int .i64 1)).bind fun v21 =>
 (ref04_in_s a0 v21 (.int .i64 128) (.int .i64 159)).bind fun v22 =>
 some [(nth v22 0)]) (fun _ =>
 some [(.bool false)])))) (fun _ =>
 (ref04_in_s a0 a1 (.int .i64 238) (.int .i64 239)).bind fun v23 =>
 icond (nth v23 0) (fun _ =>
 (ibin .add a1 (.int .i64 1)).bind fun v24 =>
 (ref04_in_s a0 v24 (.int .i64 128) (.int .i64 191)).bind fun v25 =>
 icond (nth v25 0) (fun _ =>
 some [(.bool true)]) (fun _ =>
 (ref04_in_s a0 a1 (.int .i64 237) (.int .i64 237)).bind fun v26 =>
 icond (nth v26 0) (fun _ =>
 (ibin .add a1 (.int .i64 1)).bind fun v27 =>
 (ref04_in_s a0 v27 (.int .i64 128) (.int .i64 159)).bind fun v28 =>
 some [(nth v28 0)]) (fun _ =>
 some [(.bool false)]))) (fun _ =>
 (ref04_in_s a0 a1 (.int .i64 237) (.int .i64 237)).bind fun v29 =>
 icond (nth v29 0) (fun _ =>
 (ibin .add a1 (.int .i64 1)).bind fun v30 =>
 (ref04_in_s a0 v30 (.int .i64 128) (.int .i64 159)).bind fun v31 =>
 some [(nth v31 0)]) (fun _ =>
 some [(.bool false)]))))) (fun _ =>
 (ref04_in_s a0 a1 (.int .i64 225) (.int .i64 236)).bind fun v32 =>
 icond (nth v32 0) (fun _ =>
 (ibin .add a1 (.int .i64 1)).bind fun v33 =>
 (ref04_in_s a0 v33 (.int .i64 128) (.int .i64 191)).bind fun v34 =>
 icond (nth v34 0) (fun _ =>
 some [(.bool true)]) (fun _ =>
 (ref04_in_s a0 a1 (.int .i64 238) (.int .i64 239)).bind fun v35 =>
 icond (nth v35 0) (fun _ =>
 (ibin .add a1 (.int .i64 1)).bind fun v36 =>
 (ref04_in_s a0 v36 (.int .i64 128) (.int .i64 191)).bind fun v37 =>
 icond (nth v37 0) (fun _ =>
 some [(.bool true)]) (fun _ =>
 (ref04_in_s a0 a1 (.int .i64 237) (.int .i64 237)).bind fun v38 =>
 icond (nth v38 0) (fun _ =>
 (ibin .add a1 (.int .i64 1)).bind fun v39 =>
 (ref04_in_s a0 v39 (.int .i64 128) (.int .i64 159)).bind fun v40 =>
 some [(nth v40 0)]) (fun _ =>
 some [(.bool false)]))) (fun _ =>
 (ref04_in_s a0 a1 (.int .i64 237) (.int .i64 237)).bind fun v41 =>
 icond (nth v41 0) (fun _ =>
 (ibin .add a1 (.int .i64 1)).bind fun v42 =>
 (ref04_in_s a0 v42 (.int .i64 128) (.int .i64 159)).bind fun v43 =>
 some [(nth v43 0)]) (fun _ =>
 some [(.bool false)])))) (fun _ =>
 (ref04_in_s a0 a1 (.int .i64 238) (.int .i64 239)).bind fun v44 =>
 icond (nth v44 0) (fun _ =>
 (ibin .add a1 (.int .i64 1)).bind fun v45 =>
 (ref04_in_s a0 v45 (.int .i64 128) (.int .i64 191)).bind fun v46 =>
 icond (nth v46 0) (fun _ =>
 some [(.bool true)]) (fun _ =>
 (ref04_in_s a0 a1 (.int .i64 237) (.int .i64 237)).bind fun v47 =>
 icond (nth v47 0) (fun _ =>
 (ibin .add a1 (.int .i64 1)).bind fun v48 =>
 (ref04_in_s a0 v48 (.int .i64 128) (.int .i64 159)).bind fun v49 =>
 some [(nth v49 0)]) (fun _ =>
 some [(.bool false)]))) (fun _ =>
 (ref04_in_s a0 a1 (.int .i64 237) (.int .i64 237)).bind fun v50 =>
 icond (nth v50 0) (fun _ =>
 (ibin .add a1 (.int .i64 1)).bind fun v51 =>
 (ref04_in_s a0 v51 (.int .i64 128) (.int .i64 159)).bind fun v52 =>
 some [(nth v52 0)]) (fun _ =>
 some [(.bool false)]))))) (fun _ =>
 some [(.bool false)])).bind fun v53 =>
 icond (nth v53 0) (fun _ =>
 scal [(.int .i64 3)]) (fun _ =>
 ((ibin .add a1 (.int .i64 2)).bind fun v54 =>
 (ref04_in_s a0 v54 (.int .i64 128) (.int .i64 191)).bind fun v55 =>
 icond (nth v55 0) (fun _ =>
 (ibin .add a1 (.int .i64 3)).bind fun v56 =>
 (ref04_in_s a0 v56 (.int .i64 128) (.int .i64 191)).bind fun v57 =>
 icond (nth v57 0) (fun _ =>
 (ref04_in_s a0 a1 (.int .i64 240) (.int .i64 240)).bind fun v58 =>
 icond (nth v58 0) (fun _ =>
 (ibin .add a1 (.int .i64 1)).bind fun v59 =>
 (ref04_in_s a0 v59 (.int .i64 144) (.int .i64 191)).bind fun v60 =>
 icond (nth v60 0) (fun _ =>
 some [(.bool true)]) (fun _ =>
 (ref04_in_s a0 a1 (.int .i64 241) (.int .i64 243)).bind fun v61 =>
 icond (nth v61 0) (fun _ =>
 (ibin .add a1 (.int .i64 1)).bind fun v62 =>
 (ref04_in_s a0 v62 (.int .i64 128) (.int .i64 191)).bind fun v63 =>
 icond (nth v63 0) (fun _ =>
 some [(.bool true)]) (fun _ =>
 (ref04_in_s a0 a1 (.int .i64 244) (.int .i64 244)).bind fun v64 =>
 icond (nth v64 0) (fun _ =>
 (ibin .add a1 (.int .i64 1)).bind fun v65 =>
 (ref04_in_s a0 v65 (.int .i64 128) (.int .i64 143)).bind fun v66 =>
 some [(nth v66 0)]) (fun _ =>
 some [(.bool false)]))) (fun _ =>
 (ref04_in_s a0 a1 (.int .i64 244) (.int .i64 244)).bind fun v67 =>
 icond (nth v67 0) (fun _ =>
 (ibin .add a1 (.int .i64 1)).bind fun v68 =>
 (ref04_in_s a0 v68 (.int .i64 128) (.int .i64 143)).bind fun v69 =>
 some [(nth v69 0)]) (fun _ =>
 some [(.bool false)])))) (fun _ =>
 (ref04_in_s a0 a1 (.int .i64 241) (.int .i64 243)).bind fun v70 =>
 icond (nth v70 0) (fun _ =>
 (ibin .add a1 (.int .i64 1)).bind fun v71 =>
 (ref04_in_s a0 v71 (.int .i64 128) (.int .i64 191)).bind fun v72 =>
 icond (nth v72 0) (fun _ =>
 some [(.bool true)]) (fun _ =>
 (ref04_in_s a0 a1 (.int .i64 244) (.int .i64 244)).bind fun v73 =>
 icond (nth v73 0) (fun _ =>
 (ibin .add a1 (.int .i64 1)).bind fun v74 =>
 (ref04_in_s a0 v74 (.int .i64 128) (.int .i64 143)).bind fun v75 =>
 some [(nth v75 0)]) (fun _ =>
 some [(.bool false)]))) (fun _ =>
 (ref04_in_s a0 a1 (.int .i64 244) (.int .i64 244)).bind fun v76 =>
 icond (nth v76 0) (fun _ =>
 (ibin .add a1 (.int .i64 1)).bind fun v77 =>
 (ref04_in_s a0 v77 (.int .i64 128) (.int .i64 143)).bind fun v78 =>
 some [(nth v78 0)]) (fun _ =>
 some [(.bool false)])))) (fun _ =>
 some [(.bool false)])) (fun _ =>
 some [(.bool false)])).bind fun v79 =>
 icond (nth v79 0) (fun _ =>
 scal [(.int .i64 4)]) (fun _ =>
 scal [(.int .i64 0)]))))

def ref04_First_l2 (a0 : IV) (v1 : List IV) : Option SR :=
 (ilenS a0).bind fun v2 =>
 (ibin .lss (nth v1 0) v2).bind fun v3 =>
 icond v3 (fun _ =>
 (ref04_sign_s a0 (nth v1 0)).bind fun v4 =>
 (ibin .eql (nth v4 0) (.int .i64 0)).bind fun v5 =>
 icond v5 (fun _ =>
 some (.done 1 [(nth v1 0), (.bool true)])) (fun _ =>
 (ibin .add (nth v1 0) (nth v4 0)).bind fun v6 =>
 some (.next [v6]))) (fun _ =>
 some (.done 0 []))
def ref04_First_s (a0 : IV) : Option (List IV) :=
 (iter rounds (ref04_First_l2 a0) [(.int .i64 0)]).bind fun v7 =>
 sel v7.1 [scal [(.int .i64 0), (.bool false)],
 scal [(nth v7.2 0), (nth v7.2 1)]]

def ref04_Valid_s (a0 : IV) : Option (List IV) :=
 (ref04_First_s a0).bind fun v1 =>
 (iun .not (nth v1 1)).bind fun v2 =>
 scal [v2]

def ref12_One_s (a0 a1 a2 a3 : IV) : Option (List IV) :=
 ((ibin .geq a0 (.int .i64 1)).bind fun v1 =>
 icond v1 (fun _ =>
 (ibin .leq a0 (.int .i64 2147483647)).bind fun v2 =>
 icond v2 (fun _ =>
 (ibin .geq a1 (.int .i64 0)).bind fun v3 =>
 icond v3 (fun _ =>
 (ibin .leq a1 (.int .i64 2147483647)).bind fun v4 =>
 icond v4 (fun _ =>
 (ilenS a2).bind fun v5 =>
 (ibin .leq v5 (.int .i64 64)).bind fun v6 =>
 icond v6 (fun _ =>
 (ref04_Valid_s a2).bind fun v7 =>
 some [(nth v7 0)]) (fun _ =>
 some [(.bool false)])) (fun _ =>
 some [(.bool false)])) (fun _ =>
 some [(.bool false)])) (fun _ =>
 some [(.bool false)])) (fun _ =>
 some [(.bool false)])).bind fun v8 =>
 scal [(nth v8 0)]

def ref12_May_l4 (a0 : IV) (v3 : List IV) : Option SR :=
 (ilenL a0).bind fun v4 =>
 (ibin .lss (nth v3 0) v4).bind fun v5 =>
 icond v5 (fun _ =>
 ((iidx a0 (nth v3 0) 4).bind fun v6 =>
 (ildN a0 v6 0 4).bind fun v7 =>
 (ref12_One_s (nth v7 0) (nth v7 1) (nth v7 2) (nth v7 3)).bind fun v8 =>
 (iun .not (nth v8 0)).bind fun v9 =>
 icond v9 (fun _ =>
 some [(.bool true)]) (fun _ =>
 (ibin .gtr (nth v3 0) (.int .i64 0)).bind fun v10 =>
 icond v10 (fun _ =>
 (ibin .sub (nth v3 0) (.int .i64 1)).bind fun v11 =>
 (iidx a0 v11 4).bind fun v12 =>
 (ild a0 v12 0).bind fun v13 =>
 (iidx a0 (nth v3 0) 4).bind fun v14 =>
 (ild a0 v14 0).bind fun v15 =>
 (ibin .geq v13 v15).bind fun v16 =>
 some [v16]) (fun _ =>
 some [(.bool false)]))).bind fun v17 =>
 icond (nth v17 0) (fun _ =>
 some (.done 1 [(.bool false)])) (fun _ =>
 (ibin .add (nth v3 0) (.int .i64 1)).bind fun v18 =>
 some (.next [v18]))) (fun _ =>
 some (.done 0 []))
def ref12_May_l9 (a0 : IV) (v20 : List IV) : Option SR :=
 (ilenL a0).bind fun v21 =>
 (ibin .lss (nth v20 0) v21).bind fun v22 =>
 icond v22 (fun _ =>
 (iidx a0 (nth v20 0) 4).bind fun v23 =>
 (ild a0 v23 0).bind fun v24 =>
 (iidx a0 (nth v20 0) 4).bind fun v25 =>
 (ild a0 v25 0).bind fun v26 =>
 (ref12_Above_s a0 v24 v26).bind fun v27 =>
 icond (nth v27 0) (fun _ =>
 some (.done 1 [(.bool false)])) (fun _ =>
 (ibin .add (nth v20 0) (.int .i64 1)).bind fun v28 =>
 some (.next [v28]))) (fun _ =>
 some (.done 0 []))
def ref12_May_s (a0 : IV) : Option (List IV) :=
 (ilenL a0).bind fun v1 =>
 (ibin .gtr v1 (.int .i64 2000)).bind fun v2 =>
 icond v2 (fun _ =>
 scal [(.bool false)]) (fun _ =>
 (iter rounds (ref12_May_l4 a0) [(.int .i64 0)]).bind fun v19 =>
 sel v19.1 [(iter rounds (ref12_May_l9 a0) [(.int .i64 0)]).bind fun v29 =>
 sel v29.1 [scal [(.bool true)],
 scal [(nth v29.2 0)]],
 scal [(nth v19.2 0)]])

def tree_Find_s (a0 a1 : IV) : Option (List IV) :=
 (tree_place_s a0 a1).bind fun v1 =>
 icond (nth v1 1) (fun _ =>
 (iidx a0 (nth v1 0) 4).bind fun v2 =>
 (ildN a0 v2 0 4).bind fun v3 =>
 scal [(nth v3 0), (nth v3 1), (nth v3 2), (nth v3 3), (.bool true)]) (fun _ =>
 scal [(.int .i64 0), (.int .i64 0), (.str ⟨#[]⟩), (.flt .f64 0), (.bool false)])

def Cx_tree_Kids : IV → List Nat → List (List IV) → Option (List IV) :=
  tbl n_tree_Kids_1 [1] (fun caps l => match caps, l with | [], [[a0, a1, a2, a3], [a4, a5, a6, a7]] => tree_Kids_1_s a0 a1 a2 a3 a4 a5 a6 a7 | _, _ => none) <|
  fun _ _ _ => none
def tree_Kids_l3 (v1 : IV) (a0 : IV) (a1 : IV) (v2 : List IV) : Option SR :=
 (ibin .lss (nth v2 1) v1).bind fun v3 =>
 icond v3 (fun _ =>
 (iidx a0 (nth v2 1) 4).bind fun v4 =>
 (ildN a0 v4 0 4).bind fun v5 =>
 (ibin .eql (nth v5 1) a1).bind fun v6 =>
 icond v6 (fun _ =>
 (iapp 4 40 (nth v2 0) (.lst [[(nth v5 0), (nth v5 1), (nth v5 2), (nth v5 3)]])).bind fun v7 =>
 (ibin .add (nth v2 1) (.int .i64 1)).bind fun v8 =>
 some (.next [v7, v8])) (fun _ =>
 (ibin .add (nth v2 1) (.int .i64 1)).bind fun v9 =>
 some (.next [(nth v2 0), v9]))) (fun _ =>
 some (.done 0 [(nth v2 0)]))
def tree_Kids_s (a0 a1 : IV) : Option (List IV) :=
 (ilenL a0).bind fun v1 =>
 (iter rounds (tree_Kids_l3 v1 a0 a1) [(.lst []), (.int .i64 0)]).bind fun v10 =>
 sel v10.1 [(slices_SortStableFunc_Row_s (nth v10.2 0) (.clo (.func n_tree_Kids_1) [])).bind fun v11 =>
 some [(nth v11 0)]]

def tree_Drop_s (a0 a1 : IV) : Option (List IV) :=
 (tree_place_s a0 a1).bind fun v1 =>
 (iun .not (nth v1 1)).bind fun v2 =>
 icond v2 (fun _ =>
 some [a0]) (fun _ =>
 (slices_Clone_Row_s a0).bind fun v3 =>
 (ibin .add (nth v1 0) (.int .i64 1)).bind fun v4 =>
 (slices_Delete_Row_s (nth v3 0) (nth v1 0) v4).bind fun v5 =>
 some [(nth v5 0)])

def slices_EqualFunc_Row_Row_l4 (C : IV → List Nat → List (List IV) → Option (List IV)) (v4 : IV) (a0 : IV) (a1 : IV) (a2 : IV) (v5 : List IV) : Option SR :=
 (ibin .lss (nth v5 0) v4).bind fun v6 =>
 icond v6 (fun _ =>
 (iidx a0 (nth v5 0) 4).bind fun v7 =>
 (ildN a0 v7 0 4).bind fun v8 =>
 (iidx a1 (nth v5 0) 4).bind fun v9 =>
 (ildN a1 v9 0 4).bind fun v10 =>
 (C a2 [1] [[(nth v8 0), (nth v8 1), (nth v8 2), (nth v8 3)], [(nth v10 0), (nth v10 1), (nth v10 2), (nth v10 3)]]).bind fun v11 =>
 (iun .not (nth v11 0)).bind fun v12 =>
 icond v12 (fun _ =>
 some (.done 1 [(.bool false)])) (fun _ =>
 (ibin .add (nth v5 0) (.int .i64 1)).bind fun v13 =>
 some (.next [v13]))) (fun _ =>
 some (.done 0 []))
def slices_EqualFunc_Row_Row_s (C : IV → List Nat → List (List IV) → Option (List IV)) (a0 a1 a2 : IV) : Option (List IV) :=
 (ilenL a0).bind fun v1 =>
 (ilenL a1).bind fun v2 =>
 (ibin .neq v1 v2).bind fun v3 =>
 icond v3 (fun _ =>
 scal [(.bool false)]) (fun _ =>
 (ilenL a0).bind fun v4 =>
 (iter rounds (slices_EqualFunc_Row_Row_l4 C v4 a0 a1 a2) [(.int .i64 0)]).bind fun v14 =>
 sel v14.1 [scal [(.bool true)],
 scal [(nth v14.2 0)]])

def bits_Same_s (a0 a1 : IV) : Option (List IV) :=
 (bits_Bits_s a0).bind fun v1 =>
 (bits_Bits_s a1).bind fun v2 =>
 (ibin .eql (nth v1 0) (nth v2 0)).bind fun v3 =>
 scal [v3]

def tree_Same_1_s (a0 a1 a2 a3 a4 a5 a6 a7 : IV) : Option (List IV) :=
 ((ibin .eql a0 a4).bind fun v1 =>
 icond v1 (fun _ =>
 (ibin .eql a1 a5).bind fun v2 =>
 icond v2 (fun _ =>
 (ibin .eql a2 a6).bind fun v3 =>
 icond v3 (fun _ =>
 (bits_Same_s a3 a7).bind fun v4 =>
 some [(nth v4 0)]) (fun _ =>
 some [(.bool false)])) (fun _ =>
 some [(.bool false)])) (fun _ =>
 some [(.bool false)])).bind fun v5 =>
 scal [(nth v5 0)]

def Cx_tree_Same : IV → List Nat → List (List IV) → Option (List IV) :=
  tbl n_tree_Same_1 [1] (fun caps l => match caps, l with | [], [[a0, a1, a2, a3], [a4, a5, a6, a7]] => tree_Same_1_s a0 a1 a2 a3 a4 a5 a6 a7 | _, _ => none) <|
  fun _ _ _ => none
def tree_Same_s (a0 a1 : IV) : Option (List IV) :=
 (slices_EqualFunc_Row_Row_s (Cx_tree_Same) a0 a1 (.clo (.func n_tree_Same_1) [])).bind fun v1 =>
 scal [(nth v1 0)]

def law12_live_s : Option (List IV) :=
 (tree_Find_s (.lst [[(.int .i64 1), (.int .i64 0), (.str ⟨#[97]⟩), (.flt .f64 4611686018427387904)], [(.int .i64 2), (.int .i64 1), (.str ⟨#[98]⟩), (.flt .f64 0)], [(.int .i64 3), (.int .i64 0), (.str ⟨#[99]⟩), (.flt .f64 4607182418800017408)], [(.int .i64 5), (.int .i64 4), (.str ⟨#[]⟩), (.flt .f64 0)]]) (.int .i64 2)).bind fun v1 =>
 (tree_Find_s (.lst [[(.int .i64 1), (.int .i64 0), (.str ⟨#[97]⟩), (.flt .f64 4611686018427387904)], [(.int .i64 2), (.int .i64 1), (.str ⟨#[98]⟩), (.flt .f64 0)], [(.int .i64 3), (.int .i64 0), (.str ⟨#[99]⟩), (.flt .f64 4607182418800017408)], [(.int .i64 5), (.int .i64 4), (.str ⟨#[]⟩), (.flt .f64 0)]]) (.int .i64 4)).bind fun v2 =>
 (tree_Path_s (.lst [[(.int .i64 1), (.int .i64 0), (.str ⟨#[97]⟩), (.flt .f64 4611686018427387904)], [(.int .i64 2), (.int .i64 1), (.str ⟨#[98]⟩), (.flt .f64 0)], [(.int .i64 3), (.int .i64 0), (.str ⟨#[99]⟩), (.flt .f64 4607182418800017408)], [(.int .i64 5), (.int .i64 4), (.str ⟨#[]⟩), (.flt .f64 0)]]) (.int .i64 2)).bind fun v3 =>
 (tree_Path_s (.lst [[(.int .i64 1), (.int .i64 0), (.str ⟨#[97]⟩), (.flt .f64 4611686018427387904)], [(.int .i64 2), (.int .i64 1), (.str ⟨#[98]⟩), (.flt .f64 0)], [(.int .i64 3), (.int .i64 0), (.str ⟨#[99]⟩), (.flt .f64 4607182418800017408)], [(.int .i64 5), (.int .i64 4), (.str ⟨#[]⟩), (.flt .f64 0)]]) (.int .i64 5)).bind fun v4 =>
 (tree_Kids_s (.lst [[(.int .i64 1), (.int .i64 0), (.str ⟨#[97]⟩), (.flt .f64 4611686018427387904)], [(.int .i64 2), (.int .i64 1), (.str ⟨#[98]⟩), (.flt .f64 0)], [(.int .i64 3), (.int .i64 0), (.str ⟨#[99]⟩), (.flt .f64 4607182418800017408)], [(.int .i64 5), (.int .i64 4), (.str ⟨#[]⟩), (.flt .f64 0)]]) (.int .i64 0)).bind fun v5 =>
 (tree_Set_s (.lst [[(.int .i64 1), (.int .i64 0), (.str ⟨#[97]⟩), (.flt .f64 4611686018427387904)], [(.int .i64 2), (.int .i64 1), (.str ⟨#[98]⟩), (.flt .f64 0)], [(.int .i64 3), (.int .i64 0), (.str ⟨#[99]⟩), (.flt .f64 4607182418800017408)], [(.int .i64 5), (.int .i64 4), (.str ⟨#[]⟩), (.flt .f64 0)]]) (.int .i64 4) (.int .i64 3) (.str ⟨#[]⟩) (.flt .f64 0)).bind fun v6 =>
 ((ilenL (nth v5 0)).bind fun v7 =>
 (ibin .neq v7 (.int .i64 2)).bind fun v8 =>
 icond v8 (fun _ =>
 some [(.bool true)]) (fun _ =>
 (ilenL (nth v6 0)).bind fun v9 =>
 (ibin .neq v9 (.int .i64 5)).bind fun v10 =>
 some [v10])).bind fun v11 =>
 icond (nth v11 0) (fun _ =>
 scal [(.bool false)]) (fun _ =>
 ((ibin .eql (nth v1 2) (.str ⟨#[98]⟩)).bind fun v12 =>
 icond v12 (fun _ =>
 icond (nth v1 4) (fun _ =>
 (iun .not (nth v2 4)).bind fun v13 =>
 icond v13 (fun _ =>
 (ref05_Same_s (nth v3 0) (.lst [[(.int .i64 2)], [(.int .i64 1)], [(.int .i64 0)]])).bind fun v14 =>
 icond (nth v14 0) (fun _ =>
 icond (nth v3 1) (fun _ =>
 (iun .not (nth v4 1)).bind fun v15 =>
 icond v15 (fun _ =>
 (iidx (nth v5 0) (.int .i64 0) 4).bind fun v16 =>
 (ild (nth v5 0) v16 0).bind fun v17 =>
 (ibin .eql v17 (.int .i64 3)).bind fun v18 =>
 icond v18 (fun _ =>
 (iidx (nth v6 0) (.int .i64 3) 4).bind fun v19 =>
 (ild (nth v6 0) v19 0).bind fun v20 =>
 (ibin .eql v20 (.int .i64 4)).bind fun v21 =>
 icond v21 (fun _ =>
 (tree_Drop_s (.lst [[(.int .i64 1), (.int .i64 0), (.str ⟨#[97]⟩), (.flt .f64 4611686018427387904)], [(.int .i64 2), (.int .i64 1), (.str ⟨#[98]⟩), (.flt .f64 0)], [(.int .i64 3), (.int .i64 0), (.str ⟨#[99]⟩), (.flt .f64 4607182418800017408)], [(.int .i64 5), (.int .i64 4), (.str ⟨#[]⟩), (.flt .f64 0)]]) (.int .i64 2)).bind fun v22 =>
 (ilenL (nth v22 0)).bind fun v23 =>
 (ibin .eql v23 (.int .i64 3)).bind fun v24 =>
 icond v24 (fun _ =>
 (tree_Above_s (.lst [[(.int .i64 1), (.int .i64 0), (.str ⟨#[97]⟩), (.flt .f64 4611686018427387904)], [(.int .i64 2), (.int .i64 1), (.str ⟨#[98]⟩), (.flt .f64 0)], [(.int .i64 3), (.int .i64 0), (.str ⟨#[99]⟩), (.flt .f64 4607182418800017408)], [(.int .i64 5), (.int .i64 4), (.str ⟨#[]⟩), (.flt .f64 0)]]) (.int .i64 0) (.int .i64 2)).bind fun v25 =>
 icond (nth v25 0) (fun _ =>
 (tree_Above_s (.lst [[(.int .i64 1), (.int .i64 0), (.str ⟨#[97]⟩), (.flt .f64 4611686018427387904)], [(.int .i64 2), (.int .i64 1), (.str ⟨#[98]⟩), (.flt .f64 0)], [(.int .i64 3), (.int .i64 0), (.str ⟨#[99]⟩), (.flt .f64 4607182418800017408)], [(.int .i64 5), (.int .i64 4), (.str ⟨#[]⟩), (.flt .f64 0)]]) (.int .i64 2) (.int .i64 0)).bind fun v26 =>
 (iun .not (nth v26 0)).bind fun v27 =>
 icond v27 (fun _ =>
 (tree_May_s (.lst [[(.int .i64 1), (.int .i64 0), (.str ⟨#[97]⟩), (.flt .f64 4611686018427387904)], [(.int .i64 2), (.int .i64 1), (.str ⟨#[98]⟩), (.flt .f64 0)], [(.int .i64 3), (.int .i64 0), (.str ⟨#[99]⟩), (.flt .f64 4607182418800017408)], [(.int .i64 5), (.int .i64 4), (.str ⟨#[]⟩), (.flt .f64 0)]])).bind fun v28 =>
 icond (nth v28 0) (fun _ =>
 (tree_May_s (.lst [[(.int .i64 1), (.int .i64 2), (.str ⟨#[]⟩), (.flt .f64 0)], [(.int .i64 2), (.int .i64 1), (.str ⟨#[]⟩), (.flt .f64 0)]])).bind fun v29 =>
 (iun .not (nth v29 0)).bind fun v30 =>
 icond v30 (fun _ =>
 (tree_Above_s (.lst [[(.int .i64 1), (.int .i64 2), (.str ⟨#[]⟩), (.flt .f64 0)], [(.int .i64 2), (.int .i64 1), (.str ⟨#[]⟩), (.flt .f64 0)]]) (.int .i64 1) (.int .i64 1)).bind fun v31 =>
 icond (nth v31 0) (fun _ =>
 (tree_Reached_s (.lst [[(.int .i64 1), (.int .i64 0), (.str ⟨#[97]⟩), (.flt .f64 4611686018427387904)], [(.int .i64 2), (.int .i64 1), (.str ⟨#[98]⟩), (.flt .f64 0)], [(.int .i64 3), (.int .i64 0), (.str ⟨#[99]⟩), (.flt .f64 4607182418800017408)], [(.int .i64 5), (.int .i64 4), (.str ⟨#[]⟩), (.flt .f64 0)]])).bind fun v32 =>
 (ref05_Same_s (nth v32 0) (.lst [[(.int .i64 0)], [(.int .i64 1)], [(.int .i64 2)], [(.int .i64 3)]])).bind fun v33 =>
 icond (nth v33 0) (fun _ =>
 (tree_Same_s (.lst [[(.int .i64 1), (.int .i64 0), (.str ⟨#[97]⟩), (.flt .f64 4611686018427387904)], [(.int .i64 2), (.int .i64 1), (.str ⟨#[98]⟩), (.flt .f64 0)], [(.int .i64 3), (.int .i64 0), (.str ⟨#[99]⟩), (.flt .f64 4607182418800017408)], [(.int .i64 5), (.int .i64 4), (.str ⟨#[]⟩), (.flt .f64 0)]]) (.lst [[(.int .i64 1), (.int .i64 0), (.str ⟨#[97]⟩), (.flt .f64 4611686018427387904)], [(.int .i64 2), (.int .i64 1), (.str ⟨#[98]⟩), (.flt .f64 0)], [(.int .i64 3), (.int .i64 0), (.str ⟨#[99]⟩), (.flt .f64 4607182418800017408)], [(.int .i64 5), (.int .i64 4), (.str ⟨#[]⟩), (.flt .f64 0)]])).bind fun v34 =>
 icond (nth v34 0) (fun _ =>
 (tree_Same_s (.lst [[(.int .i64 1), (.int .i64 0), (.str ⟨#[97]⟩), (.flt .f64 4611686018427387904)], [(.int .i64 2), (.int .i64 1), (.str ⟨#[98]⟩), (.flt .f64 0)], [(.int .i64 3), (.int .i64 0), (.str ⟨#[99]⟩), (.flt .f64 4607182418800017408)], [(.int .i64 5), (.int .i64 4), (.str ⟨#[]⟩), (.flt .f64 0)]]) (nth v6 0)).bind fun v35 =>
 (iun .not (nth v35 0)).bind fun v36 =>
 icond v36 (fun _ =>
 (ibidx 4 (.int .i64 0)).bind fun v37 =>
 (ildN (.lst [[(.int .i64 1), (.int .i64 0), (.str ⟨#[97]⟩), (.flt .f64 4611686018427387904)], [(.int .i64 2), (.int .i64 1), (.str ⟨#[98]⟩), (.flt .f64 0)], [(.int .i64 3), (.int .i64 0), (.str ⟨#[99]⟩), (.flt .f64 4607182418800017408)], [(.int .i64 5), (.int .i64 4), (.str ⟨#[]⟩), (.flt .f64 0)]]) v37 0 4).bind fun v38 =>
 (tree_One_s (nth v38 0) (nth v38 1) (nth v38 2) (nth v38 3)).bind fun v39 =>
 icond (nth v39 0) (fun _ =>
 (tree_One_s (.int .i64 0) (.int .i64 0) (.str ⟨#[]⟩) (.flt .f64 0)).bind fun v40 =>
 (iun .not (nth v40 0)).bind fun v41 =>
 some [v41]) (fun _ =>
 some [(.bool false)])) (fun _ =>
 some [(.bool false)])) (fun _ =>
 some [(.bool false)])) (fun _ =>
 some [(.bool false)])) (fun _ =>
 some [(.bool false)])) (fun _ =>
 some [(.bool false)])) (fun _ =>
 some [(.bool false)])) (fun _ =>
 some [(.bool false)])) (fun _ =>
 some [(.bool false)])) (fun _ =>
 some [(.bool false)])) (fun _ =>
 some [(.bool false)])) (fun _ =>
 some [(.bool false)])) (fun _ =>
 some [(.bool false)])) (fun _ =>
 some [(.bool false)])) (fun _ =>
 some [(.bool false)])) (fun _ =>
 some [(.bool false)])) (fun _ =>
 some [(.bool false)])) (fun _ =>
 some [(.bool false)])).bind fun v42 =>
 scal [(nth v42 0)])

def ref12_Drop_s (a0 a1 : IV) : Option (List IV) :=
 (ref12_place_s a0 a1).bind fun v1 =>
 (ibin .lss (nth v1 0) (.int .i64 0)).bind fun v2 =>
 icond v2 (fun _ =>
 some [a0]) (fun _ =>
 (islcL 4 a0 none (some (nth v1 0))).bind fun v3 =>
 (iapp 4 40 (.lst []) v3).bind fun v4 =>
 (ibin .add (nth v1 0) (.int .i64 1)).bind fun v5 =>
 (islcL 4 a0 (some v5) none).bind fun v6 =>
 (iapp 4 40 v4 v6).bind fun v7 =>
 some [v7])

def law12_TreeTells_l4 (a0 : IV) (v7 : List IV) : Option SR :=
 (ilenL a0).bind fun v8 =>
 (ibin .lss (nth v7 0) v8).bind fun v9 =>
 icond v9 (fun _ =>
 (iidx a0 (nth v7 0) 4).bind fun v10 =>
 (ildN a0 v10 0 4).bind fun v11 =>
 (tree_One_s (nth v11 0) (nth v11 1) (nth v11 2) (nth v11 3)).bind fun v12 =>
 (iidx a0 (nth v7 0) 4).bind fun v13 =>
 (ildN a0 v13 0 4).bind fun v14 =>
 (ref12_One_s (nth v14 0) (nth v14 1) (nth v14 2) (nth v14 3)).bind fun v15 =>
 (ibinB .neq (nth v12 0) (nth v15 0)).bind fun v16 =>
 icond v16 (fun _ =>
 some (.done 1 [(.bool false)])) (fun _ =>
 (ibin .add (nth v7 0) (.int .i64 1)).bind fun v17 =>
 some (.next [v17]))) (fun _ =>
 some (.done 0 []))
def law12_TreeTells_s (a0 a1 a2 : IV) : Option (List IV) :=
 ((ref12_Few_s a0).bind fun v1 =>
 (iun .not (nth v1 0)).bind fun v2 =>
 icond v2 (fun _ =>
 some [(.bool true)]) (fun _ =>
 (ref12_Few_s a1).bind fun v3 =>
 (iun .not (nth v3 0)).bind fun v4 =>
 some [v4])).bind fun v5 =>
 icond (nth v5 0) (fun _ =>
 (law12_live_s).bind fun v6 =>
 scal [(nth v6 0)]) (fun _ =>
 (iter rounds (law12_TreeTells_l4 a0) [(.int .i64 0)]).bind fun v18 =>
 sel v18.1 [(tree_Find_s a0 a2).bind fun v19 =>
 (ref12_Find_s a0 a2).bind fun v20 =>
 ((tree_May_s a0).bind fun v21 =>
 (ref12_May_s a0).bind fun v22 =>
 (ibinB .eql (nth v21 0) (nth v22 0)).bind fun v23 =>
 icond v23 (fun _ =>
 (tree_Same_s a0 a1).bind fun v24 =>
 (ref12_Same_s a0 a1).bind fun v25 =>
 (ibinB .eql (nth v24 0) (nth v25 0)).bind fun v26 =>
 icond v26 (fun _ =>
 (ref12_Alike_s (nth v19 0) (nth v19 1) (nth v19 2) (nth v19 3) (nth v20 0) (nth v20 1) (nth v20 2) (nth v20 3)).bind fun v27 =>
 icond (nth v27 0) (fun _ =>
 (ibinB .eql (nth v19 4) (nth v20 4)).bind fun v28 =>
 icond v28 (fun _ =>
 (tree_Drop_s a0 a2).bind fun v29 =>
 (ref12_Drop_s a0 a2).bind fun v30 =>
 (ref12_Same_s (nth v29 0) (nth v30 0)).bind fun v31 =>
 icond (nth v31 0) (fun _ =>
 (law12_live_s).bind fun v32 =>
 some [(nth v32 0)]) (fun _ =>
 some [(.bool false)])) (fun _ =>
 some [(.bool false)])) (fun _ =>
 some [(.bool false)])) (fun _ =>
 some [(.bool false)])) (fun _ =>
 some [(.bool false)])).bind fun v33 =>
 scal [(nth v33 0)],
 scal [(nth v18.2 0)]])

def ref12_Path_l11 (v1 : List IV) (v6 : List IV) (v11 : List IV) : Option SR :=
 (ibin .leq (nth v11 0) (nth v1 1)).bind fun v12 =>
 icond v12 (fun _ =>
 (ibidx (llen (nth v1 0)) (nth v11 0)).bind fun v13 =>
 (ild (nth v1 0) v13 0).bind fun v14 =>
 (ibin .eql v14 (nth v6 1)).bind fun v15 =>
 icond v15 (fun _ =>
 some (.done 1 [(.lst []), (.bool false)])) (fun _ =>
 (ibin .add (nth v11 0) (.int .i64 1)).bind fun v16 =>
 some (.next [v16]))) (fun _ =>
 some (.done 0 []))
def ref12_Path_l3 (a0 : IV) (v1 : List IV) : Option SR :=
 (ilenL a0).bind fun v2 =>
 (ibin .leq (nth v1 1) v2).bind fun v3 =>
 icond v3 (fun _ =>
 (ibidx (llen (nth v1 0)) (nth v1 1)).bind fun v4 =>
 (ild (nth v1 0) v4 0).bind fun v5 =>
 (ref12_Find_s a0 v5).bind fun v6 =>
 (iun .not (nth v6 4)).bind fun v7 =>
 icond v7 (fun _ =>
 (ibidx (llen (nth v1 0)) (nth v1 1)).bind fun v8 =>
 (ild (nth v1 0) v8 0).bind fun v9 =>
 (ibin .neq v9 (.int .i64 0)).bind fun v10 =>
 icond v10 (fun _ =>
 some (.done 1 [(.lst []), (.bool false)])) (fun _ =>
 some (.done 1 [(nth v1 0), (.bool true)]))) (fun _ =>
 (iter rounds (ref12_Path_l11 v1 v6) [(.int .i64 0)]).bind fun v17 =>
 sel v17.1 [(iapp 1 8 (nth v1 0) (.lst [[(nth v6 1)]])).bind fun v18 =>
 (ibin .add (nth v1 1) (.int .i64 1)).bind fun v19 =>
 some (.next [v18, v19]),
 some (.done 1 [(nth v17.2 0), (nth v17.2 1)])])) (fun _ =>
 some (.done 0 []))
def ref12_Path_s (a0 a1 : IV) : Option (List IV) :=
 (iter rounds (ref12_Path_l3 a0) [(.lst [[a1]]), (.int .i64 0)]).bind fun v20 =>
 sel v20.1 [some [(.lst []), (.bool false)],
 some [(nth v20.2 0), (nth v20.2 1)]]

def ref02_Key_s (a0 : IV) : Option (List IV) :=
 (ref01_Bits_s a0).bind fun v1 =>
 (ibin .lss (nth v1 0) (.int .u64 9223372036854775808)).bind fun v2 =>
 icond v2 (fun _ =>
 (ibin .add (nth v1 0) (.int .u64 9223372036854775808)).bind fun v3 =>
 scal [v3]) (fun _ =>
 (ibin .sub (.int .u64 18446744073709551615) (nth v1 0)).bind fun v4 =>
 scal [v4])

def ref02_Compare_s (a0 a1 : IV) : Option (List IV) :=
 (ref02_Key_s a0).bind fun v1 =>
 (ref02_Key_s a1).bind fun v2 =>
 (ibin .lss (nth v1 0) (nth v2 0)).bind fun v3 =>
 icond v3 (fun _ =>
 scal [(.int .i64 (-1))]) (fun _ =>
 (ref02_Key_s a0).bind fun v4 =>
 (ref02_Key_s a1).bind fun v5 =>
 (ibin .gtr (nth v4 0) (nth v5 0)).bind fun v6 =>
 icond v6 (fun _ =>
 scal [(.int .i64 1)]) (fun _ =>
 scal [(.int .i64 0)]))

def ref02_Less_s (a0 a1 a2 a3 a4 a5 a6 a7 : IV) : Option (List IV) :=
 (ref02_Compare_s a3 a7).bind fun v1 =>
 ((ibin .eql (nth v1 0) (.int .i64 (-1))).bind fun v2 =>
 icond v2 (fun _ =>
 some [(.bool true)]) (fun _ =>
 (ibin .eql (nth v1 0) (.int .i64 0)).bind fun v3 =>
 icond v3 (fun _ =>
 (ibin .lss a0 a4).bind fun v4 =>
 some [v4]) (fun _ =>
 some [(.bool false)]))).bind fun v5 =>
 scal [(nth v5 0)]

def ref12_Kids_l7 (a0 : IV) (v1 : List IV) (v8 : List IV) : Option SR :=
 ((ibin .gtr (nth v8 0) (.int .i64 0)).bind fun v9 =>
 icond v9 (fun _ =>
 (iidx a0 (nth v1 1) 4).bind fun v10 =>
 (ildN a0 v10 0 4).bind fun v11 =>
 (ibin .sub (nth v8 0) (.int .i64 1)).bind fun v12 =>
 (ibidx (llen (nth v1 0)) v12).bind fun v13 =>
 (ildN (nth v1 0) v13 0 4).bind fun v14 =>
 (ref02_Less_s (nth v11 0) (nth v11 1) (nth v11 2) (nth v11 3) (nth v14 0) (nth v14 1) (nth v14 2) (nth v14 3)).bind fun v15 =>
 some [(nth v15 0)]) (fun _ =>
 some [(.bool false)])).bind fun v16 =>
 icond (nth v16 0) (fun _ =>
 (ibin .sub (nth v8 0) (.int .i64 1)).bind fun v17 =>
 some (.next [v17])) (fun _ =>
 some (.done 0 [(nth v8 0)]))
def ref12_Kids_l3 (a0 : IV) (a1 : IV) (v1 : List IV) : Option SR :=
 (ilenL a0).bind fun v2 =>
 (ibin .lss (nth v1 1) v2).bind fun v3 =>
 icond v3 (fun _ =>
 (iidx a0 (nth v1 1) 4).bind fun v4 =>
 (ild a0 v4 1).bind fun v5 =>
 (ibin .neq v5 a1).bind fun v6 =>
 icond v6 (fun _ =>
 (ibin .add (nth v1 1) (.int .i64 1)).bind fun v7 =>
 some (.next [(nth v1 0), v7])) (fun _ =>
 (iter rounds (ref12_Kids_l7 a0 v1) [(.int .i64 ((llen (nth v1 0)) : Nat))]).bind fun v18 =>
 sel v18.1 [(ibnds (llen (nth v1 0)) (some (nth v18.2 0)) none).bind fun v19 =>
 (iapp 4 40 (.lst []) (lsub (nth v1 0) v19.1 v19.2)).bind fun v20 =>
 (ibnds (llen (nth v1 0)) none (some (nth v18.2 0))).bind fun v21 =>
 (iapp 4 40 (.lst []) (lsub (nth v1 0) v21.1 v21.2)).bind fun v22 =>
 (iidx a0 (nth v1 1) 4).bind fun v23 =>
 (ildN a0 v23 0 4).bind fun v24 =>
 (iapp 4 40 v22 (.lst [[(nth v24 0), (nth v24 1), (nth v24 2), (nth v24 3)]])).bind fun v25 =>
 (iapp 4 40 v25 v20).bind fun v26 =>
 (ibin .add (nth v1 1) (.int .i64 1)).bind fun v27 =>
 some (.next [v26, v27])])) (fun _ =>
 some (.done 0 [(nth v1 0)]))
def ref12_Kids_s (a0 a1 : IV) : Option (List IV) :=
 (iter rounds (ref12_Kids_l3 a0 a1) [(.lst []), (.int .i64 0)]).bind fun v28 =>
 sel v28.1 [some [(nth v28.2 0)]]

def ref12_Reached_l8 (v1 : List IV) (a0 : IV) (v9 : List IV) : Option SR :=
 ((ibin .lss (nth v9 0) (.int .i64 ((llen (nth v1 0)) : Nat))).bind fun v10 =>
 icond v10 (fun _ =>
 (ibidx (llen (nth v1 0)) (nth v9 0)).bind fun v11 =>
 (ild (nth v1 0) v11 0).bind fun v12 =>
 (iidx a0 (nth v1 1) 4).bind fun v13 =>
 (ild a0 v13 0).bind fun v14 =>
 (ibin .lss v12 v14).bind fun v15 =>
 some [v15]) (fun _ =>
 some [(.bool false)])).bind fun v16 =>
 icond (nth v16 0) (fun _ =>
 (ibin .add (nth v9 0) (.int .i64 1)).bind fun v17 =>
 some (.next [v17])) (fun _ =>
 some (.done 0 [(nth v9 0)]))
def ref12_Reached_l3 (a0 : IV) (v1 : List IV) : Option SR :=
 (ilenL a0).bind fun v2 =>
 (ibin .lss (nth v1 1) v2).bind fun v3 =>
 icond v3 (fun _ =>
 (iidx a0 (nth v1 1) 4).bind fun v4 =>
 (ild a0 v4 0).bind fun v5 =>
 (ref12_Path_s a0 v5).bind fun v6 =>
 (iun .not (nth v6 1)).bind fun v7 =>
 icond v7 (fun _ =>
 (ibin .add (nth v1 1) (.int .i64 1)).bind fun v8 =>
 some (.next [(nth v1 0), v8])) (fun _ =>
 (iter rounds (ref12_Reached_l8 v1 a0) [(.int .i64 0)]).bind fun v18 =>
 sel v18.1 [((ibin .lss (nth v18.2 0) (.int .i64 ((llen (nth v1 0)) : Nat))).bind fun v19 =>
 icond v19 (fun _ =>
 (ibidx (llen (nth v1 0)) (nth v18.2 0)).bind fun v20 =>
 (ild (nth v1 0) v20 0).bind fun v21 =>
 (iidx a0 (nth v1 1) 4).bind fun v22 =>
 (ild a0 v22 0).bind fun v23 =>
 (ibin .eql v21 v23).bind fun v24 =>
 some [v24]) (fun _ =>
 some [(.bool false)])).bind fun v25 =>
 icond (nth v25 0) (fun _ =>
 (ibin .add (nth v1 1) (.int .i64 1)).bind fun v26 =>
 some (.next [(nth v1 0), v26])) (fun _ =>
 (ibnds (llen (nth v1 0)) (some (nth v18.2 0)) none).bind fun v27 =>
 (iapp 1 8 (.lst []) (lsub (nth v1 0) v27.1 v27.2)).bind fun v28 =>
 (ibnds (llen (nth v1 0)) none (some (nth v18.2 0))).bind fun v29 =>
 (iapp 1 8 (.lst []) (lsub (nth v1 0) v29.1 v29.2)).bind fun v30 =>
 (iidx a0 (nth v1 1) 4).bind fun v31 =>
 (ild a0 v31 0).bind fun v32 =>
 (iapp 1 8 v30 (.lst [[v32]])).bind fun v33 =>
 (iapp 1 8 v33 v28).bind fun v34 =>
 (ibin .add (nth v1 1) (.int .i64 1)).bind fun v35 =>
 some (.next [v34, v35]))])) (fun _ =>
 some (.done 0 [(nth v1 0)]))
def ref12_Reached_s (a0 : IV) : Option (List IV) :=
 (iter rounds (ref12_Reached_l3 a0) [(.lst [[(.int .i64 0)]]), (.int .i64 0)]).bind fun v36 =>
 sel v36.1 [some [(nth v36.2 0)]]

def law12_TreeSets_s (a0 a1 a2 a3 a4 a5 a6 : IV) : Option (List IV) :=
 ((ref12_Few_s a0).bind fun v1 =>
 (iun .not (nth v1 0)).bind fun v2 =>
 icond v2 (fun _ =>
 some [(.bool true)]) (fun _ =>
 (ilenS a3).bind fun v3 =>
 (ibin .gtr v3 (.int .i64 100)).bind fun v4 =>
 some [v4])).bind fun v5 =>
 icond (nth v5 0) (fun _ =>
 (law12_live_s).bind fun v6 =>
 scal [(nth v6 0)]) (fun _ =>
 (tree_Path_s a0 a5).bind fun v7 =>
 (ref12_Path_s a0 a5).bind fun v8 =>
 ((tree_Set_s a0 a1 a2 a3 a4).bind fun v9 =>
 (ref12_Set_s a0 a1 a2 a3 a4).bind fun v10 =>
 (ref12_Same_s (nth v9 0) (nth v10 0)).bind fun v11 =>
 icond (nth v11 0) (fun _ =>
 (tree_Above_s a0 a5 a6).bind fun v12 =>
 (ref12_Above_s a0 a5 a6).bind fun v13 =>
 (ibinB .eql (nth v12 0) (nth v13 0)).bind fun v14 =>
 icond v14 (fun _ =>
 (tree_Kids_s a0 a6).bind fun v15 =>
 (ref12_Kids_s a0 a6).bind fun v16 =>
 (ref12_Same_s (nth v15 0) (nth v16 0)).bind fun v17 =>
 icond (nth v17 0) (fun _ =>
 (ref05_Same_s (nth v7 0) (nth v8 0)).bind fun v18 =>
 icond (nth v18 0) (fun _ =>
 (ibinB .eql (nth v7 1) (nth v8 1)).bind fun v19 =>
 icond v19 (fun _ =>
 (tree_Reached_s a0).bind fun v20 =>
 (ref12_Reached_s a0).bind fun v21 =>
 (ref05_Same_s (nth v20 0) (nth v21 0)).bind fun v22 =>
 icond (nth v22 0) (fun _ =>
 (law12_live_s).bind fun v23 =>
 some [(nth v23 0)]) (fun _ =>
 some [(.bool false)])) (fun _ =>
 some [(.bool false)])) (fun _ =>
 some [(.bool false)])) (fun _ =>
 some [(.bool false)])) (fun _ =>
 some [(.bool false)])) (fun _ =>
 some [(.bool false)])).bind fun v24 =>
 scal [(nth v24 0)])

def law12_TreeOrder_s (a0 a1 a2 a3 : IV) : Option (List IV) :=
 ((ref12_Few_s a0).bind fun v1 =>
 (iun .not (nth v1 0)).bind fun v2 =>
 icond v2 (fun _ =>
 some [(.bool true)]) (fun _ =>
 (ref12_May_s a0).bind fun v3 =>
 (iun .not (nth v3 0)).bind fun v4 =>
 some [v4])).bind fun v5 =>
 icond (nth v5 0) (fun _ =>
 (law12_live_s).bind fun v6 =>
 scal [(nth v6 0)]) (fun _ =>
 ((tree_Above_s a0 a1 a1).bind fun v7 =>
 icond (nth v7 0) (fun _ =>
 some [(.bool true)]) (fun _ =>
 (tree_Above_s a0 a1 a2).bind fun v8 =>
 icond (nth v8 0) (fun _ =>
 (tree_Above_s a0 a2 a3).bind fun v9 =>
 icond (nth v9 0) (fun _ =>
 (tree_Above_s a0 a1 a3).bind fun v10 =>
 (iun .not (nth v10 0)).bind fun v11 =>
 icond v11 (fun _ =>
 some [(.bool true)]) (fun _ =>
 (tree_Above_s a0 a1 a2).bind fun v12 =>
 icond (nth v12 0) (fun _ =>
 (tree_Above_s a0 a2 a1).bind fun v13 =>
 some [(nth v13 0)]) (fun _ =>
 some [(.bool false)]))) (fun _ =>
 (tree_Above_s a0 a1 a2).bind fun v14 =>
 icond (nth v14 0) (fun _ =>
 (tree_Above_s a0 a2 a1).bind fun v15 =>
 some [(nth v15 0)]) (fun _ =>
 some [(.bool false)]))) (fun _ =>
 (tree_Above_s a0 a1 a2).bind fun v16 =>
 icond (nth v16 0) (fun _ =>
 (tree_Above_s a0 a2 a1).bind fun v17 =>
 some [(nth v17 0)]) (fun _ =>
 some [(.bool false)])))).bind fun v18 =>
 icond (nth v18 0) (fun _ =>
 scal [(.bool false)]) (fun _ =>
 ((tree_Above_s a0 a1 a3).bind fun v19 =>
 icond (nth v19 0) (fun _ =>
 (tree_Above_s a0 a2 a3).bind fun v20 =>
 icond (nth v20 0) (fun _ =>
 (ibin .neq a1 a2).bind fun v21 =>
 icond v21 (fun _ =>
 (tree_Above_s a0 a1 a2).bind fun v22 =>
 (iun .not (nth v22 0)).bind fun v23 =>
 icond v23 (fun _ =>
 (tree_Above_s a0 a2 a1).bind fun v24 =>
 (iun .not (nth v24 0)).bind fun v25 =>
 some [v25]) (fun _ =>
 some [(.bool false)])) (fun _ =>
 some [(.bool false)])) (fun _ =>
 some [(.bool false)])) (fun _ =>
 some [(.bool false)])).bind fun v26 =>
 icond (nth v26 0) (fun _ =>
 scal [(.bool false)]) (fun _ =>
 (law12_live_s).bind fun v27 =>
 scal [(nth v27 0)])))

def law12_TreePaths_l9 (v17 : List IV) (a1 : IV) (v18 : List IV) : Option SR :=
 (ilenL (nth v17 0)).bind fun v19 =>
 (ibin .lss (nth v18 1) v19).bind fun v20 =>
 icond v20 (fun _ =>
 (icond (nth v18 0) (fun _ =>
 some [(.bool true)]) (fun _ =>
 (iidx (nth v17 0) (nth v18 1) 1).bind fun v21 =>
 (ild (nth v17 0) v21 0).bind fun v22 =>
 (ibin .eql v22 a1).bind fun v23 =>
 some [v23])).bind fun v24 =>
 ((ibin .gtr (nth v18 1) (.int .i64 0)).bind fun v25 =>
 icond v25 (fun _ =>
 (ibin .sub (nth v18 1) (.int .i64 1)).bind fun v26 =>
 (iidx (nth v17 0) v26 1).bind fun v27 =>
 (ild (nth v17 0) v27 0).bind fun v28 =>
 (iidx (nth v17 0) (nth v18 1) 1).bind fun v29 =>
 (ild (nth v17 0) v29 0).bind fun v30 =>
 (ibin .geq v28 v30).bind fun v31 =>
 some [v31]) (fun _ =>
 some [(.bool false)])).bind fun v32 =>
 icond (nth v32 0) (fun _ =>
 some (.done 1 [(.bool false)])) (fun _ =>
 (ibin .add (nth v18 1) (.int .i64 1)).bind fun v33 =>
 some (.next [(nth v24 0), v33]))) (fun _ =>
 some (.done 0 [(nth v18 0)]))
def law12_TreePaths_l26 (v68 : List IV) (v50 : List IV) (v7 : List IV) (v69 : List IV) : Option SR :=
 (ilenL (nth v68 0)).bind fun v70 =>
 (ibin .lss (nth v69 1) v70).bind fun v71 =>
 icond v71 (fun _ =>
 (icond (nth v69 0) (fun _ =>
 some [(.bool true)]) (fun _ =>
 (iidx (nth v68 0) (nth v69 1) 4).bind fun v72 =>
 (ild (nth v68 0) v72 0).bind fun v73 =>
 (ibin .sub (nth v50 0) (.int .i64 1)).bind fun v74 =>
 (iidx (nth v7 0) v74 1).bind fun v75 =>
 (ild (nth v7 0) v75 0).bind fun v76 =>
 (ibin .eql v73 v76).bind fun v77 =>
 some [v77])).bind fun v78 =>
 (ibin .add (nth v69 1) (.int .i64 1)).bind fun v79 =>
 some (.next [(nth v78 0), v79])) (fun _ =>
 some (.done 0 [(nth v69 0)]))
def law12_TreePaths_l18 (v7 : List IV) (a1 : IV) (a0 : IV) (v50 : List IV) : Option SR :=
 (ilenL (nth v7 0)).bind fun v51 =>
 (ibin .lss (nth v50 0) v51).bind fun v52 =>
 icond v52 (fun _ =>
 ((iidx (nth v7 0) (nth v50 0) 1).bind fun v53 =>
 (ild (nth v7 0) v53 0).bind fun v54 =>
 (ibin .eql v54 a1).bind fun v55 =>
 (ibin .eql (nth v50 0) (.int .i64 0)).bind fun v56 =>
 (ibinB .neq v55 v56).bind fun v57 =>
 icond v57 (fun _ =>
 some [(.bool true)]) (fun _ =>
 (ibin .gtr (nth v50 0) (.int .i64 0)).bind fun v58 =>
 icond v58 (fun _ =>
 (iidx (nth v7 0) (nth v50 0) 1).bind fun v59 =>
 (ild (nth v7 0) v59 0).bind fun v60 =>
 (tree_Above_s a0 v60 a1).bind fun v61 =>
 (iun .not (nth v61 0)).bind fun v62 =>
 some [v62]) (fun _ =>
 some [(.bool false)]))).bind fun v63 =>
 icond (nth v63 0) (fun _ =>
 some (.done 1 [(.bool false)])) (fun _ =>
 (ibin .eql (nth v50 0) (.int .i64 0)).bind fun v64 =>
 icond v64 (fun _ =>
 (ibin .add (nth v50 0) (.int .i64 1)).bind fun v65 =>
 some (.next [v65])) (fun _ =>
 (iidx (nth v7 0) (nth v50 0) 1).bind fun v66 =>
 (ild (nth v7 0) v66 0).bind fun v67 =>
 (tree_Kids_s a0 v67).bind fun v68 =>
 (iter rounds (law12_TreePaths_l26 v68 v50 v7) [(.bool false), (.int .i64 0)]).bind fun v80 =>
 sel v80.1 [(iun .not (nth v80.2 0)).bind fun v81 =>
 icond v81 (fun _ =>
 some (.done 1 [(.bool false)])) (fun _ =>
 (ibin .add (nth v50 0) (.int .i64 1)).bind fun v82 =>
 some (.next [v82]))]))) (fun _ =>
 some (.done 0 []))
def law12_TreePaths_s (a0 a1 : IV) : Option (List IV) :=
 ((ref12_Few_s a0).bind fun v1 =>
 (iun .not (nth v1 0)).bind fun v2 =>
 icond v2 (fun _ =>
 some [(.bool true)]) (fun _ =>
 (ref12_May_s a0).bind fun v3 =>
 (iun .not (nth v3 0)).bind fun v4 =>
 some [v4])).bind fun v5 =>
 icond (nth v5 0) (fun _ =>
 (law12_live_s).bind fun v6 =>
 scal [(nth v6 0)]) (fun _ =>
 (tree_Path_s a0 a1).bind fun v7 =>
 ((ibin .eql a1 (.int .i64 0)).bind fun v8 =>
 icond v8 (fun _ =>
 (ibinB .neq (nth v7 1) (.bool true)).bind fun v9 =>
 icond v9 (fun _ =>
 some [(.bool true)]) (fun _ =>
 icond (nth v7 1) (fun _ =>
 (ilenL (nth v7 0)).bind fun v10 =>
 (ibin .eql v10 (.int .i64 0)).bind fun v11 =>
 some [v11]) (fun _ =>
 some [(.bool false)]))) (fun _ =>
 (tree_Above_s a0 (.int .i64 0) a1).bind fun v12 =>
 (ibinB .neq (nth v7 1) (nth v12 0)).bind fun v13 =>
 icond v13 (fun _ =>
 some [(.bool true)]) (fun _ =>
 icond (nth v7 1) (fun _ =>
 (ilenL (nth v7 0)).bind fun v14 =>
 (ibin .eql v14 (.int .i64 0)).bind fun v15 =>
 some [v15]) (fun _ =>
 some [(.bool false)])))).bind fun v16 =>
 icond (nth v16 0) (fun _ =>
 scal [(.bool false)]) (fun _ =>
 (tree_Reached_s a0).bind fun v17 =>
 (iter rounds (law12_TreePaths_l9 v17 a1) [(.bool false), (.int .i64 0)]).bind fun v34 =>
 sel v34.1 [(tree_Find_s a0 a1).bind fun v35 =>
 (icond (nth v7 1) (fun _ =>
 icond (nth v35 4) (fun _ =>
 (ibinB .neq (nth v34.2 0) (.bool true)).bind fun v36 =>
 icond v36 (fun _ =>
 some [(.bool true)]) (fun _ =>
 (iun .not (nth v7 1)).bind fun v37 =>
 icond v37 (fun _ =>
 (ilenL (nth v7 0)).bind fun v38 =>
 (ibin .neq v38 (.int .i64 0)).bind fun v39 =>
 some [v39]) (fun _ =>
 some [(.bool false)]))) (fun _ =>
 (ibin .eql a1 (.int .i64 0)).bind fun v40 =>
 (ibinB .neq (nth v34.2 0) v40).bind fun v41 =>
 icond v41 (fun _ =>
 some [(.bool true)]) (fun _ =>
 (iun .not (nth v7 1)).bind fun v42 =>
 icond v42 (fun _ =>
 (ilenL (nth v7 0)).bind fun v43 =>
 (ibin .neq v43 (.int .i64 0)).bind fun v44 =>
 some [v44]) (fun _ =>
 some [(.bool false)])))) (fun _ =>
 (ibinB .neq (nth v34.2 0) (.bool false)).bind fun v45 =>
 icond v45 (fun _ =>
 some [(.bool true)]) (fun _ =>
 (iun .not (nth v7 1)).bind fun v46 =>
 icond v46 (fun _ =>
 (ilenL (nth v7 0)).bind fun v47 =>
 (ibin .neq v47 (.int .i64 0)).bind fun v48 =>
 some [v48]) (fun _ =>
 some [(.bool false)])))).bind fun v49 =>
 icond (nth v49 0) (fun _ =>
 scal [(.bool false)]) (fun _ =>
 (iter rounds (law12_TreePaths_l18 v7 a1 a0) [(.int .i64 0)]).bind fun v83 =>
 sel v83.1 [((iun .not (nth v7 1)).bind fun v84 =>
 icond v84 (fun _ =>
 (law12_live_s).bind fun v85 =>
 some [(nth v85 0)]) (fun _ =>
 (ilenL (nth v7 0)).bind fun v86 =>
 (ibin .sub v86 (.int .i64 1)).bind fun v87 =>
 (iidx (nth v7 0) v87 1).bind fun v88 =>
 (ild (nth v7 0) v88 0).bind fun v89 =>
 (ibin .eql v89 (.int .i64 0)).bind fun v90 =>
 icond v90 (fun _ =>
 (law12_live_s).bind fun v91 =>
 some [(nth v91 0)]) (fun _ =>
 some [(.bool false)]))).bind fun v92 =>
 scal [(nth v92 0)],
 scal [(nth v83.2 0)]]),
 scal [(nth v34.2 0)]]))

def law12_TreeKids_l12 (v21 : List IV) (a0 : IV) (v22 : List IV) : Option SR :=
 (ilenL (nth v21 0)).bind fun v23 =>
 (ibin .lss (nth v22 0) v23).bind fun v24 =>
 icond v24 (fun _ =>
 (iidx (nth v21 0) (nth v22 0) 4).bind fun v25 =>
 (ild (nth v21 0) v25 0).bind fun v26 =>
 (tree_Find_s a0 v26).bind fun v27 =>
 ((iun .not (nth v27 4)).bind fun v28 =>
 icond v28 (fun _ =>
 some [(.bool true)]) (fun _ =>
 (iidx (nth v21 0) (nth v22 0) 4).bind fun v29 =>
 (ildN (nth v21 0) v29 0 4).bind fun v30 =>
 (ref12_Alike_s (nth v27 0) (nth v27 1) (nth v27 2) (nth v27 3) (nth v30 0) (nth v30 1) (nth v30 2) (nth v30 3)).bind fun v31 =>
 (iun .not (nth v31 0)).bind fun v32 =>
 icond v32 (fun _ =>
 some [(.bool true)]) (fun _ =>
 (ibin .gtr (nth v22 0) (.int .i64 0)).bind fun v33 =>
 icond v33 (fun _ =>
 (ibin .sub (nth v22 0) (.int .i64 1)).bind fun v34 =>
 (iidx (nth v21 0) v34 4).bind fun v35 =>
 (ildN (nth v21 0) v35 0 4).bind fun v36 =>
 (iidx (nth v21 0) (nth v22 0) 4).bind fun v37 =>
 (ildN (nth v21 0) v37 0 4).bind fun v38 =>
 (ref02_Less_s (nth v36 0) (nth v36 1) (nth v36 2) (nth v36 3) (nth v38 0) (nth v38 1) (nth v38 2) (nth v38 3)).bind fun v39 =>
 (iun .not (nth v39 0)).bind fun v40 =>
 some [v40]) (fun _ =>
 some [(.bool false)])))).bind fun v41 =>
 icond (nth v41 0) (fun _ =>
 some (.done 1 [(.bool false)])) (fun _ =>
 (ibin .add (nth v22 0) (.int .i64 1)).bind fun v42 =>
 some (.next [v42]))) (fun _ =>
 some (.done 0 []))
def law12_TreeKids_l6 (a0 : IV) (v9 : List IV) : Option SR :=
 (ilenL a0).bind fun v10 =>
 (ibin .lss (nth v9 2) v10).bind fun v11 =>
 icond v11 (fun _ =>
 (iidx a0 (nth v9 2) 4).bind fun v12 =>
 (ild a0 v12 1).bind fun v13 =>
 (imgetK (.int .i64) (nth v9 1) v13 (.bool false)).bind fun v14 =>
 icond (nth v14 0) (fun _ =>
 (ibin .add (nth v9 2) (.int .i64 1)).bind fun v15 =>
 some (.next [(nth v9 0), (nth v9 1), v15])) (fun _ =>
 (iidx a0 (nth v9 2) 4).bind fun v16 =>
 (ild a0 v16 1).bind fun v17 =>
 (imputK (.int .i64) (nth v9 1) v17 (.bool true)).bind fun v18 =>
 (iidx a0 (nth v9 2) 4).bind fun v19 =>
 (ild a0 v19 1).bind fun v20 =>
 (tree_Kids_s a0 v20).bind fun v21 =>
 (iter rounds (law12_TreeKids_l12 v21 a0) [(.int .i64 0)]).bind fun v43 =>
 sel v43.1 [(ilenL (nth v21 0)).bind fun v44 =>
 (ibin .add (nth v9 0) v44).bind fun v45 =>
 (ibin .add (nth v9 2) (.int .i64 1)).bind fun v46 =>
 some (.next [v45, v18, v46]),
 some (.done 1 [(nth v43.2 0)])])) (fun _ =>
 some (.done 0 [(nth v9 0)]))
def law12_TreeKids_s (a0 a1 a2 a3 a4 : IV) : Option (List IV) :=
 ((ref12_Few_s a0).bind fun v1 =>
 (iun .not (nth v1 0)).bind fun v2 =>
 icond v2 (fun _ =>
 some [(.bool true)]) (fun _ =>
 (ref12_May_s a0).bind fun v3 =>
 (iun .not (nth v3 0)).bind fun v4 =>
 icond v4 (fun _ =>
 some [(.bool true)]) (fun _ =>
 (ilenS a3).bind fun v5 =>
 (ibin .gtr v5 (.int .i64 100)).bind fun v6 =>
 some [v6]))).bind fun v7 =>
 icond (nth v7 0) (fun _ =>
 (law12_live_s).bind fun v8 =>
 scal [(nth v8 0)]) (fun _ =>
 (iter rounds (law12_TreeKids_l6 a0) [(.int .i64 0), (.map []), (.int .i64 0)]).bind fun v47 =>
 sel v47.1 [(tree_Set_s a0 a1 a2 a3 a4).bind fun v48 =>
 (tree_Find_s (nth v48 0) a1).bind fun v49 =>
 ((ilenL a0).bind fun v50 =>
 (ibin .eql (nth v47.2 0) v50).bind fun v51 =>
 icond v51 (fun _ =>
 icond (nth v49 4) (fun _ =>
 (ref12_Alike_s (nth v49 0) (nth v49 1) (nth v49 2) (nth v49 3) a1 a2 a3 a4).bind fun v52 =>
 icond (nth v52 0) (fun _ =>
 (tree_Drop_s (nth v48 0) a1).bind fun v53 =>
 (tree_Drop_s a0 a1).bind fun v54 =>
 (tree_Same_s (nth v53 0) (nth v54 0)).bind fun v55 =>
 icond (nth v55 0) (fun _ =>
 (law12_live_s).bind fun v56 =>
 some [(nth v56 0)]) (fun _ =>
 some [(.bool false)])) (fun _ =>
 some [(.bool false)])) (fun _ =>
 some [(.bool false)])) (fun _ =>
 some [(.bool false)])).bind fun v57 =>
 scal [(nth v57 0)],
 scal [(nth v47.2 0)]])

def law12_TreeHangs_s (a0 a1 a2 a3 a4 a5 : IV) : Option (List IV) :=
 ((ref12_Few_s a0).bind fun v1 =>
 (iun .not (nth v1 0)).bind fun v2 =>
 icond v2 (fun _ =>
 some [(.bool true)]) (fun _ =>
 (ilenS a3).bind fun v3 =>
 (ibin .gtr v3 (.int .i64 100)).bind fun v4 =>
 icond v4 (fun _ =>
 some [(.bool true)]) (fun _ =>
 (ref12_May_s a0).bind fun v5 =>
 (iun .not (nth v5 0)).bind fun v6 =>
 icond v6 (fun _ =>
 some [(.bool true)]) (fun _ =>
 (ref12_One_s a1 a2 a3 a4).bind fun v7 =>
 (iun .not (nth v7 0)).bind fun v8 =>
 some [v8])))).bind fun v9 =>
 icond (nth v9 0) (fun _ =>
 (law12_live_s).bind fun v10 =>
 scal [(nth v10 0)]) (fun _ =>
 (tree_Set_s a0 a1 a2 a3 a4).bind fun v11 =>
 ((ibin .neq a2 a1).bind fun v12 =>
 icond v12 (fun _ =>
 (tree_Above_s a0 a1 a2).bind fun v13 =>
 (iun .not (nth v13 0)).bind fun v14 =>
 some [v14]) (fun _ =>
 some [(.bool false)])).bind fun v15 =>
 (tree_May_s (nth v11 0)).bind fun v16 =>
 (ibinB .neq (nth v16 0) (nth v15 0)).bind fun v17 =>
 icond v17 (fun _ =>
 scal [(.bool false)]) (fun _ =>
 (iun .not (nth v15 0)).bind fun v18 =>
 icond v18 (fun _ =>
 (law12_live_s).bind fun v19 =>
 scal [(nth v19 0)]) (fun _ =>
 ((tree_Above_s (nth v11 0) a1 a5).bind fun v20 =>
 (tree_Above_s a0 a1 a5).bind fun v21 =>
 (ibinB .eql (nth v20 0) (nth v21 0)).bind fun v22 =>
 icond v22 (fun _ =>
 (tree_Above_s (nth v11 0) a2 a1).bind fun v23 =>
 icond (nth v23 0) (fun _ =>
 (law12_live_s).bind fun v24 =>
 some [(nth v24 0)]) (fun _ =>
 some [(.bool false)])) (fun _ =>
 some [(.bool false)])).bind fun v25 =>
 scal [(nth v25 0)])))

def law12_TreeDrops_l10 (v12 : List IV) (v11 : List IV) (a1 : IV) (a0 : IV) (v13 : List IV) : Option SR :=
 (ilenL (nth v12 0)).bind fun v14 =>
 (ibin .lss (nth v13 1) v14).bind fun v15 =>
 icond v15 (fun _ =>
 ((iun .not (nth v11 4)).bind fun v16 =>
 icond v16 (fun _ =>
 some [(.bool true)]) (fun _ =>
 (iidx (nth v12 0) (nth v13 1) 1).bind fun v17 =>
 (ild (nth v12 0) v17 0).bind fun v18 =>
 (ibin .neq v18 a1).bind fun v19 =>
 icond v19 (fun _ =>
 (iidx (nth v12 0) (nth v13 1) 1).bind fun v20 =>
 (ild (nth v12 0) v20 0).bind fun v21 =>
 (tree_Above_s a0 a1 v21).bind fun v22 =>
 (iun .not (nth v22 0)).bind fun v23 =>
 some [v23]) (fun _ =>
 some [(.bool false)]))).bind fun v24 =>
 icond (nth v24 0) (fun _ =>
 (iidx (nth v12 0) (nth v13 1) 1).bind fun v25 =>
 (ild (nth v12 0) v25 0).bind fun v26 =>
 (iapp 1 8 (nth v13 0) (.lst [[v26]])).bind fun v27 =>
 (ibin .add (nth v13 1) (.int .i64 1)).bind fun v28 =>
 some (.next [v27, v28])) (fun _ =>
 (ibin .add (nth v13 1) (.int .i64 1)).bind fun v29 =>
 some (.next [(nth v13 0), v29]))) (fun _ =>
 some (.done 0 [(nth v13 0)]))
def law12_TreeDrops_s (a0 a1 : IV) : Option (List IV) :=
 ((ref12_Few_s a0).bind fun v1 =>
 (iun .not (nth v1 0)).bind fun v2 =>
 icond v2 (fun _ =>
 some [(.bool true)]) (fun _ =>
 (ref12_May_s a0).bind fun v3 =>
 (iun .not (nth v3 0)).bind fun v4 =>
 icond v4 (fun _ =>
 some [(.bool true)]) (fun _ =>
 (ibin .eql a1 (.int .i64 0)).bind fun v5 =>
 some [v5]))).bind fun v6 =>
 icond (nth v6 0) (fun _ =>
 (law12_live_s).bind fun v7 =>
 scal [(nth v7 0)]) (fun _ =>
 (tree_Drop_s a0 a1).bind fun v8 =>
 (tree_May_s (nth v8 0)).bind fun v9 =>
 (iun .not (nth v9 0)).bind fun v10 =>
 icond v10 (fun _ =>
 scal [(.bool false)]) (fun _ =>
 (tree_Find_s a0 a1).bind fun v11 =>
 (tree_Reached_s a0).bind fun v12 =>
 (iter rounds (law12_TreeDrops_l10 v12 v11 a1 a0) [(.lst []), (.int .i64 0)]).bind fun v30 =>
 sel v30.1 [(tree_Find_s (nth v8 0) a1).bind fun v31 =>
 ((iun .not (nth v31 4)).bind fun v32 =>
 icond v32 (fun _ =>
 (ilenL (nth v8 0)).bind fun v33 =>
 (ilenL a0).bind fun v34 =>
 (ibin .leq v33 v34).bind fun v35 =>
 icond v35 (fun _ =>
 (tree_Reached_s (nth v8 0)).bind fun v36 =>
 (ref05_Same_s (nth v36 0) (nth v30.2 0)).bind fun v37 =>
 icond (nth v37 0) (fun _ =>
 (law12_live_s).bind fun v38 =>
 some [(nth v38 0)]) (fun _ =>
 some [(.bool false)])) (fun _ =>
 some [(.bool false)])) (fun _ =>
 some [(.bool false)])).bind fun v39 =>
 scal [(nth v39 0)]]))

end Go.AM

/- Each function that is reached runs in the abstract machine as printed. -/
import Derived.Test.YtcnafacmpplhbaaSh
import Derived.Test.YtcnafacmpplhbaaProg
set_option linter.unusedVariables false
set_option maxRecDepth 100000
namespace Go.AM
open Go.Proofs
def Γ_word_head : FuncId → Option FSig := fun f =>
  none
def A_word_head : Ann := { scalar := true }
theorem run_word_head (a0 : IV) : run Try.prog (Γ_word_head) C0 A_word_head Try.f104 [[a0]] = word_head_s a0 := by kernel_rfl

def Γ_word_signs : FuncId → Option FSig := fun f =>
  if f = n_word_head then some ⟨.pure, true, [1, 1, 1, 1], 0, fun l => match l with | [[x0]] => word_head_s x0 | _ => none⟩ else
  none
def A_word_signs : Ann := { join := (fun r => if r = 4 then some [34] else if r = 8 then some [56] else none), loop := (fun r => if r = 2 then ([(4, .I), (5, .I)], [[(4, .I), (5, .I)]]) else if r = 6 then ([(7, .I), (8, .I), (45, .I)], [[], []]) else ([], [])), scalar := true }
theorem run_word_signs (a0 : IV) : run Try.prog (Γ_word_signs) C0 A_word_signs Try.f84 [[a0]] = word_signs_s a0 := by kernel_rfl

def Γ_word_Valid : FuncId → Option FSig := fun f =>
  if f = n_word_signs then some ⟨.pure, true, [1, 1], 0, fun l => match l with | [[x0]] => word_signs_s x0 | _ => none⟩ else
  none
def A_word_Valid : Ann := { scalar := true }
theorem run_word_Valid (a0 : IV) : run Try.prog (Γ_word_Valid) C0 A_word_Valid Try.f61 [[a0]] = word_Valid_s a0 := by kernel_rfl

def Γ_tree_One : FuncId → Option FSig := fun f =>
  if f = n_word_Valid then some ⟨.pure, true, [1], 0, fun l => match l with | [[x0]] => word_Valid_s x0 | _ => none⟩ else
  none
def A_tree_One : Ann := { join := (fun r => if r = 1 then some [2] else none), scalar := true }
theorem run_tree_One (a0 a1 a2 a3 : IV) : run Try.prog (Γ_tree_One) C0 A_tree_One Try.f36 [[a0, a1, a2, a3]] = tree_One_s a0 a1 a2 a3 := by kernel_rfl

def Γ_rank_first (C : IV → List Nat → List (List IV) → Option (List IV)) : FuncId → Option FSig := fun f =>
  none
def A_rank_first : Ann := { loop := (fun r => if r = 2 then ([(8, .I)], [[], [(2, .I)]]) else ([], [])), scalar := true }
theorem run_rank_first (C : IV → List Nat → List (List IV) → Option (List IV)) (a0 : IV) : run Try.prog (Γ_rank_first C) C A_rank_first Try.f92 [[a0]] = rank_first_s C a0 := by kernel_rfl

def Γ_bits_Minus : FuncId → Option FSig := fun f =>
  none
def A_bits_Minus : Ann := { join := (fun r => if r = 1 then some [2] else none), scalar := true }
theorem run_bits_Minus (a0 : IV) : run Try.prog (Γ_bits_Minus) C0 A_bits_Minus Try.f106 [[a0]] = bits_Minus_s a0 := by kernel_rfl

def Γ_bits_powers : FuncId → Option FSig := fun f =>
  none
def A_bits_powers : Ann := { scalar := true }
theorem run_bits_powers : run Try.prog (Γ_bits_powers) C0 A_bits_powers Try.f127 [] = bits_powers_s := by kernel_rfl

def Γ_bits_split : FuncId → Option FSig := fun f =>
  if f = n_bits_powers then some ⟨.pure, true, [30], 0, fun l => match l with | [] => bits_powers_s | _ => none⟩ else
  none
def A_bits_split : Ann := { loop := (fun r => if r = 3 then ([(0, .I), (4, .I), (8, .I)], [[(0, .I), (4, .I)]]) else if r = 12 then ([(0, .I), (4, .I)], [[(0, .I), (4, .I)]]) else if r = 15 then ([(0, .I), (4, .I)], [[(0, .I), (4, .I)]]) else ([], [])), scalar := true }
theorem run_bits_split (a0 : IV) : run Try.prog (Γ_bits_split) C0 A_bits_split Try.f107 [[a0]] = bits_split_s a0 := by kernel_rfl

def Γ_bits_Bits : FuncId → Option FSig := fun f =>
  if f = n_bits_Minus then some ⟨.pure, true, [1], 0, fun l => match l with | [[x0]] => bits_Minus_s x0 | _ => none⟩ else
  if f = n_bits_split then some ⟨.pure, true, [1, 1], 0, fun l => match l with | [[x0]] => bits_split_s x0 | _ => none⟩ else
  none
def A_bits_Bits : Ann := { scalar := true }
theorem run_bits_Bits (a0 : IV) : run Try.prog (Γ_bits_Bits) C0 A_bits_Bits Try.f86 [[a0]] = bits_Bits_s a0 := by kernel_rfl

def Γ_rank_Key : FuncId → Option FSig := fun f =>
  if f = n_bits_Bits then some ⟨.pure, true, [1], 0, fun l => match l with | [[x0]] => bits_Bits_s x0 | _ => none⟩ else
  none
def A_rank_Key : Ann := { scalar := true }
theorem run_rank_Key (a0 : IV) : run Try.prog (Γ_rank_Key) C0 A_rank_Key Try.f113 [[a0]] = rank_Key_s a0 := by kernel_rfl

def Γ_cmp_isNaN_uint64 : FuncId → Option FSig := fun f =>
  none
def A_cmp_isNaN_uint64 : Ann := { scalar := true }
theorem run_cmp_isNaN_uint64 (a0 : IV) : run Try.prog (Γ_cmp_isNaN_uint64) C0 A_cmp_isNaN_uint64 Try.f130 [[a0]] = cmp_isNaN_uint64_s a0 := by kernel_rfl

def Γ_cmp_Compare_uint64 : FuncId → Option FSig := fun f =>
  if f = n_cmp_isNaN_uint64 then some ⟨.pure, true, [1], 0, fun l => match l with | [[x0]] => cmp_isNaN_uint64_s x0 | _ => none⟩ else
  none
def A_cmp_Compare_uint64 : Ann := { scalar := true }
theorem run_cmp_Compare_uint64 (a0 a1 : IV) : run Try.prog (Γ_cmp_Compare_uint64) C0 A_cmp_Compare_uint64 Try.f112 [[a0], [a1]] = cmp_Compare_uint64_s a0 a1 := by kernel_rfl

def Γ_rank_Compare : FuncId → Option FSig := fun f =>
  if f = n_rank_Key then some ⟨.pure, true, [1], 0, fun l => match l with | [[x0]] => rank_Key_s x0 | _ => none⟩ else
  if f = n_cmp_Compare_uint64 then some ⟨.pure, true, [1], 0, fun l => match l with | [[x0], [x1]] => cmp_Compare_uint64_s x0 x1 | _ => none⟩ else
  none
def A_rank_Compare : Ann := { scalar := true }
theorem run_rank_Compare (a0 a1 : IV) : run Try.prog (Γ_rank_Compare) C0 A_rank_Compare Try.f94 [[a0], [a1]] = rank_Compare_s a0 a1 := by kernel_rfl

def Γ_rank_Less_1 : FuncId → Option FSig := fun f =>
  if f = n_rank_Compare then some ⟨.pure, true, [1], 0, fun l => match l with | [[x0], [x1]] => rank_Compare_s x0 x1 | _ => none⟩ else
  none
def A_rank_Less_1 : Ann := { scalar := true }
theorem run_rank_Less_1 (a0 a1 : IV) : run Try.prog (Γ_rank_Less_1) C0 A_rank_Less_1 Try.f93 [[a0], [a1]] = rank_Less_1_s a0 a1 := by kernel_rfl

def Γ_cmp_isNaN_int : FuncId → Option FSig := fun f =>
  none
def A_cmp_isNaN_int : Ann := { scalar := true }
theorem run_cmp_isNaN_int (a0 : IV) : run Try.prog (Γ_cmp_isNaN_int) C0 A_cmp_isNaN_int Try.f114 [[a0]] = cmp_isNaN_int_s a0 := by kernel_rfl

def Γ_cmp_Compare_int : FuncId → Option FSig := fun f =>
  if f = n_cmp_isNaN_int then some ⟨.pure, true, [1], 0, fun l => match l with | [[x0]] => cmp_isNaN_int_s x0 | _ => none⟩ else
  none
def A_cmp_Compare_int : Ann := { scalar := true }
theorem run_cmp_Compare_int (a0 a1 : IV) : run Try.prog (Γ_cmp_Compare_int) C0 A_cmp_Compare_int Try.f96 [[a0], [a1]] = cmp_Compare_int_s a0 a1 := by kernel_rfl

def Γ_rank_Less_2 : FuncId → Option FSig := fun f =>
  if f = n_cmp_Compare_int then some ⟨.pure, true, [1], 0, fun l => match l with | [[x0], [x1]] => cmp_Compare_int_s x0 x1 | _ => none⟩ else
  none
def A_rank_Less_2 : Ann := { scalar := true }
theorem run_rank_Less_2 (a0 a1 : IV) : run Try.prog (Γ_rank_Less_2) C0 A_rank_Less_2 Try.f95 [[a0], [a1]] = rank_Less_2_s a0 a1 := by kernel_rfl

def Γ_rank_Less : FuncId → Option FSig := fun f =>
  if f = n_rank_first then some ⟨.pure, true, [1], 0, fun l => match l with | [[x0]] => rank_first_s (Cx_rank_Less) x0 | _ => none⟩ else
  none
def A_rank_Less : Ann := { scalar := true }
theorem run_rank_Less (a0 a1 a2 a3 a4 a5 a6 a7 : IV) : run Try.prog (Γ_rank_Less) (Cx_rank_Less) A_rank_Less Try.f75 [[a0, a1, a2, a3], [a4, a5, a6, a7]] = rank_Less_s a0 a1 a2 a3 a4 a5 a6 a7 := by kernel_rfl

def Γ_tree_Kids_1 : FuncId → Option FSig := fun f =>
  if f = n_rank_Less then some ⟨.pure, true, [1], 0, fun l => match l with | [[x0, x1, x2, x3], [x4, x5, x6, x7]] => rank_Less_s x0 x1 x2 x3 x4 x5 x6 x7 | _ => none⟩ else
  none
def A_tree_Kids_1 : Ann := { scalar := true }
theorem run_tree_Kids_1 (a0 a1 a2 a3 a4 a5 a6 a7 : IV) : run Try.prog (Γ_tree_Kids_1) C0 A_tree_Kids_1 Try.f74 [[a0, a1, a2, a3], [a4, a5, a6, a7]] = tree_Kids_1_s a0 a1 a2 a3 a4 a5 a6 a7 := by kernel_rfl

def Γ_slices_Index_int : FuncId → Option FSig := fun f =>
  none
def A_slices_Index_int : Ann := { loop := (fun r => if r = 2 then ([(8, .I)], [[], [(4, .I)]]) else ([], [])), scalar := true }
theorem run_slices_Index_int (a0 a1 : IV) : run Try.prog (Γ_slices_Index_int) C0 A_slices_Index_int Try.f108 [[a0], [a1]] = slices_Index_int_s a0 a1 := by kernel_rfl

def Γ_slices_Contains_int : FuncId → Option FSig := fun f =>
  if f = n_slices_Index_int then some ⟨.pure, true, [1], 0, fun l => match l with | [[x0], [x1]] => slices_Index_int_s x0 x1 | _ => none⟩ else
  none
def A_slices_Contains_int : Ann := { scalar := true }
theorem run_slices_Contains_int (a0 a1 : IV) : run Try.prog (Γ_slices_Contains_int) C0 A_slices_Contains_int Try.f87 [[a0], [a1]] = slices_Contains_int_s a0 a1 := by kernel_rfl

def Γ_ref12_Few : FuncId → Option FSig := fun f =>
  none
def A_ref12_Few : Ann := { loop := (fun r => if r = 4 then ([(3, .I)], [[], [(2, .I)]]) else ([], [])), scalar := true }
theorem run_ref12_Few (a0 : IV) : run Try.prog (Γ_ref12_Few) C0 A_ref12_Few Try.f15 [[a0]] = ref12_Few_s a0 := by kernel_rfl

def Γ_slices_IndexFunc_Row (C : IV → List Nat → List (List IV) → Option (List IV)) : FuncId → Option FSig := fun f =>
  none
def A_slices_IndexFunc_Row : Ann := { loop := (fun r => if r = 2 then ([(8, .I)], [[], [(4, .I)]]) else ([], [])), scalar := true }
theorem run_slices_IndexFunc_Row (C : IV → List Nat → List (List IV) → Option (List IV)) (a0 a1 : IV) : run Try.prog (Γ_slices_IndexFunc_Row C) C A_slices_IndexFunc_Row Try.f70 [[a0], [a1]] = slices_IndexFunc_Row_s C a0 a1 := by kernel_rfl

def Γ_tree_place_1 : FuncId → Option FSig := fun f =>
  none
def A_tree_place_1 : Ann := { scalar := true }
theorem run_tree_place_1 (a0 a1 a2 a3 a4 : IV) : run Try.prog (Γ_tree_place_1) C0 A_tree_place_1 Try.f81 [[a0, a1, a2, a3], [a4]] = tree_place_1_s a0 a1 a2 a3 a4 := by kernel_rfl

def Γ_tree_place : FuncId → Option FSig := fun f =>
  if f = n_slices_IndexFunc_Row then some ⟨.pure, true, [1], 0, fun l => match l with | [[x0], [x1]] => slices_IndexFunc_Row_s (Cx_tree_place) x0 x1 | _ => none⟩ else
  none
def A_tree_place : Ann := { scalar := true }
theorem run_tree_place (a0 a1 : IV) : run Try.prog (Γ_tree_place) (Cx_tree_place) A_tree_place Try.f57 [[a0], [a1]] = tree_place_s a0 a1 := by kernel_rfl

def Γ_tree_Set_1 : FuncId → Option FSig := fun f =>
  none
def A_tree_Set_1 : Ann := { scalar := true }
theorem run_tree_Set_1 (a0 a1 a2 a3 a4 : IV) : run Try.prog (Γ_tree_Set_1) C0 A_tree_Set_1 Try.f71 [[a0, a1, a2, a3], [a4]] = tree_Set_1_s a0 a1 a2 a3 a4 := by kernel_rfl

def Γ_tree_Set : FuncId → Option FSig := fun f =>
  if f = n_slices_Clone_Row then some ⟨.own, false, [1], 4, fun l => match l with | [[x0]] => slices_Clone_Row_s x0 | _ => none⟩ else
  if f = n_tree_place then some ⟨.pure, true, [1, 1], 0, fun l => match l with | [[x0], [x1]] => tree_place_s x0 x1 | _ => none⟩ else
  if f = n_slices_IndexFunc_Row then some ⟨.pure, true, [1], 0, fun l => match l with | [[x0], [x1]] => slices_IndexFunc_Row_s (Cx_tree_Set) x0 x1 | _ => none⟩ else
  if f = n_slices_Insert_Row then some ⟨.cons, false, [1], 4, fun l => match l with | [[x0], [x1], [x2]] => slices_Insert_Row_s x0 x1 x2 | _ => none⟩ else
  none
def A_tree_Set : Ann := {  }
theorem run_tree_Set (a0 a1 a2 a3 a4 : IV) : run Try.prog (Γ_tree_Set) (Cx_tree_Set) A_tree_Set Try.f44 [[a0], [a1, a2, a3, a4]] = tree_Set_s a0 a1 a2 a3 a4 := by kernel_rfl

def Γ_ref05_Same : FuncId → Option FSig := fun f =>
  none
def A_ref05_Same : Ann := { order := (fun r => if r = 6 then some ([], [0, 1, 2, 3, 4, 5, 6, 7, 8], []) else none), loop := (fun r => if r = 4 then ([(5, .I)], [[], [(4, .I)]]) else ([], [])), scalar := true }
theorem run_ref05_Same (a0 a1 : IV) : run Try.prog (Γ_ref05_Same) C0 A_ref05_Same Try.f25 [[a0], [a1]] = ref05_Same_s a0 a1 := by kernel_rfl

def Γ_ref12_place : FuncId → Option FSig := fun f =>
  none
def A_ref12_place : Ann := { loop := (fun r => if r = 2 then ([(5, .I)], [[], [(4, .I)]]) else ([], [])), scalar := true }
theorem run_ref12_place (a0 a1 : IV) : run Try.prog (Γ_ref12_place) C0 A_ref12_place Try.f63 [[a0], [a1]] = ref12_place_s a0 a1 := by kernel_rfl

def Γ_ref12_Find : FuncId → Option FSig := fun f =>
  if f = n_ref12_place then some ⟨.pure, true, [1], 0, fun l => match l with | [[x0], [x1]] => ref12_place_s x0 x1 | _ => none⟩ else
  none
def A_ref12_Find : Ann := { scalar := true }
theorem run_ref12_Find (a0 a1 : IV) : run Try.prog (Γ_ref12_Find) C0 A_ref12_Find Try.f38 [[a0], [a1]] = ref12_Find_s a0 a1 := by kernel_rfl

def Γ_ref12_Above : FuncId → Option FSig := fun f =>
  if f = n_ref12_Find then some ⟨.pure, true, [4, 1], 0, fun l => match l with | [[x0], [x1]] => ref12_Find_s x0 x1 | _ => none⟩ else
  none
def A_ref12_Above : Ann := { loop := (fun r => if r = 2 then ([(2, .I), (7, .I)], [[], [(6, .I)]]) else ([], [])), scalar := true }
theorem run_ref12_Above (a0 a1 a2 : IV) : run Try.prog (Γ_ref12_Above) C0 A_ref12_Above Try.f46 [[a0], [a1], [a2]] = ref12_Above_s a0 a1 a2 := by kernel_rfl

def Γ_ref12_Set : FuncId → Option FSig := fun f =>
  if f = n_ref12_place then some ⟨.pure, true, [1], 0, fun l => match l with | [[x0], [x1]] => ref12_place_s x0 x1 | _ => none⟩ else
  none
def A_ref12_Set : Ann := { order := (fun r => if r = 7 then some ([], [0, 1, 2, 3, 4, 5, 6, 7, 8, 9, 10, 11, 12, 13], []) else none), join := (fun r => if r = 7 then some [36] else none), loop := (fun r => if r = 7 then ([(7, .I)], [[(7, .I)]]) else ([], [])) }
theorem run_ref12_Set (a0 a1 a2 a3 a4 : IV) : run Try.prog (Γ_ref12_Set) C0 A_ref12_Set Try.f45 [[a0], [a1, a2, a3, a4]] = ref12_Set_s a0 a1 a2 a3 a4 := by kernel_rfl

def Γ_ref01_None : FuncId → Option FSig := fun f =>
  none
def A_ref01_None : Ann := { scalar := true }
theorem run_ref01_None : run Try.prog (Γ_ref01_None) C0 A_ref01_None Try.f101 [] = ref01_None_s := by kernel_rfl

def Γ_ref01_Minus : FuncId → Option FSig := fun f =>
  none
def A_ref01_Minus : Ann := { join := (fun r => if r = 1 then some [2] else none), scalar := true }
theorem run_ref01_Minus (a0 : IV) : run Try.prog (Γ_ref01_Minus) C0 A_ref01_Minus Try.f102 [[a0]] = ref01_Minus_s a0 := by kernel_rfl

def Γ_ref01_top : FuncId → Option FSig := fun f =>
  none
def A_ref01_top : Ann := { scalar := true }
theorem run_ref01_top : run Try.prog (Γ_ref01_top) C0 A_ref01_top Try.f103 [] = ref01_top_s := by kernel_rfl

def Γ_ref01_Bits : FuncId → Option FSig := fun f =>
  if f = n_ref01_None then some ⟨.pure, true, [1], 0, fun l => match l with | [] => ref01_None_s | _ => none⟩ else
  if f = n_ref01_Minus then some ⟨.pure, true, [1], 0, fun l => match l with | [[x0]] => ref01_Minus_s x0 | _ => none⟩ else
  if f = n_ref01_top then some ⟨.pure, true, [1], 0, fun l => match l with | [] => ref01_top_s | _ => none⟩ else
  none
def A_ref01_Bits : Ann := { join := (fun r => if r = 15 then some [35] else none), loop := (fun r => if r = 12 then ([(0, .I), (4, .I)], [[(0, .I), (4, .I)]]) else if r = 15 then ([(0, .I), (4, .I)], [[(0, .I), (4, .I)]]) else if r = 22 then ([(0, .I), (5, .I)], [[(0, .I)]]) else ([], [])), scalar := true }
theorem run_ref01_Bits (a0 : IV) : run Try.prog (Γ_ref01_Bits) C0 A_ref01_Bits Try.f82 [[a0]] = ref01_Bits_s a0 := by kernel_rfl

def Γ_ref01_Same : FuncId → Option FSig := fun f =>
  if f = n_ref01_Bits then some ⟨.pure, true, [1], 0, fun l => match l with | [[x0]] => ref01_Bits_s x0 | _ => none⟩ else
  none
def A_ref01_Same : Ann := { scalar := true }
theorem run_ref01_Same (a0 a1 : IV) : run Try.prog (Γ_ref01_Same) C0 A_ref01_Same Try.f58 [[a0], [a1]] = ref01_Same_s a0 a1 := by kernel_rfl

def Γ_ref12_Alike : FuncId → Option FSig := fun f =>
  if f = n_ref01_Same then some ⟨.pure, true, [1], 0, fun l => match l with | [[x0], [x1]] => ref01_Same_s x0 x1 | _ => none⟩ else
  none
def A_ref12_Alike : Ann := { join := (fun r => if r = 1 then some [4] else none), scalar := true }
theorem run_ref12_Alike (a0 a1 a2 a3 a4 a5 a6 a7 : IV) : run Try.prog (Γ_ref12_Alike) C0 A_ref12_Alike Try.f31 [[a0, a1, a2, a3], [a4, a5, a6, a7]] = ref12_Alike_s a0 a1 a2 a3 a4 a5 a6 a7 := by kernel_rfl

def Γ_ref12_Same : FuncId → Option FSig := fun f =>
  if f = n_ref12_Alike then some ⟨.pure, true, [1], 0, fun l => match l with | [[x0, x1, x2, x3], [x4, x5, x6, x7]] => ref12_Alike_s x0 x1 x2 x3 x4 x5 x6 x7 | _ => none⟩ else
  none
def A_ref12_Same : Ann := { order := (fun r => if r = 6 then some ([], [0, 1, 2, 3, 4, 5, 6, 7, 8, 9], []) else none), loop := (fun r => if r = 4 then ([(5, .I)], [[], [(4, .I)]]) else ([], [])), scalar := true }
theorem run_ref12_Same (a0 a1 : IV) : run Try.prog (Γ_ref12_Same) C0 A_ref12_Same Try.f19 [[a0], [a1]] = ref12_Same_s a0 a1 := by kernel_rfl

def Γ_ref04_in : FuncId → Option FSig := fun f =>
  none
def A_ref04_in : Ann := { join := (fun r => if r = 1 then some [8] else none), scalar := true }
theorem run_ref04_in (a0 a1 a2 a3 : IV) : run Try.prog (Γ_ref04_in) C0 A_ref04_in Try.f126 [[a0], [a1], [a2], [a3]] = ref04_in_s a0 a1 a2 a3 := by kernel_rfl

def Γ_ref04_sign : FuncId → Option FSig := fun f =>
  if f = n_ref04_in then some ⟨.pure, true, [1], 0, fun l => match l with | [[x0], [x1], [x2], [x3]] => ref04_in_s x0 x1 x2 x3 | _ => none⟩ else
  none
def A_ref04_sign : Ann := { join := (fun r => if r = 3 then some [16] else if r = 5 then some [64] else if r = 7 then some [107] else none), scalar := true }
theorem run_ref04_sign (a0 a1 : IV) : run Try.prog (Γ_ref04_sign) C0 A_ref04_sign Try.f105 [[a0], [a1]] = ref04_sign_s a0 a1 := by kernel_rfl

def Γ_ref04_First : FuncId → Option FSig := fun f =>
  if f = n_ref04_sign then some ⟨.pure, true, [1], 0, fun l => match l with | [[x0], [x1]] => ref04_sign_s x0 x1 | _ => none⟩ else
  none
def A_ref04_First : Ann := { loop := (fun r => if r = 2 then ([(4, .I)], [[], [(2, .I), (3, .I)]]) else ([], [])), scalar := true }
theorem run_ref04_First (a0 : IV) : run Try.prog (Γ_ref04_First) C0 A_ref04_First Try.f85 [[a0]] = ref04_First_s a0 := by kernel_rfl

def Γ_ref04_Valid : FuncId → Option FSig := fun f =>
  if f = n_ref04_First then some ⟨.pure, true, [1, 1], 0, fun l => match l with | [[x0]] => ref04_First_s x0 | _ => none⟩ else
  none
def A_ref04_Valid : Ann := { scalar := true }
theorem run_ref04_Valid (a0 : IV) : run Try.prog (Γ_ref04_Valid) C0 A_ref04_Valid Try.f62 [[a0]] = ref04_Valid_s a0 := by kernel_rfl

def Γ_ref12_One : FuncId → Option FSig := fun f =>
  if f = n_ref04_Valid then some ⟨.pure, true, [1], 0, fun l => match l with | [[x0]] => ref04_Valid_s x0 | _ => none⟩ else
  none
def A_ref12_One : Ann := { join := (fun r => if r = 1 then some [2] else none), scalar := true }
theorem run_ref12_One (a0 a1 a2 a3 : IV) : run Try.prog (Γ_ref12_One) C0 A_ref12_One Try.f37 [[a0, a1, a2, a3]] = ref12_One_s a0 a1 a2 a3 := by kernel_rfl

def Γ_ref12_May : FuncId → Option FSig := fun f =>
  if f = n_ref12_One then some ⟨.pure, true, [1], 0, fun l => match l with | [[x0, x1, x2, x3]] => ref12_One_s x0 x1 x2 x3 | _ => none⟩ else
  if f = n_ref12_Above then some ⟨.pure, true, [1], 0, fun l => match l with | [[x0], [x1], [x2]] => ref12_Above_s x0 x1 x2 | _ => none⟩ else
  none
def A_ref12_May : Ann := { order := (fun r => if r = 6 then some ([], [0, 1, 2, 3, 4, 5, 6, 7, 8, 9, 10, 11, 12, 13, 14, 15, 16, 17, 18, 19, 20, 21, 22, 23], []) else if r = 11 then some ([], [0, 1, 2, 3, 4, 5, 6, 7, 8, 9, 10, 11], []) else none), join := (fun r => if r = 6 then some [37] else none), loop := (fun r => if r = 4 then ([(3, .I)], [[], [(2, .I)]]) else if r = 9 then ([(4, .I)], [[], [(2, .I)]]) else ([], [])), scalar := true }
theorem run_ref12_May (a0 : IV) : run Try.prog (Γ_ref12_May) C0 A_ref12_May Try.f28 [[a0]] = ref12_May_s a0 := by kernel_rfl

def Γ_tree_Find : FuncId → Option FSig := fun f =>
  if f = n_tree_place then some ⟨.pure, true, [1, 1], 0, fun l => match l with | [[x0], [x1]] => tree_place_s x0 x1 | _ => none⟩ else
  none
def A_tree_Find : Ann := { scalar := true }
theorem run_tree_Find (a0 a1 : IV) : run Try.prog (Γ_tree_Find) C0 A_tree_Find Try.f30 [[a0], [a1]] = tree_Find_s a0 a1 := by kernel_rfl

def Γ_tree_Kids : FuncId → Option FSig := fun f =>
  if f = n_slices_SortStableFunc_Row then some ⟨.inpl, false, [], 4, fun l => match l with | [[x0], [x1]] => slices_SortStableFunc_Row_s x0 x1 | _ => none⟩ else
  none
def A_tree_Kids : Ann := { loop := (fun r => if r = 3 then ([(5, (.B 4)), (10, .I)], [[(5, (.B 4))]]) else ([], [])) }
theorem run_tree_Kids (a0 a1 : IV) : run Try.prog (Γ_tree_Kids) (Cx_tree_Kids) A_tree_Kids Try.f47 [[a0], [a1]] = tree_Kids_s a0 a1 := by kernel_rfl

def Γ_tree_Drop : FuncId → Option FSig := fun f =>
  if f = n_tree_place then some ⟨.pure, true, [1, 1], 0, fun l => match l with | [[x0], [x1]] => tree_place_s x0 x1 | _ => none⟩ else
  if f = n_slices_Clone_Row then some ⟨.own, false, [1], 4, fun l => match l with | [[x0]] => slices_Clone_Row_s x0 | _ => none⟩ else
  if f = n_slices_Delete_Row then some ⟨.cons, false, [1], 4, fun l => match l with | [[x0], [x1], [x2]] => slices_Delete_Row_s x0 x1 x2 | _ => none⟩ else
  none
def A_tree_Drop : Ann := {  }
theorem run_tree_Drop (a0 a1 : IV) : run Try.prog (Γ_tree_Drop) C0 A_tree_Drop Try.f40 [[a0], [a1]] = tree_Drop_s a0 a1 := by kernel_rfl

def Γ_slices_EqualFunc_Row_Row (C : IV → List Nat → List (List IV) → Option (List IV)) : FuncId → Option FSig := fun f =>
  none
def A_slices_EqualFunc_Row_Row : Ann := { loop := (fun r => if r = 4 then ([(17, .I)], [[], [(6, .I)]]) else ([], [])), scalar := true }
theorem run_slices_EqualFunc_Row_Row (C : IV → List Nat → List (List IV) → Option (List IV)) (a0 a1 a2 : IV) : run Try.prog (Γ_slices_EqualFunc_Row_Row C) C A_slices_EqualFunc_Row_Row Try.f64 [[a0], [a1], [a2]] = slices_EqualFunc_Row_Row_s C a0 a1 a2 := by kernel_rfl

def Γ_bits_Same : FuncId → Option FSig := fun f =>
  if f = n_bits_Bits then some ⟨.pure, true, [1], 0, fun l => match l with | [[x0]] => bits_Bits_s x0 | _ => none⟩ else
  none
def A_bits_Same : Ann := { scalar := true }
theorem run_bits_Same (a0 a1 : IV) : run Try.prog (Γ_bits_Same) C0 A_bits_Same Try.f66 [[a0], [a1]] = bits_Same_s a0 a1 := by kernel_rfl

def Γ_tree_Same_1 : FuncId → Option FSig := fun f =>
  if f = n_bits_Same then some ⟨.pure, true, [1], 0, fun l => match l with | [[x0], [x1]] => bits_Same_s x0 x1 | _ => none⟩ else
  none
def A_tree_Same_1 : Ann := { join := (fun r => if r = 1 then some [4] else none), scalar := true }
theorem run_tree_Same_1 (a0 a1 a2 a3 a4 a5 a6 a7 : IV) : run Try.prog (Γ_tree_Same_1) C0 A_tree_Same_1 Try.f65 [[a0, a1, a2, a3], [a4, a5, a6, a7]] = tree_Same_1_s a0 a1 a2 a3 a4 a5 a6 a7 := by kernel_rfl

def Γ_tree_Same : FuncId → Option FSig := fun f =>
  if f = n_slices_EqualFunc_Row_Row then some ⟨.pure, true, [1], 0, fun l => match l with | [[x0], [x1], [x2]] => slices_EqualFunc_Row_Row_s (Cx_tree_Same) x0 x1 x2 | _ => none⟩ else
  none
def A_tree_Same : Ann := { scalar := true }
theorem run_tree_Same (a0 a1 : IV) : run Try.prog (Γ_tree_Same) (Cx_tree_Same) A_tree_Same Try.f39 [[a0], [a1]] = tree_Same_s a0 a1 := by kernel_rfl

def Γ_law12_live : FuncId → Option FSig := fun f =>
  if f = n_tree_Find then some ⟨.pure, true, [4, 1], 0, fun l => match l with | [[x0], [x1]] => tree_Find_s x0 x1 | _ => none⟩ else
  if f = n_tree_Path then some ⟨.pure, false, [1, 1], 0, fun l => match l with | [[x0], [x1]] => tree_Path_s x0 x1 | _ => none⟩ else
  if f = n_tree_Kids then some ⟨.pure, false, [1], 0, fun l => match l with | [[x0], [x1]] => tree_Kids_s x0 x1 | _ => none⟩ else
  if f = n_tree_Set then some ⟨.pure, false, [1], 0, fun l => match l with | [[x0], [x1, x2, x3, x4]] => tree_Set_s x0 x1 x2 x3 x4 | _ => none⟩ else
  if f = n_ref05_Same then some ⟨.pure, true, [1], 0, fun l => match l with | [[x0], [x1]] => ref05_Same_s x0 x1 | _ => none⟩ else
  if f = n_tree_Drop then some ⟨.pure, false, [1], 0, fun l => match l with | [[x0], [x1]] => tree_Drop_s x0 x1 | _ => none⟩ else
  if f = n_tree_Above then some ⟨.pure, true, [1], 0, fun l => match l with | [[x0], [x1], [x2]] => tree_Above_s x0 x1 x2 | _ => none⟩ else
  if f = n_tree_May then some ⟨.pure, true, [1], 0, fun l => match l with | [[x0]] => tree_May_s x0 | _ => none⟩ else
  if f = n_tree_Reached then some ⟨.pure, false, [1], 0, fun l => match l with | [[x0]] => tree_Reached_s x0 | _ => none⟩ else
  if f = n_tree_Same then some ⟨.pure, true, [1], 0, fun l => match l with | [[x0], [x1]] => tree_Same_s x0 x1 | _ => none⟩ else
  if f = n_tree_One then some ⟨.pure, true, [1], 0, fun l => match l with | [[x0, x1, x2, x3]] => tree_One_s x0 x1 x2 x3 | _ => none⟩ else
  none
def A_law12_live : Ann := { join := (fun r => if r = 9 then some [53] else if r = 11 then some [0] else none), scalar := true }
theorem run_law12_live : run Try.prog (Γ_law12_live) C0 A_law12_live Try.f35 [] = law12_live_s := by kernel_rfl

def Γ_ref12_Drop : FuncId → Option FSig := fun f =>
  if f = n_ref12_place then some ⟨.pure, true, [1], 0, fun l => match l with | [[x0], [x1]] => ref12_place_s x0 x1 | _ => none⟩ else
  none
def A_ref12_Drop : Ann := {  }
theorem run_ref12_Drop (a0 a1 : IV) : run Try.prog (Γ_ref12_Drop) C0 A_ref12_Drop Try.f41 [[a0], [a1]] = ref12_Drop_s a0 a1 := by kernel_rfl

def Γ_law12_TreeTells : FuncId → Option FSig := fun f =>
  if f = n_ref12_Few then some ⟨.pure, true, [1], 0, fun l => match l with | [[x0]] => ref12_Few_s x0 | _ => none⟩ else
  if f = n_law12_live then some ⟨.pure, true, [1], 0, fun l => match l with | [] => law12_live_s | _ => none⟩ else
  if f = n_tree_One then some ⟨.pure, true, [1], 0, fun l => match l with | [[x0, x1, x2, x3]] => tree_One_s x0 x1 x2 x3 | _ => none⟩ else
  if f = n_ref12_One then some ⟨.pure, true, [1], 0, fun l => match l with | [[x0, x1, x2, x3]] => ref12_One_s x0 x1 x2 x3 | _ => none⟩ else
  if f = n_tree_Find then some ⟨.pure, true, [4, 1], 0, fun l => match l with | [[x0], [x1]] => tree_Find_s x0 x1 | _ => none⟩ else
  if f = n_ref12_Find then some ⟨.pure, true, [4, 1], 0, fun l => match l with | [[x0], [x1]] => ref12_Find_s x0 x1 | _ => none⟩ else
  if f = n_tree_May then some ⟨.pure, true, [1], 0, fun l => match l with | [[x0]] => tree_May_s x0 | _ => none⟩ else
  if f = n_ref12_May then some ⟨.pure, true, [1], 0, fun l => match l with | [[x0]] => ref12_May_s x0 | _ => none⟩ else
  if f = n_tree_Same then some ⟨.pure, true, [1], 0, fun l => match l with | [[x0], [x1]] => tree_Same_s x0 x1 | _ => none⟩ else
  if f = n_ref12_Same then some ⟨.pure, true, [1], 0, fun l => match l with | [[x0], [x1]] => ref12_Same_s x0 x1 | _ => none⟩ else
  if f = n_ref12_Alike then some ⟨.pure, true, [1], 0, fun l => match l with | [[x0, x1, x2, x3], [x4, x5, x6, x7]] => ref12_Alike_s x0 x1 x2 x3 x4 x5 x6 x7 | _ => none⟩ else
  if f = n_tree_Drop then some ⟨.pure, false, [1], 0, fun l => match l with | [[x0], [x1]] => tree_Drop_s x0 x1 | _ => none⟩ else
  if f = n_ref12_Drop then some ⟨.pure, false, [1], 0, fun l => match l with | [[x0], [x1]] => ref12_Drop_s x0 x1 | _ => none⟩ else
  none
def A_law12_TreeTells : Ann := { order := (fun r => if r = 6 then some ([], [0, 1, 2, 3, 4, 5, 6, 7, 8, 9, 10], []) else none), join := (fun r => if r = 1 then some [19] else if r = 10 then some [6] else none), loop := (fun r => if r = 4 then ([(7, .I)], [[], [(6, .I)]]) else ([], [])), scalar := true }
theorem run_law12_TreeTells (a0 a1 a2 : IV) : run Try.prog (Γ_law12_TreeTells) C0 A_law12_TreeTells Try.f8 [[a0], [a1], [a2]] = law12_TreeTells_s a0 a1 a2 := by kernel_rfl

def Γ_ref12_Path : FuncId → Option FSig := fun f =>
  if f = n_ref12_Find then some ⟨.pure, true, [4, 1], 0, fun l => match l with | [[x0], [x1]] => ref12_Find_s x0 x1 | _ => none⟩ else
  none
def A_ref12_Path : Ann := { order := (fun r => if r = 13 then some ([], [0, 1, 2, 3, 4, 5, 6], []) else none), loop := (fun r => if r = 3 then ([(6, (.B 1)), (7, .I)], [[], [(4, .I), (5, .I)]]) else if r = 11 then ([(10, .I)], [[], [(4, .I), (5, .I)]]) else ([], [])) }
theorem run_ref12_Path (a0 a1 : IV) : run Try.prog (Γ_ref12_Path) C0 A_ref12_Path Try.f43 [[a0], [a1]] = ref12_Path_s a0 a1 := by kernel_rfl

def Γ_ref02_Key : FuncId → Option FSig := fun f =>
  if f = n_ref01_Bits then some ⟨.pure, true, [1], 0, fun l => match l with | [[x0]] => ref01_Bits_s x0 | _ => none⟩ else
  none
def A_ref02_Key : Ann := { scalar := true }
theorem run_ref02_Key (a0 : IV) : run Try.prog (Γ_ref02_Key) C0 A_ref02_Key Try.f99 [[a0]] = ref02_Key_s a0 := by kernel_rfl

def Γ_ref02_Compare : FuncId → Option FSig := fun f =>
  if f = n_ref02_Key then some ⟨.pure, true, [1], 0, fun l => match l with | [[x0]] => ref02_Key_s x0 | _ => none⟩ else
  none
def A_ref02_Compare : Ann := { scalar := true }
theorem run_ref02_Compare (a0 a1 : IV) : run Try.prog (Γ_ref02_Compare) C0 A_ref02_Compare Try.f78 [[a0], [a1]] = ref02_Compare_s a0 a1 := by kernel_rfl

def Γ_ref02_Less : FuncId → Option FSig := fun f =>
  if f = n_ref02_Compare then some ⟨.pure, true, [1], 0, fun l => match l with | [[x0], [x1]] => ref02_Compare_s x0 x1 | _ => none⟩ else
  none
def A_ref02_Less : Ann := { join := (fun r => if r = 2 then some [4] else none), scalar := true }
theorem run_ref02_Less (a0 a1 a2 a3 a4 a5 a6 a7 : IV) : run Try.prog (Γ_ref02_Less) C0 A_ref02_Less Try.f51 [[a0, a1, a2, a3], [a4, a5, a6, a7]] = ref02_Less_s a0 a1 a2 a3 a4 a5 a6 a7 := by kernel_rfl

def Γ_ref12_Kids : FuncId → Option FSig := fun f =>
  if f = n_ref02_Less then some ⟨.pure, true, [1], 0, fun l => match l with | [[x0, x1, x2, x3], [x4, x5, x6, x7]] => ref02_Less_s x0 x1 x2 x3 x4 x5 x6 x7 | _ => none⟩ else
  none
def A_ref12_Kids : Ann := { order := (fun r => if r = 7 then some ([], [0, 1, 2, 3, 4, 5, 6, 7, 8, 9, 10, 11, 12, 13], []) else if r = 10 then some ([11], [0, 1, 2, 3, 4, 5, 6, 7, 8, 9], [10, 12, 13]) else none), join := (fun r => if r = 7 then some [37] else none), loop := (fun r => if r = 3 then ([(5, (.B 4)), (6, .I)], [[(5, (.B 4))]]) else if r = 7 then ([(7, .I)], [[(7, .I)]]) else ([], [])) }
theorem run_ref12_Kids (a0 a1 : IV) : run Try.prog (Γ_ref12_Kids) C0 A_ref12_Kids Try.f48 [[a0], [a1]] = ref12_Kids_s a0 a1 := by kernel_rfl

def Γ_ref12_Reached : FuncId → Option FSig := fun f =>
  if f = n_ref12_Path then some ⟨.pure, false, [1, 1], 0, fun l => match l with | [[x0], [x1]] => ref12_Path_s x0 x1 | _ => none⟩ else
  none
def A_ref12_Reached : Ann := { order := (fun r => if r = 8 then some ([], [0, 1, 2, 3, 4, 5, 6, 7, 8, 9, 10, 11, 12, 13, 14, 15], []) else if r = 10 then some ([], [0, 1, 2, 3, 4, 5, 6, 7, 8, 9, 10, 11, 12, 13, 14, 15], []) else if r = 12 then some ([12], [0, 1, 2, 3, 4, 5, 6, 7, 8, 9, 10], [11, 13, 14]) else none), join := (fun r => if r = 8 then some [43] else if r = 10 then some [61] else none), loop := (fun r => if r = 3 then ([(3, (.B 1)), (4, .I)], [[(3, (.B 1))]]) else if r = 8 then ([(7, .I)], [[(7, .I)]]) else ([], [])) }
theorem run_ref12_Reached (a0 : IV) : run Try.prog (Γ_ref12_Reached) C0 A_ref12_Reached Try.f50 [[a0]] = ref12_Reached_s a0 := by kernel_rfl

def Γ_law12_TreeSets : FuncId → Option FSig := fun f =>
  if f = n_ref12_Few then some ⟨.pure, true, [1], 0, fun l => match l with | [[x0]] => ref12_Few_s x0 | _ => none⟩ else
  if f = n_law12_live then some ⟨.pure, true, [1], 0, fun l => match l with | [] => law12_live_s | _ => none⟩ else
  if f = n_tree_Path then some ⟨.pure, false, [1, 1], 0, fun l => match l with | [[x0], [x1]] => tree_Path_s x0 x1 | _ => none⟩ else
  if f = n_ref12_Path then some ⟨.pure, false, [1, 1], 0, fun l => match l with | [[x0], [x1]] => ref12_Path_s x0 x1 | _ => none⟩ else
  if f = n_tree_Set then some ⟨.pure, false, [1], 0, fun l => match l with | [[x0], [x1, x2, x3, x4]] => tree_Set_s x0 x1 x2 x3 x4 | _ => none⟩ else
  if f = n_ref12_Set then some ⟨.pure, false, [1], 0, fun l => match l with | [[x0], [x1, x2, x3, x4]] => ref12_Set_s x0 x1 x2 x3 x4 | _ => none⟩ else
  if f = n_ref12_Same then some ⟨.pure, true, [1], 0, fun l => match l with | [[x0], [x1]] => ref12_Same_s x0 x1 | _ => none⟩ else
  if f = n_tree_Above then some ⟨.pure, true, [1], 0, fun l => match l with | [[x0], [x1], [x2]] => tree_Above_s x0 x1 x2 | _ => none⟩ else
  if f = n_ref12_Above then some ⟨.pure, true, [1], 0, fun l => match l with | [[x0], [x1], [x2]] => ref12_Above_s x0 x1 x2 | _ => none⟩ else
  if f = n_tree_Kids then some ⟨.pure, false, [1], 0, fun l => match l with | [[x0], [x1]] => tree_Kids_s x0 x1 | _ => none⟩ else
  if f = n_ref12_Kids then some ⟨.pure, false, [1], 0, fun l => match l with | [[x0], [x1]] => ref12_Kids_s x0 x1 | _ => none⟩ else
  if f = n_ref05_Same then some ⟨.pure, true, [1], 0, fun l => match l with | [[x0], [x1]] => ref05_Same_s x0 x1 | _ => none⟩ else
  if f = n_tree_Reached then some ⟨.pure, false, [1], 0, fun l => match l with | [[x0]] => tree_Reached_s x0 | _ => none⟩ else
  if f = n_ref12_Reached then some ⟨.pure, false, [1], 0, fun l => match l with | [[x0]] => ref12_Reached_s x0 | _ => none⟩ else
  none
def A_law12_TreeSets : Ann := { order := (fun r => if r = 5 then some ([], [0, 1, 2, 3, 4, 5, 6, 7, 8, 9, 10, 11, 12, 13, 14, 15, 16, 17, 18, 19, 20, 21, 22, 23, 24, 25, 26, 27, 28, 29, 30, 31, 32, 33, 34, 35, 36, 37, 38, 39, 40, 41, 42, 43, 44, 45, 46, 47, 48, 49, 50, 51, 52, 53], []) else none), join := (fun r => if r = 1 then some [19] else if r = 5 then some [6] else none), scalar := true }
theorem run_law12_TreeSets (a0 a1 a2 a3 a4 a5 a6 : IV) : run Try.prog (Γ_law12_TreeSets) C0 A_law12_TreeSets Try.f9 [[a0], [a1, a2, a3, a4], [a5, a6]] = law12_TreeSets_s a0 a1 a2 a3 a4 a5 a6 := by kernel_rfl

def Γ_law12_TreeOrder : FuncId → Option FSig := fun f =>
  if f = n_ref12_Few then some ⟨.pure, true, [1], 0, fun l => match l with | [[x0]] => ref12_Few_s x0 | _ => none⟩ else
  if f = n_ref12_May then some ⟨.pure, true, [1], 0, fun l => match l with | [[x0]] => ref12_May_s x0 | _ => none⟩ else
  if f = n_law12_live then some ⟨.pure, true, [1], 0, fun l => match l with | [] => law12_live_s | _ => none⟩ else
  if f = n_tree_Above then some ⟨.pure, true, [1], 0, fun l => match l with | [[x0], [x1], [x2]] => tree_Above_s x0 x1 x2 | _ => none⟩ else
  none
def A_law12_TreeOrder : Ann := { order := (fun r => if r = 3 then some ([], [0, 1, 2, 3, 4, 5, 6, 7, 8], []) else none), join := (fun r => if r = 1 then some [15] else if r = 4 then some [57] else if r = 6 then some [86] else none), scalar := true }
theorem run_law12_TreeOrder (a0 a1 a2 a3 : IV) : run Try.prog (Γ_law12_TreeOrder) C0 A_law12_TreeOrder Try.f10 [[a0], [a1, a2, a3]] = law12_TreeOrder_s a0 a1 a2 a3 := by kernel_rfl

def Γ_law12_TreePaths : FuncId → Option FSig := fun f =>
  if f = n_ref12_Few then some ⟨.pure, true, [1], 0, fun l => match l with | [[x0]] => ref12_Few_s x0 | _ => none⟩ else
  if f = n_ref12_May then some ⟨.pure, true, [1], 0, fun l => match l with | [[x0]] => ref12_May_s x0 | _ => none⟩ else
  if f = n_law12_live then some ⟨.pure, true, [1], 0, fun l => match l with | [] => law12_live_s | _ => none⟩ else
  if f = n_tree_Path then some ⟨.pure, false, [1, 1], 0, fun l => match l with | [[x0], [x1]] => tree_Path_s x0 x1 | _ => none⟩ else
  if f = n_tree_Above then some ⟨.pure, true, [1], 0, fun l => match l with | [[x0], [x1], [x2]] => tree_Above_s x0 x1 x2 | _ => none⟩ else
  if f = n_tree_Reached then some ⟨.pure, false, [1], 0, fun l => match l with | [[x0]] => tree_Reached_s x0 | _ => none⟩ else
  if f = n_tree_Find then some ⟨.pure, true, [4, 1], 0, fun l => match l with | [[x0], [x1]] => tree_Find_s x0 x1 | _ => none⟩ else
  if f = n_tree_Kids then some ⟨.pure, false, [1], 0, fun l => match l with | [[x0], [x1]] => tree_Kids_s x0 x1 | _ => none⟩ else
  none
def A_law12_TreePaths : Ann := { order := (fun r => if r = 12 then some ([], [0, 1, 2, 3, 4, 5, 6, 7, 8, 9, 10, 11, 12, 13], []) else if r = 28 then some ([], [0, 1, 2, 3, 4, 5, 6, 7, 8, 9, 10, 11, 12, 13, 14], []) else none), join := (fun r => if r = 1 then some [23] else if r = 4 then some [47] else if r = 11 then some [7] else if r = 12 then some [78] else if r = 15 then some [103] else if r = 20 then some [132] else if r = 28 then some [13] else if r = 31 then some [4] else none), loop := (fun r => if r = 9 then ([(7, .I), (9, .I)], [[(7, .I)], [(4, .I)]]) else if r = 18 then ([(12, .I)], [[], [(4, .I)]]) else if r = 26 then ([(13, .I), (15, .I)], [[(13, .I)]]) else ([], [])), scalar := true }
theorem run_law12_TreePaths (a0 a1 : IV) : run Try.prog (Γ_law12_TreePaths) C0 A_law12_TreePaths Try.f11 [[a0], [a1]] = law12_TreePaths_s a0 a1 := by kernel_rfl

def Γ_law12_TreeKids : FuncId → Option FSig := fun f =>
  if f = n_ref12_Few then some ⟨.pure, true, [1], 0, fun l => match l with | [[x0]] => ref12_Few_s x0 | _ => none⟩ else
  if f = n_ref12_May then some ⟨.pure, true, [1], 0, fun l => match l with | [[x0]] => ref12_May_s x0 | _ => none⟩ else
  if f = n_law12_live then some ⟨.pure, true, [1], 0, fun l => match l with | [] => law12_live_s | _ => none⟩ else
  if f = n_tree_Kids then some ⟨.pure, false, [1], 0, fun l => match l with | [[x0], [x1]] => tree_Kids_s x0 x1 | _ => none⟩ else
  if f = n_tree_Find then some ⟨.pure, true, [4, 1], 0, fun l => match l with | [[x0], [x1]] => tree_Find_s x0 x1 | _ => none⟩ else
  if f = n_ref12_Alike then some ⟨.pure, true, [1], 0, fun l => match l with | [[x0, x1, x2, x3], [x4, x5, x6, x7]] => ref12_Alike_s x0 x1 x2 x3 x4 x5 x6 x7 | _ => none⟩ else
  if f = n_ref02_Less then some ⟨.pure, true, [1], 0, fun l => match l with | [[x0, x1, x2, x3], [x4, x5, x6, x7]] => ref02_Less_s x0 x1 x2 x3 x4 x5 x6 x7 | _ => none⟩ else
  if f = n_tree_Set then some ⟨.pure, false, [1], 0, fun l => match l with | [[x0], [x1, x2, x3, x4]] => tree_Set_s x0 x1 x2 x3 x4 | _ => none⟩ else
  if f = n_tree_Drop then some ⟨.pure, false, [1], 0, fun l => match l with | [[x0], [x1]] => tree_Drop_s x0 x1 | _ => none⟩ else
  if f = n_tree_Same then some ⟨.pure, true, [1], 0, fun l => match l with | [[x0], [x1]] => tree_Same_s x0 x1 | _ => none⟩ else
  none
def A_law12_TreeKids : Ann := { order := (fun r => if r = 15 then some ([], [0, 1, 2, 3, 4, 5, 6, 7, 8, 9, 10, 11, 12, 13, 14, 15, 16, 17, 18, 19, 20, 21, 22, 23, 24, 25, 26, 27], []) else if r = 20 then some ([], [0, 1, 2, 3, 4, 5, 6, 7, 8, 9, 10, 11, 12, 13, 14, 15, 16, 17, 18, 19, 20, 21, 22, 23, 24, 25, 26], []) else none), join := (fun r => if r = 1 then some [28] else if r = 15 then some [100] else if r = 20 then some [4] else none), loop := (fun r => if r = 6 then ([(5, .I), (6, .M), (7, .I)], [[(5, .I)], [(4, .I)]]) else if r = 12 then ([(9, .I)], [[], [(4, .I)]]) else ([], [])), scalar := true }
theorem run_law12_TreeKids (a0 a1 a2 a3 a4 : IV) : run Try.prog (Γ_law12_TreeKids) C0 A_law12_TreeKids Try.f12 [[a0], [a1, a2, a3, a4]] = law12_TreeKids_s a0 a1 a2 a3 a4 := by kernel_rfl

def Γ_law12_TreeHangs : FuncId → Option FSig := fun f =>
  if f = n_ref12_Few then some ⟨.pure, true, [1], 0, fun l => match l with | [[x0]] => ref12_Few_s x0 | _ => none⟩ else
  if f = n_ref12_May then some ⟨.pure, true, [1], 0, fun l => match l with | [[x0]] => ref12_May_s x0 | _ => none⟩ else
  if f = n_ref12_One then some ⟨.pure, true, [1], 0, fun l => match l with | [[x0, x1, x2, x3]] => ref12_One_s x0 x1 x2 x3 | _ => none⟩ else
  if f = n_law12_live then some ⟨.pure, true, [1], 0, fun l => match l with | [] => law12_live_s | _ => none⟩ else
  if f = n_tree_Set then some ⟨.pure, false, [1], 0, fun l => match l with | [[x0], [x1, x2, x3, x4]] => tree_Set_s x0 x1 x2 x3 x4 | _ => none⟩ else
  if f = n_tree_Above then some ⟨.pure, true, [1], 0, fun l => match l with | [[x0], [x1], [x2]] => tree_Above_s x0 x1 x2 | _ => none⟩ else
  if f = n_tree_May then some ⟨.pure, true, [1], 0, fun l => match l with | [[x0]] => tree_May_s x0 | _ => none⟩ else
  none
def A_law12_TreeHangs : Ann := { order := (fun r => if r = 9 then some ([], [0, 1, 2, 3, 4, 5, 6, 7, 8, 9, 10, 11, 12, 13, 14, 15, 16, 17, 18, 19, 20, 21, 22], []) else none), join := (fun r => if r = 1 then some [27] else if r = 4 then some [8] else if r = 9 then some [6] else none), scalar := true }
theorem run_law12_TreeHangs (a0 a1 a2 a3 a4 a5 : IV) : run Try.prog (Γ_law12_TreeHangs) C0 A_law12_TreeHangs Try.f13 [[a0], [a1, a2, a3, a4], [a5]] = law12_TreeHangs_s a0 a1 a2 a3 a4 a5 := by kernel_rfl

def Γ_law12_TreeDrops : FuncId → Option FSig := fun f =>
  if f = n_ref12_Few then some ⟨.pure, true, [1], 0, fun l => match l with | [[x0]] => ref12_Few_s x0 | _ => none⟩ else
  if f = n_ref12_May then some ⟨.pure, true, [1], 0, fun l => match l with | [[x0]] => ref12_May_s x0 | _ => none⟩ else
  if f = n_law12_live then some ⟨.pure, true, [1], 0, fun l => match l with | [] => law12_live_s | _ => none⟩ else
  if f = n_tree_Drop then some ⟨.pure, false, [1], 0, fun l => match l with | [[x0], [x1]] => tree_Drop_s x0 x1 | _ => none⟩ else
  if f = n_tree_May then some ⟨.pure, true, [1], 0, fun l => match l with | [[x0]] => tree_May_s x0 | _ => none⟩ else
  if f = n_tree_Find then some ⟨.pure, true, [4, 1], 0, fun l => match l with | [[x0], [x1]] => tree_Find_s x0 x1 | _ => none⟩ else
  if f = n_tree_Reached then some ⟨.pure, false, [1], 0, fun l => match l with | [[x0]] => tree_Reached_s x0 | _ => none⟩ else
  if f = n_tree_Above then some ⟨.pure, true, [1], 0, fun l => match l with | [[x0], [x1], [x2]] => tree_Above_s x0 x1 x2 | _ => none⟩ else
  if f = n_ref05_Same then some ⟨.pure, true, [1], 0, fun l => match l with | [[x0], [x1]] => ref05_Same_s x0 x1 | _ => none⟩ else
  none
def A_law12_TreeDrops : Ann := { join := (fun r => if r = 1 then some [24] else if r = 12 then some [65] else if r = 15 then some [4] else none), loop := (fun r => if r = 10 then ([(8, (.B 1)), (10, .I)], [[(8, (.B 1))]]) else ([], [])), scalar := true }
theorem run_law12_TreeDrops (a0 a1 : IV) : run Try.prog (Γ_law12_TreeDrops) C0 A_law12_TreeDrops Try.f14 [[a0], [a1]] = law12_TreeDrops_s a0 a1 := by kernel_rfl

end Go.AM

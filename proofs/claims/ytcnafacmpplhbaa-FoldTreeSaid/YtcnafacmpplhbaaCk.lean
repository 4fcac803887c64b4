/- Each function that is reached runs in the abstract machine as printed. -/
import Derived.Test.YtcnafacmpplhbaaSh
import Derived.Test.YtcnafacmpplhbaaProg
set_option linter.unusedVariables false
set_option maxRecDepth 100000
namespace Go.AM
open Go.Proofs
def Γ_word_head : FuncId → Option FSig := fun f =>
  none
def A_word_head : Ann := { scalar := true }
theorem run_word_head (a0 : IV) : run Try.prog (Γ_word_head) C0 A_word_head Try.f104 [[a0]] = word_head_s a0 := by kernel_rfl

def Γ_word_signs : FuncId → Option FSig := fun f =>
  if f = n_word_head then some ⟨.pure, true, [1, 1, 1, 1], 0, fun l => match l with | [[x0]] => word_head_s x0 | _ => none⟩ else
  none
def A_word_signs : Ann := { join := (fun r => if r = 4 then some [34] else if r = 8 then some [56] else none), loop := (fun r => if r = 2 then ([(4, .I), (5, .I)], [[(4, .I), (5, .I)]]) else if r = 6 then ([(7, .I), (8, .I), (45, .I)], [[], []]) else ([], [])), scalar := true }
theorem run_word_signs (a0 : IV) : run Try.prog (Γ_word_signs) C0 A_word_signs Try.f84 [[a0]] = word_signs_s a0 := by kernel_rfl

def Γ_word_Valid : FuncId → Option FSig := fun f =>
  if f = n_word_signs then some ⟨.pure, true, [1, 1], 0, fun l => match l with | [[x0]] => word_signs_s x0 | _ => none⟩ else
  none
def A_word_Valid : Ann := { scalar := true }
theorem run_word_Valid (a0 : IV) : run Try.prog (Γ_word_Valid) C0 A_word_Valid Try.f61 [[a0]] = word_Valid_s a0 := by kernel_rfl

def Γ_tree_One : FuncId → Option FSig := fun f =>
  if f = n_word_Valid then some ⟨.pure, true, [1], 0, fun l => match l with | [[x0]] => word_Valid_s x0 | _ => none⟩ else
  none
def A_tree_One : Ann := { join := (fun r => if r = 1 then some [2] else none), scalar := true }
theorem run_tree_One (a0 a1 a2 a3 : IV) : run Try.prog (Γ_tree_One) C0 A_tree_One Try.f36 [[a0, a1, a2, a3]] = tree_One_s a0 a1 a2 a3 := by kernel_rfl

def Γ_ref12_Few : FuncId → Option FSig := fun f =>
  none
def A_ref12_Few : Ann := { loop := (fun r => if r = 4 then ([(3, .I)], [[], [(2, .I)]]) else ([], [])), scalar := true }
theorem run_ref12_Few (a0 : IV) : run Try.prog (Γ_ref12_Few) C0 A_ref12_Few Try.f15 [[a0]] = ref12_Few_s a0 := by kernel_rfl

def Γ_fold_Barred : FuncId → Option FSig := fun f =>
  if f = n_tree_Above then some ⟨.pure, true, [1], 0, fun l => match l with | [[x0], [x1], [x2]] => tree_Above_s x0 x1 x2 | _ => none⟩ else
  none
def A_fold_Barred : Ann := { join := (fun r => if r = 1 then some [4] else none), scalar := true }
theorem run_fold_Barred (a0 a1 a2 a3 a4 a5 a6 : IV) : run Try.prog (Γ_fold_Barred) C0 A_fold_Barred Try.f20 [[a0], [a1, a2, a3, a4, a5, a6]] = fold_Barred_s a0 a1 a2 a3 a4 a5 a6 := by kernel_rfl

def Γ_moves_Row : FuncId → Option FSig := fun f =>
  none
def A_moves_Row : Ann := { scalar := true }
theorem run_moves_Row (a0 a1 a2 a3 a4 a5 : IV) : run Try.prog (Γ_moves_Row) C0 A_moves_Row Try.f52 [[a0, a1, a2, a3, a4, a5]] = moves_Row_s a0 a1 a2 a3 a4 a5 := by kernel_rfl

def Γ_slices_IndexFunc_Row (C : IV → List Nat → List (List IV) → Option (List IV)) : FuncId → Option FSig := fun f =>
  none
def A_slices_IndexFunc_Row : Ann := { loop := (fun r => if r = 2 then ([(8, .I)], [[], [(4, .I)]]) else ([], [])), scalar := true }
theorem run_slices_IndexFunc_Row (C : IV → List Nat → List (List IV) → Option (List IV)) (a0 a1 : IV) : run Try.prog (Γ_slices_IndexFunc_Row C) C A_slices_IndexFunc_Row Try.f70 [[a0], [a1]] = slices_IndexFunc_Row_s C a0 a1 := by kernel_rfl

def Γ_tree_place_1 : FuncId → Option FSig := fun f =>
  none
def A_tree_place_1 : Ann := { scalar := true }
theorem run_tree_place_1 (a0 a1 a2 a3 a4 : IV) : run Try.prog (Γ_tree_place_1) C0 A_tree_place_1 Try.f81 [[a0, a1, a2, a3], [a4]] = tree_place_1_s a0 a1 a2 a3 a4 := by kernel_rfl

def Γ_tree_place : FuncId → Option FSig := fun f =>
  if f = n_slices_IndexFunc_Row then some ⟨.pure, true, [1], 0, fun l => match l with | [[x0], [x1]] => slices_IndexFunc_Row_s (Cx_tree_place) x0 x1 | _ => none⟩ else
  none
def A_tree_place : Ann := { scalar := true }
theorem run_tree_place (a0 a1 : IV) : run Try.prog (Γ_tree_place) (Cx_tree_place) A_tree_place Try.f57 [[a0], [a1]] = tree_place_s a0 a1 := by kernel_rfl

def Γ_tree_Set_1 : FuncId → Option FSig := fun f =>
  none
def A_tree_Set_1 : Ann := { scalar := true }
theorem run_tree_Set_1 (a0 a1 a2 a3 a4 : IV) : run Try.prog (Γ_tree_Set_1) C0 A_tree_Set_1 Try.f71 [[a0, a1, a2, a3], [a4]] = tree_Set_1_s a0 a1 a2 a3 a4 := by kernel_rfl

def Γ_tree_Set : FuncId → Option FSig := fun f =>
  if f = n_slices_Clone_Row then some ⟨.own, false, [1], 4, fun l => match l with | [[x0]] => slices_Clone_Row_s x0 | _ => none⟩ else
  if f = n_tree_place then some ⟨.pure, true, [1, 1], 0, fun l => match l with | [[x0], [x1]] => tree_place_s x0 x1 | _ => none⟩ else
  if f = n_slices_IndexFunc_Row then some ⟨.pure, true, [1], 0, fun l => match l with | [[x0], [x1]] => slices_IndexFunc_Row_s (Cx_tree_Set) x0 x1 | _ => none⟩ else
  if f = n_slices_Insert_Row then some ⟨.cons, false, [1], 4, fun l => match l with | [[x0], [x1], [x2]] => slices_Insert_Row_s x0 x1 x2 | _ => none⟩ else
  none
def A_tree_Set : Ann := {  }
theorem run_tree_Set (a0 a1 a2 a3 a4 : IV) : run Try.prog (Γ_tree_Set) (Cx_tree_Set) A_tree_Set Try.f44 [[a0], [a1, a2, a3, a4]] = tree_Set_s a0 a1 a2 a3 a4 := by kernel_rfl

def Γ_fold_Do : FuncId → Option FSig := fun f =>
  if f = n_fold_Barred then some ⟨.pure, true, [1], 0, fun l => match l with | [[x0], [x1, x2, x3, x4, x5, x6]] => fold_Barred_s x0 x1 x2 x3 x4 x5 x6 | _ => none⟩ else
  if f = n_moves_Row then some ⟨.pure, true, [4], 0, fun l => match l with | [[x0, x1, x2, x3, x4, x5]] => moves_Row_s x0 x1 x2 x3 x4 x5 | _ => none⟩ else
  if f = n_tree_Set then some ⟨.pure, false, [1], 0, fun l => match l with | [[x0], [x1, x2, x3, x4]] => tree_Set_s x0 x1 x2 x3 x4 | _ => none⟩ else
  none
def A_fold_Do : Ann := {  }
theorem run_fold_Do (a0 a1 a2 a3 a4 a5 a6 : IV) : run Try.prog (Γ_fold_Do) C0 A_fold_Do Try.f17 [[a0], [a1, a2, a3, a4, a5, a6]] = fold_Do_s a0 a1 a2 a3 a4 a5 a6 := by kernel_rfl

def Γ_fold_All : FuncId → Option FSig := fun f =>
  if f = n_fold_Do then some ⟨.pure, false, [1, 1], 0, fun l => match l with | [[x0], [x1, x2, x3, x4, x5, x6]] => fold_Do_s x0 x1 x2 x3 x4 x5 x6 | _ => none⟩ else
  none
def A_fold_All : Ann := { loop := (fun r => if r = 2 then ([(0, .I), (9, .I)], [[(0, .I)]]) else ([], [])) }
theorem run_fold_All (a0 a1 : IV) : run Try.prog (Γ_fold_All) C0 A_fold_All Try.f23 [[a0], [a1]] = fold_All_s a0 a1 := by kernel_rfl

def Γ_ref05_Same : FuncId → Option FSig := fun f =>
  none
def A_ref05_Same : Ann := { order := (fun r => if r = 6 then some ([], [0, 1, 2, 3, 4, 5, 6, 7, 8], []) else none), loop := (fun r => if r = 4 then ([(5, .I)], [[], [(4, .I)]]) else ([], [])), scalar := true }
theorem run_ref05_Same (a0 a1 : IV) : run Try.prog (Γ_ref05_Same) C0 A_ref05_Same Try.f25 [[a0], [a1]] = ref05_Same_s a0 a1 := by kernel_rfl

def Γ_law14_live : FuncId → Option FSig := fun f =>
  if f = n_fold_All then some ⟨.pure, false, [1], 0, fun l => match l with | [[x0], [x1]] => fold_All_s x0 x1 | _ => none⟩ else
  if f = n_fold_Do then some ⟨.pure, false, [1, 1], 0, fun l => match l with | [[x0], [x1, x2, x3, x4, x5, x6]] => fold_Do_s x0 x1 x2 x3 x4 x5 x6 | _ => none⟩ else
  if f = n_fold_Barred then some ⟨.pure, true, [1], 0, fun l => match l with | [[x0], [x1, x2, x3, x4, x5, x6]] => fold_Barred_s x0 x1 x2 x3 x4 x5 x6 | _ => none⟩ else
  if f = n_fold_Nodes then some ⟨.pure, false, [1], 0, fun l => match l with | [[x0], [x1]] => fold_Nodes_s x0 x1 | _ => none⟩ else
  if f = n_ref05_Same then some ⟨.pure, true, [1], 0, fun l => match l with | [[x0], [x1]] => ref05_Same_s x0 x1 | _ => none⟩ else
  none
def A_law14_live : Ann := { join := (fun r => if r = 6 then some [33] else if r = 8 then some [0] else none), scalar := true }
theorem run_law14_live : run Try.prog (Γ_law14_live) C0 A_law14_live Try.f16 [] = law14_live_s := by kernel_rfl

def Γ_ref12_place : FuncId → Option FSig := fun f =>
  none
def A_ref12_place : Ann := { loop := (fun r => if r = 2 then ([(5, .I)], [[], [(4, .I)]]) else ([], [])), scalar := true }
theorem run_ref12_place (a0 a1 : IV) : run Try.prog (Γ_ref12_place) C0 A_ref12_place Try.f63 [[a0], [a1]] = ref12_place_s a0 a1 := by kernel_rfl

def Γ_ref12_Find : FuncId → Option FSig := fun f =>
  if f = n_ref12_place then some ⟨.pure, true, [1], 0, fun l => match l with | [[x0], [x1]] => ref12_place_s x0 x1 | _ => none⟩ else
  none
def A_ref12_Find : Ann := { scalar := true }
theorem run_ref12_Find (a0 a1 : IV) : run Try.prog (Γ_ref12_Find) C0 A_ref12_Find Try.f38 [[a0], [a1]] = ref12_Find_s a0 a1 := by kernel_rfl

def Γ_ref12_Above : FuncId → Option FSig := fun f =>
  if f = n_ref12_Find then some ⟨.pure, true, [4, 1], 0, fun l => match l with | [[x0], [x1]] => ref12_Find_s x0 x1 | _ => none⟩ else
  none
def A_ref12_Above : Ann := { loop := (fun r => if r = 2 then ([(2, .I), (7, .I)], [[], [(6, .I)]]) else ([], [])), scalar := true }
theorem run_ref12_Above (a0 a1 a2 : IV) : run Try.prog (Γ_ref12_Above) C0 A_ref12_Above Try.f46 [[a0], [a1], [a2]] = ref12_Above_s a0 a1 a2 := by kernel_rfl

def Γ_ref14_Barred : FuncId → Option FSig := fun f =>
  if f = n_ref12_Above then some ⟨.pure, true, [1], 0, fun l => match l with | [[x0], [x1], [x2]] => ref12_Above_s x0 x1 x2 | _ => none⟩ else
  none
def A_ref14_Barred : Ann := { join := (fun r => if r = 1 then some [4] else none), scalar := true }
theorem run_ref14_Barred (a0 a1 a2 a3 a4 a5 a6 : IV) : run Try.prog (Γ_ref14_Barred) C0 A_ref14_Barred Try.f21 [[a0], [a1, a2, a3, a4, a5, a6]] = ref14_Barred_s a0 a1 a2 a3 a4 a5 a6 := by kernel_rfl

def Γ_ref13_Row : FuncId → Option FSig := fun f =>
  none
def A_ref13_Row : Ann := { scalar := true }
theorem run_ref13_Row (a0 a1 a2 a3 a4 a5 : IV) : run Try.prog (Γ_ref13_Row) C0 A_ref13_Row Try.f33 [[a0, a1, a2, a3, a4, a5]] = ref13_Row_s a0 a1 a2 a3 a4 a5 := by kernel_rfl

def Γ_ref12_Set : FuncId → Option FSig := fun f =>
  if f = n_ref12_place then some ⟨.pure, true, [1], 0, fun l => match l with | [[x0], [x1]] => ref12_place_s x0 x1 | _ => none⟩ else
  none
def A_ref12_Set : Ann := { order := (fun r => if r = 7 then some ([], [0, 1, 2, 3, 4, 5, 6, 7, 8, 9, 10, 11, 12, 13], []) else none), join := (fun r => if r = 7 then some [36] else none), loop := (fun r => if r = 7 then ([(7, .I)], [[(7, .I)]]) else ([], [])) }
theorem run_ref12_Set (a0 a1 a2 a3 a4 : IV) : run Try.prog (Γ_ref12_Set) C0 A_ref12_Set Try.f45 [[a0], [a1, a2, a3, a4]] = ref12_Set_s a0 a1 a2 a3 a4 := by kernel_rfl

def Γ_ref14_Do : FuncId → Option FSig := fun f =>
  if f = n_ref14_Barred then some ⟨.pure, true, [1], 0, fun l => match l with | [[x0], [x1, x2, x3, x4, x5, x6]] => ref14_Barred_s x0 x1 x2 x3 x4 x5 x6 | _ => none⟩ else
  if f = n_ref13_Row then some ⟨.pure, true, [4], 0, fun l => match l with | [[x0, x1, x2, x3, x4, x5]] => ref13_Row_s x0 x1 x2 x3 x4 x5 | _ => none⟩ else
  if f = n_ref12_Set then some ⟨.pure, false, [1], 0, fun l => match l with | [[x0], [x1, x2, x3, x4]] => ref12_Set_s x0 x1 x2 x3 x4 | _ => none⟩ else
  none
def A_ref14_Do : Ann := {  }
theorem run_ref14_Do (a0 a1 a2 a3 a4 a5 a6 : IV) : run Try.prog (Γ_ref14_Do) C0 A_ref14_Do Try.f18 [[a0], [a1, a2, a3, a4, a5, a6]] = ref14_Do_s a0 a1 a2 a3 a4 a5 a6 := by kernel_rfl

def Γ_ref01_None : FuncId → Option FSig := fun f =>
  none
def A_ref01_None : Ann := { scalar := true }
theorem run_ref01_None : run Try.prog (Γ_ref01_None) C0 A_ref01_None Try.f101 [] = ref01_None_s := by kernel_rfl

def Γ_ref01_Minus : FuncId → Option FSig := fun f =>
  none
def A_ref01_Minus : Ann := { join := (fun r => if r = 1 then some [2] else none), scalar := true }
theorem run_ref01_Minus (a0 : IV) : run Try.prog (Γ_ref01_Minus) C0 A_ref01_Minus Try.f102 [[a0]] = ref01_Minus_s a0 := by kernel_rfl

def Γ_ref01_top : FuncId → Option FSig := fun f =>
  none
def A_ref01_top : Ann := { scalar := true }
theorem run_ref01_top : run Try.prog (Γ_ref01_top) C0 A_ref01_top Try.f103 [] = ref01_top_s := by kernel_rfl

def Γ_ref01_Bits : FuncId → Option FSig := fun f =>
  if f = n_ref01_None then some ⟨.pure, true, [1], 0, fun l => match l with | [] => ref01_None_s | _ => none⟩ else
  if f = n_ref01_Minus then some ⟨.pure, true, [1], 0, fun l => match l with | [[x0]] => ref01_Minus_s x0 | _ => none⟩ else
  if f = n_ref01_top then some ⟨.pure, true, [1], 0, fun l => match l with | [] => ref01_top_s | _ => none⟩ else
  none
def A_ref01_Bits : Ann := { join := (fun r => if r = 15 then some [35] else none), loop := (fun r => if r = 12 then ([(0, .I), (4, .I)], [[(0, .I), (4, .I)]]) else if r = 15 then ([(0, .I), (4, .I)], [[(0, .I), (4, .I)]]) else if r = 22 then ([(0, .I), (5, .I)], [[(0, .I)]]) else ([], [])), scalar := true }
theorem run_ref01_Bits (a0 : IV) : run Try.prog (Γ_ref01_Bits) C0 A_ref01_Bits Try.f82 [[a0]] = ref01_Bits_s a0 := by kernel_rfl

def Γ_ref01_Same : FuncId → Option FSig := fun f =>
  if f = n_ref01_Bits then some ⟨.pure, true, [1], 0, fun l => match l with | [[x0]] => ref01_Bits_s x0 | _ => none⟩ else
  none
def A_ref01_Same : Ann := { scalar := true }
theorem run_ref01_Same (a0 a1 : IV) : run Try.prog (Γ_ref01_Same) C0 A_ref01_Same Try.f58 [[a0], [a1]] = ref01_Same_s a0 a1 := by kernel_rfl

def Γ_ref12_Alike : FuncId → Option FSig := fun f =>
  if f = n_ref01_Same then some ⟨.pure, true, [1], 0, fun l => match l with | [[x0], [x1]] => ref01_Same_s x0 x1 | _ => none⟩ else
  none
def A_ref12_Alike : Ann := { join := (fun r => if r = 1 then some [4] else none), scalar := true }
theorem run_ref12_Alike (a0 a1 a2 a3 a4 a5 a6 a7 : IV) : run Try.prog (Γ_ref12_Alike) C0 A_ref12_Alike Try.f31 [[a0, a1, a2, a3], [a4, a5, a6, a7]] = ref12_Alike_s a0 a1 a2 a3 a4 a5 a6 a7 := by kernel_rfl

def Γ_ref12_Same : FuncId → Option FSig := fun f =>
  if f = n_ref12_Alike then some ⟨.pure, true, [1], 0, fun l => match l with | [[x0, x1, x2, x3], [x4, x5, x6, x7]] => ref12_Alike_s x0 x1 x2 x3 x4 x5 x6 x7 | _ => none⟩ else
  none
def A_ref12_Same : Ann := { order := (fun r => if r = 6 then some ([], [0, 1, 2, 3, 4, 5, 6, 7, 8, 9], []) else none), loop := (fun r => if r = 4 then ([(5, .I)], [[], [(4, .I)]]) else ([], [])), scalar := true }
theorem run_ref12_Same (a0 a1 : IV) : run Try.prog (Γ_ref12_Same) C0 A_ref12_Same Try.f19 [[a0], [a1]] = ref12_Same_s a0 a1 := by kernel_rfl

def Γ_law14_FoldDoes : FuncId → Option FSig := fun f =>
  if f = n_ref12_Few then some ⟨.pure, true, [1], 0, fun l => match l with | [[x0]] => ref12_Few_s x0 | _ => none⟩ else
  if f = n_law14_live then some ⟨.pure, true, [1], 0, fun l => match l with | [] => law14_live_s | _ => none⟩ else
  if f = n_fold_Do then some ⟨.pure, false, [1, 1], 0, fun l => match l with | [[x0], [x1, x2, x3, x4, x5, x6]] => fold_Do_s x0 x1 x2 x3 x4 x5 x6 | _ => none⟩ else
  if f = n_ref14_Do then some ⟨.pure, false, [1, 1], 0, fun l => match l with | [[x0], [x1, x2, x3, x4, x5, x6]] => ref14_Do_s x0 x1 x2 x3 x4 x5 x6 | _ => none⟩ else
  if f = n_ref12_Same then some ⟨.pure, true, [1], 0, fun l => match l with | [[x0], [x1]] => ref12_Same_s x0 x1 | _ => none⟩ else
  if f = n_fold_Barred then some ⟨.pure, true, [1], 0, fun l => match l with | [[x0], [x1, x2, x3, x4, x5, x6]] => fold_Barred_s x0 x1 x2 x3 x4 x5 x6 | _ => none⟩ else
  if f = n_ref14_Barred then some ⟨.pure, true, [1], 0, fun l => match l with | [[x0], [x1, x2, x3, x4, x5, x6]] => ref14_Barred_s x0 x1 x2 x3 x4 x5 x6 | _ => none⟩ else
  none
def A_law14_FoldDoes : Ann := { order := (fun r => if r = 5 then some ([], [0, 1, 2, 3, 4, 5, 6, 7, 8, 9, 10, 11, 12, 13, 14, 15, 16, 17, 18, 19, 20], []) else none), join := (fun r => if r = 1 then some [17] else if r = 5 then some [4] else none), scalar := true }
theorem run_law14_FoldDoes (a0 a1 a2 a3 a4 a5 a6 : IV) : run Try.prog (Γ_law14_FoldDoes) C0 A_law14_FoldDoes Try.f3 [[a0], [a1, a2, a3, a4, a5, a6]] = law14_FoldDoes_s a0 a1 a2 a3 a4 a5 a6 := by kernel_rfl

def Γ_ref13_Few : FuncId → Option FSig := fun f =>
  none
def A_ref13_Few : Ann := { loop := (fun r => if r = 4 then ([(5, .I)], [[], [(4, .I)]]) else ([], [])), scalar := true }
theorem run_ref13_Few (a0 a1 : IV) : run Try.prog (Γ_ref13_Few) C0 A_ref13_Few Try.f22 [[a0], [a1]] = ref13_Few_s a0 a1 := by kernel_rfl

def Γ_ref14_All : FuncId → Option FSig := fun f =>
  if f = n_ref14_Do then some ⟨.pure, false, [1, 1], 0, fun l => match l with | [[x0], [x1, x2, x3, x4, x5, x6]] => ref14_Do_s x0 x1 x2 x3 x4 x5 x6 | _ => none⟩ else
  none
def A_ref14_All : Ann := { loop := (fun r => if r = 3 then ([(5, .I), (6, .I)], [[(5, .I)]]) else ([], [])) }
theorem run_ref14_All (a0 a1 : IV) : run Try.prog (Γ_ref14_All) C0 A_ref14_All Try.f24 [[a0], [a1]] = ref14_All_s a0 a1 := by kernel_rfl

def Γ_ref14_put : FuncId → Option FSig := fun f =>
  none
def A_ref14_put : Ann := { join := (fun r => if r = 2 then some [18] else if r = 4 then some [32] else none), loop := (fun r => if r = 2 then ([(5, .I)], [[(5, .I)]]) else ([], [])) }
theorem run_ref14_put (a0 a1 : IV) : run Try.prog (Γ_ref14_put) C0 A_ref14_put Try.f55 [[a0], [a1]] = ref14_put_s a0 a1 := by kernel_rfl

def Γ_ref14_Nodes : FuncId → Option FSig := fun f =>
  if f = n_ref14_put then some ⟨.pure, false, [1], 0, fun l => match l with | [[x0], [x1]] => ref14_put_s x0 x1 | _ => none⟩ else
  none
def A_ref14_Nodes : Ann := { order := (fun r => if r = 5 then some ([], [0, 1, 2, 3, 4, 5, 6, 7, 8, 9, 10, 11, 12, 13], []) else if r = 9 then some ([], [0, 1, 2, 3, 4, 5, 6, 7, 8, 9, 10, 11, 12, 13], []) else none), loop := (fun r => if r = 3 then ([(5, .I), (6, .I)], [[(5, .I)]]) else if r = 7 then ([(5, .I), (7, .I)], [[(5, .I)]]) else ([], [])) }
theorem run_ref14_Nodes (a0 a1 : IV) : run Try.prog (Γ_ref14_Nodes) C0 A_ref14_Nodes Try.f27 [[a0], [a1]] = ref14_Nodes_s a0 a1 := by kernel_rfl

def Γ_law14_FoldAll : FuncId → Option FSig := fun f =>
  if f = n_ref12_Few then some ⟨.pure, true, [1], 0, fun l => match l with | [[x0]] => ref12_Few_s x0 | _ => none⟩ else
  if f = n_ref13_Few then some ⟨.pure, true, [1], 0, fun l => match l with | [[x0], [x1]] => ref13_Few_s x0 x1 | _ => none⟩ else
  if f = n_law14_live then some ⟨.pure, true, [1], 0, fun l => match l with | [] => law14_live_s | _ => none⟩ else
  if f = n_fold_All then some ⟨.pure, false, [1], 0, fun l => match l with | [[x0], [x1]] => fold_All_s x0 x1 | _ => none⟩ else
  if f = n_ref14_All then some ⟨.pure, false, [1], 0, fun l => match l with | [[x0], [x1]] => ref14_All_s x0 x1 | _ => none⟩ else
  if f = n_ref12_Same then some ⟨.pure, true, [1], 0, fun l => match l with | [[x0], [x1]] => ref12_Same_s x0 x1 | _ => none⟩ else
  if f = n_fold_Nodes then some ⟨.pure, false, [1], 0, fun l => match l with | [[x0], [x1]] => fold_Nodes_s x0 x1 | _ => none⟩ else
  if f = n_ref14_Nodes then some ⟨.pure, false, [1], 0, fun l => match l with | [[x0], [x1]] => ref14_Nodes_s x0 x1 | _ => none⟩ else
  if f = n_ref05_Same then some ⟨.pure, true, [1], 0, fun l => match l with | [[x0], [x1]] => ref05_Same_s x0 x1 | _ => none⟩ else
  none
def A_law14_FoldAll : Ann := { join := (fun r => if r = 1 then some [12] else if r = 3 then some [4] else none), scalar := true }
theorem run_law14_FoldAll (a0 a1 : IV) : run Try.prog (Γ_law14_FoldAll) C0 A_law14_FoldAll Try.f4 [[a0], [a1]] = law14_FoldAll_s a0 a1 := by kernel_rfl

def Γ_law14_FoldParts : FuncId → Option FSig := fun f =>
  if f = n_ref12_Few then some ⟨.pure, true, [1], 0, fun l => match l with | [[x0]] => ref12_Few_s x0 | _ => none⟩ else
  if f = n_ref13_Few then some ⟨.pure, true, [1], 0, fun l => match l with | [[x0], [x1]] => ref13_Few_s x0 x1 | _ => none⟩ else
  if f = n_law14_live then some ⟨.pure, true, [1], 0, fun l => match l with | [] => law14_live_s | _ => none⟩ else
  if f = n_fold_All then some ⟨.pure, false, [1], 0, fun l => match l with | [[x0], [x1]] => fold_All_s x0 x1 | _ => none⟩ else
  if f = n_ref12_Same then some ⟨.pure, true, [1], 0, fun l => match l with | [[x0], [x1]] => ref12_Same_s x0 x1 | _ => none⟩ else
  if f = n_fold_Barred then some ⟨.pure, true, [1], 0, fun l => match l with | [[x0], [x1, x2, x3, x4, x5, x6]] => fold_Barred_s x0 x1 x2 x3 x4 x5 x6 | _ => none⟩ else
  if f = n_fold_Do then some ⟨.pure, false, [1, 1], 0, fun l => match l with | [[x0], [x1, x2, x3, x4, x5, x6]] => fold_Do_s x0 x1 x2 x3 x4 x5 x6 | _ => none⟩ else
  none
def A_law14_FoldParts : Ann := { join := (fun r => if r = 1 then some [29] else none), loop := (fun r => if r = 10 then ([(9, (.B 6)), (10, .I), (11, .I)], [[(9, (.B 6)), (10, .I)]]) else ([], [])), scalar := true }
theorem run_law14_FoldParts (a0 a1 a2 : IV) : run Try.prog (Γ_law14_FoldParts) C0 A_law14_FoldParts Try.f5 [[a0], [a1], [a2]] = law14_FoldParts_s a0 a1 a2 := by kernel_rfl

def Γ_ref04_in : FuncId → Option FSig := fun f =>
  none
def A_ref04_in : Ann := { join := (fun r => if r = 1 then some [8] else none), scalar := true }
theorem run_ref04_in (a0 a1 a2 a3 : IV) : run Try.prog (Γ_ref04_in) C0 A_ref04_in Try.f126 [[a0], [a1], [a2], [a3]] = ref04_in_s a0 a1 a2 a3 := by kernel_rfl

def Γ_ref04_sign : FuncId → Option FSig := fun f =>
  if f = n_ref04_in then some ⟨.pure, true, [1], 0, fun l => match l with | [[x0], [x1], [x2], [x3]] => ref04_in_s x0 x1 x2 x3 | _ => none⟩ else
  none
def A_ref04_sign : Ann := { join := (fun r => if r = 3 then some [16] else if r = 5 then some [64] else if r = 7 then some [107] else none), scalar := true }
theorem run_ref04_sign (a0 a1 : IV) : run Try.prog (Γ_ref04_sign) C0 A_ref04_sign Try.f105 [[a0], [a1]] = ref04_sign_s a0 a1 := by kernel_rfl

def Γ_ref04_First : FuncId → Option FSig := fun f =>
  if f = n_ref04_sign then some ⟨.pure, true, [1], 0, fun l => match l with | [[x0], [x1]] => ref04_sign_s x0 x1 | _ => none⟩ else
  none
def A_ref04_First : Ann := { loop := (fun r => if r = 2 then ([(4, .I)], [[], [(2, .I), (3, .I)]]) else ([], [])), scalar := true }
theorem run_ref04_First (a0 : IV) : run Try.prog (Γ_ref04_First) C0 A_ref04_First Try.f85 [[a0]] = ref04_First_s a0 := by kernel_rfl

def Γ_ref04_Valid : FuncId → Option FSig := fun f =>
  if f = n_ref04_First then some ⟨.pure, true, [1, 1], 0, fun l => match l with | [[x0]] => ref04_First_s x0 | _ => none⟩ else
  none
def A_ref04_Valid : Ann := { scalar := true }
theorem run_ref04_Valid (a0 : IV) : run Try.prog (Γ_ref04_Valid) C0 A_ref04_Valid Try.f62 [[a0]] = ref04_Valid_s a0 := by kernel_rfl

def Γ_ref12_One : FuncId → Option FSig := fun f =>
  if f = n_ref04_Valid then some ⟨.pure, true, [1], 0, fun l => match l with | [[x0]] => ref04_Valid_s x0 | _ => none⟩ else
  none
def A_ref12_One : Ann := { join := (fun r => if r = 1 then some [2] else none), scalar := true }
theorem run_ref12_One (a0 a1 a2 a3 : IV) : run Try.prog (Γ_ref12_One) C0 A_ref12_One Try.f37 [[a0, a1, a2, a3]] = ref12_One_s a0 a1 a2 a3 := by kernel_rfl

def Γ_ref12_May : FuncId → Option FSig := fun f =>
  if f = n_ref12_One then some ⟨.pure, true, [1], 0, fun l => match l with | [[x0, x1, x2, x3]] => ref12_One_s x0 x1 x2 x3 | _ => none⟩ else
  if f = n_ref12_Above then some ⟨.pure, true, [1], 0, fun l => match l with | [[x0], [x1], [x2]] => ref12_Above_s x0 x1 x2 | _ => none⟩ else
  none
def A_ref12_May : Ann := { order := (fun r => if r = 6 then some ([], [0, 1, 2, 3, 4, 5, 6, 7, 8, 9, 10, 11, 12, 13, 14, 15, 16, 17, 18, 19, 20, 21, 22, 23], []) else if r = 11 then some ([], [0, 1, 2, 3, 4, 5, 6, 7, 8, 9, 10, 11], []) else none), join := (fun r => if r = 6 then some [37] else none), loop := (fun r => if r = 4 then ([(3, .I)], [[], [(2, .I)]]) else if r = 9 then ([(4, .I)], [[], [(2, .I)]]) else ([], [])), scalar := true }
theorem run_ref12_May (a0 : IV) : run Try.prog (Γ_ref12_May) C0 A_ref12_May Try.f28 [[a0]] = ref12_May_s a0 := by kernel_rfl

def Γ_ref13_Time : FuncId → Option FSig := fun f =>
  none
def A_ref13_Time : Ann := { join := (fun r => if r = 1 then some [2] else none), scalar := true }
theorem run_ref13_Time (a0 a1 : IV) : run Try.prog (Γ_ref13_Time) C0 A_ref13_Time Try.f56 [[a0, a1]] = ref13_Time_s a0 a1 := by kernel_rfl

def Γ_ref13_One : FuncId → Option FSig := fun f =>
  if f = n_ref13_Time then some ⟨.pure, true, [1], 0, fun l => match l with | [[x0, x1]] => ref13_Time_s x0 x1 | _ => none⟩ else
  if f = n_ref13_Row then some ⟨.pure, true, [4], 0, fun l => match l with | [[x0, x1, x2, x3, x4, x5]] => ref13_Row_s x0 x1 x2 x3 x4 x5 | _ => none⟩ else
  if f = n_ref12_One then some ⟨.pure, true, [1], 0, fun l => match l with | [[x0, x1, x2, x3]] => ref12_One_s x0 x1 x2 x3 | _ => none⟩ else
  none
def A_ref13_One : Ann := { join := (fun r => if r = 1 then some [2] else none), scalar := true }
theorem run_ref13_One (a0 a1 a2 a3 a4 a5 : IV) : run Try.prog (Γ_ref13_One) C0 A_ref13_One Try.f29 [[a0, a1, a2, a3, a4, a5]] = ref13_One_s a0 a1 a2 a3 a4 a5 := by kernel_rfl

def Γ_tree_Find : FuncId → Option FSig := fun f =>
  if f = n_tree_place then some ⟨.pure, true, [1, 1], 0, fun l => match l with | [[x0], [x1]] => tree_place_s x0 x1 | _ => none⟩ else
  none
def A_tree_Find : Ann := { scalar := true }
theorem run_tree_Find (a0 a1 : IV) : run Try.prog (Γ_tree_Find) C0 A_tree_Find Try.f30 [[a0], [a1]] = tree_Find_s a0 a1 := by kernel_rfl

def Γ_law14_FoldOthers : FuncId → Option FSig := fun f =>
  if f = n_ref12_Few then some ⟨.pure, true, [1], 0, fun l => match l with | [[x0]] => ref12_Few_s x0 | _ => none⟩ else
  if f = n_ref12_May then some ⟨.pure, true, [1], 0, fun l => match l with | [[x0]] => ref12_May_s x0 | _ => none⟩ else
  if f = n_ref13_One then some ⟨.pure, true, [1], 0, fun l => match l with | [[x0, x1, x2, x3, x4, x5]] => ref13_One_s x0 x1 x2 x3 x4 x5 | _ => none⟩ else
  if f = n_law14_live then some ⟨.pure, true, [1], 0, fun l => match l with | [] => law14_live_s | _ => none⟩ else
  if f = n_fold_Do then some ⟨.pure, false, [1, 1], 0, fun l => match l with | [[x0], [x1, x2, x3, x4, x5, x6]] => fold_Do_s x0 x1 x2 x3 x4 x5 x6 | _ => none⟩ else
  if f = n_tree_Find then some ⟨.pure, true, [4, 1], 0, fun l => match l with | [[x0], [x1]] => tree_Find_s x0 x1 | _ => none⟩ else
  if f = n_ref12_Alike then some ⟨.pure, true, [1], 0, fun l => match l with | [[x0, x1, x2, x3], [x4, x5, x6, x7]] => ref12_Alike_s x0 x1 x2 x3 x4 x5 x6 x7 | _ => none⟩ else
  if f = n_tree_Above then some ⟨.pure, true, [1], 0, fun l => match l with | [[x0], [x1], [x2]] => tree_Above_s x0 x1 x2 | _ => none⟩ else
  none
def A_law14_FoldOthers : Ann := { order := (fun r => if r = 4 then some ([], [0, 1, 2, 3, 4, 5], []) else none), join := (fun r => if r = 1 then some [33] else if r = 8 then some [69] else if r = 10 then some [92] else none), scalar := true }
theorem run_law14_FoldOthers (a0 a1 a2 a3 a4 a5 a6 a7 a8 : IV) : run Try.prog (Γ_law14_FoldOthers) C0 A_law14_FoldOthers Try.f6 [[a0], [a1, a2, a3, a4, a5, a6], [a7, a8]] = law14_FoldOthers_s a0 a1 a2 a3 a4 a5 a6 a7 a8 := by kernel_rfl

def Γ_law14_FoldTree : FuncId → Option FSig := fun f =>
  if f = n_ref12_Few then some ⟨.pure, true, [1], 0, fun l => match l with | [[x0]] => ref12_Few_s x0 | _ => none⟩ else
  if f = n_ref13_Few then some ⟨.pure, true, [1], 0, fun l => match l with | [[x0], [x1]] => ref13_Few_s x0 x1 | _ => none⟩ else
  if f = n_ref12_May then some ⟨.pure, true, [1], 0, fun l => match l with | [[x0]] => ref12_May_s x0 | _ => none⟩ else
  if f = n_law14_live then some ⟨.pure, true, [1], 0, fun l => match l with | [] => law14_live_s | _ => none⟩ else
  if f = n_ref13_One then some ⟨.pure, true, [1], 0, fun l => match l with | [[x0, x1, x2, x3, x4, x5]] => ref13_One_s x0 x1 x2 x3 x4 x5 | _ => none⟩ else
  if f = n_fold_Do then some ⟨.pure, false, [1, 1], 0, fun l => match l with | [[x0], [x1, x2, x3, x4, x5, x6]] => fold_Do_s x0 x1 x2 x3 x4 x5 x6 | _ => none⟩ else
  if f = n_tree_Find then some ⟨.pure, true, [4, 1], 0, fun l => match l with | [[x0], [x1]] => tree_Find_s x0 x1 | _ => none⟩ else
  if f = n_ref13_Row then some ⟨.pure, true, [4], 0, fun l => match l with | [[x0, x1, x2, x3, x4, x5]] => ref13_Row_s x0 x1 x2 x3 x4 x5 | _ => none⟩ else
  if f = n_ref12_Alike then some ⟨.pure, true, [1], 0, fun l => match l with | [[x0, x1, x2, x3], [x4, x5, x6, x7]] => ref12_Alike_s x0 x1 x2 x3 x4 x5 x6 x7 | _ => none⟩ else
  if f = n_ref12_Same then some ⟨.pure, true, [1], 0, fun l => match l with | [[x0], [x1]] => ref12_Same_s x0 x1 | _ => none⟩ else
  if f = n_tree_May then some ⟨.pure, true, [1], 0, fun l => match l with | [[x0]] => tree_May_s x0 | _ => none⟩ else
  if f = n_fold_All then some ⟨.pure, false, [1], 0, fun l => match l with | [[x0], [x1]] => fold_All_s x0 x1 | _ => none⟩ else
  none
def A_law14_FoldTree : Ann := { order := (fun r => if r = 18 then some ([], [0, 1, 2, 3, 4, 5, 6, 7, 8, 9, 10, 11], []) else none), join := (fun r => if r = 1 then some [26] else if r = 18 then some [92] else if r = 23 then some [115] else none), loop := (fun r => if r = 5 then ([(5, .M), (6, .I)], [[(5, .M)]]) else if r = 10 then ([(5, .M), (7, .I), (8, .I)], [[(5, .M), (7, .I)], [(4, .I)]]) else if r = 26 then ([(13, .I)], [[], [(4, .I)]]) else ([], [])), scalar := true }
theorem run_law14_FoldTree (a0 a1 : IV) : run Try.prog (Γ_law14_FoldTree) C0 A_law14_FoldTree Try.f7 [[a0], [a1]] = law14_FoldTree_s a0 a1 := by kernel_rfl

end Go.AM

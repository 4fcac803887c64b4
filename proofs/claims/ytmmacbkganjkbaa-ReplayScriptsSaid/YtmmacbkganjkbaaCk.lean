/- Each function that is reached runs in the abstract machine as printed. -/
import Derived.Test.YtmmacbkganjkbaaSh
import Derived.Test.YtmmacbkganjkbaaProg
set_option linter.unusedVariables false
set_option maxRecDepth 100000
namespace Go.AM
open Go.Proofs
def Γ_word_head : FuncId → Option FSig := fun f =>
  none
def A_word_head : Ann := { scalar := true }
theorem run_word_head (a0 : IV) : run Try.prog (Γ_word_head) C0 A_word_head Try.f123 [[a0]] = word_head_s a0 := by kernel_rfl

def Γ_word_signs : FuncId → Option FSig := fun f =>
  if f = n_word_head then some ⟨.pure, true, [1, 1, 1, 1], 0, fun l => match l with | [[x0]] => word_head_s x0 | _ => none⟩ else
  none
def A_word_signs : Ann := { join := (fun r => if r = 4 then some [34] else if r = 8 then some [56] else none), loop := (fun r => if r = 2 then ([(4, .I), (5, .I)], [[(4, .I), (5, .I)]]) else if r = 6 then ([(7, .I), (8, .I), (45, .I)], [[], []]) else ([], [])), scalar := true }
theorem run_word_signs (a0 : IV) : run Try.prog (Γ_word_signs) C0 A_word_signs Try.f113 [[a0]] = word_signs_s a0 := by kernel_rfl

def Γ_word_Valid : FuncId → Option FSig := fun f =>
  if f = n_word_signs then some ⟨.pure, true, [1, 1], 0, fun l => match l with | [[x0]] => word_signs_s x0 | _ => none⟩ else
  none
def A_word_Valid : Ann := { scalar := true }
theorem run_word_Valid (a0 : IV) : run Try.prog (Γ_word_Valid) C0 A_word_Valid Try.f101 [[a0]] = word_Valid_s a0 := by kernel_rfl

def Γ_tree_One : FuncId → Option FSig := fun f =>
  if f = n_word_Valid then some ⟨.pure, true, [1], 0, fun l => match l with | [[x0]] => word_Valid_s x0 | _ => none⟩ else
  none
def A_tree_One : Ann := { join := (fun r => if r = 1 then some [2] else none), scalar := true }
theorem run_tree_One (a0 a1 a2 a3 : IV) : run Try.prog (Γ_tree_One) C0 A_tree_One Try.f77 [[a0, a1, a2, a3]] = tree_One_s a0 a1 a2 a3 := by kernel_rfl

def Γ_slices_IndexFunc_Row (C : IV → List Nat → List (List IV) → Option (List IV)) : FuncId → Option FSig := fun f =>
  none
def A_slices_IndexFunc_Row : Ann := { loop := (fun r => if r = 2 then ([(8, .I)], [[], [(4, .I)]]) else ([], [])), scalar := true }
theorem run_slices_IndexFunc_Row (C : IV → List Nat → List (List IV) → Option (List IV)) (a0 a1 : IV) : run Try.prog (Γ_slices_IndexFunc_Row C) C A_slices_IndexFunc_Row Try.f83 [[a0], [a1]] = slices_IndexFunc_Row_s C a0 a1 := by kernel_rfl

def Γ_tree_place_1 : FuncId → Option FSig := fun f =>
  none
def A_tree_place_1 : Ann := { scalar := true }
theorem run_tree_place_1 (a0 a1 a2 a3 a4 : IV) : run Try.prog (Γ_tree_place_1) C0 A_tree_place_1 Try.f94 [[a0, a1, a2, a3], [a4]] = tree_place_1_s a0 a1 a2 a3 a4 := by kernel_rfl

def Γ_tree_place : FuncId → Option FSig := fun f =>
  if f = n_slices_IndexFunc_Row then some ⟨.pure, true, [1], 0, fun l => match l with | [[x0], [x1]] => slices_IndexFunc_Row_s (Cx_tree_place) x0 x1 | _ => none⟩ else
  none
def A_tree_place : Ann := { scalar := true }
theorem run_tree_place (a0 a1 : IV) : run Try.prog (Γ_tree_place) (Cx_tree_place) A_tree_place Try.f66 [[a0], [a1]] = tree_place_s a0 a1 := by kernel_rfl

def Γ_tree_Set_1 : FuncId → Option FSig := fun f =>
  none
def A_tree_Set_1 : Ann := { scalar := true }
theorem run_tree_Set_1 (a0 a1 a2 a3 a4 : IV) : run Try.prog (Γ_tree_Set_1) C0 A_tree_Set_1 Try.f84 [[a0, a1, a2, a3], [a4]] = tree_Set_1_s a0 a1 a2 a3 a4 := by kernel_rfl

def Γ_tree_Set : FuncId → Option FSig := fun f =>
  if f = n_slices_Clone_Row then some ⟨.own, false, [1], 4, fun l => match l with | [[x0]] => slices_Clone_Row_s x0 | _ => none⟩ else
  if f = n_tree_place then some ⟨.pure, true, [1, 1], 0, fun l => match l with | [[x0], [x1]] => tree_place_s x0 x1 | _ => none⟩ else
  if f = n_slices_IndexFunc_Row then some ⟨.pure, true, [1], 0, fun l => match l with | [[x0], [x1]] => slices_IndexFunc_Row_s (Cx_tree_Set) x0 x1 | _ => none⟩ else
  if f = n_slices_Insert_Row then some ⟨.cons, false, [1], 4, fun l => match l with | [[x0], [x1], [x2]] => slices_Insert_Row_s x0 x1 x2 | _ => none⟩ else
  none
def A_tree_Set : Ann := {  }
theorem run_tree_Set (a0 a1 a2 a3 a4 : IV) : run Try.prog (Γ_tree_Set) (Cx_tree_Set) A_tree_Set Try.f57 [[a0], [a1, a2, a3, a4]] = tree_Set_s a0 a1 a2 a3 a4 := by kernel_rfl

def Γ_tree_Drop : FuncId → Option FSig := fun f =>
  if f = n_tree_place then some ⟨.pure, true, [1, 1], 0, fun l => match l with | [[x0], [x1]] => tree_place_s x0 x1 | _ => none⟩ else
  if f = n_slices_Clone_Row then some ⟨.own, false, [1], 4, fun l => match l with | [[x0]] => slices_Clone_Row_s x0 | _ => none⟩ else
  if f = n_slices_Delete_Row then some ⟨.cons, false, [1], 4, fun l => match l with | [[x0], [x1], [x2]] => slices_Delete_Row_s x0 x1 x2 | _ => none⟩ else
  none
def A_tree_Drop : Ann := {  }
theorem run_tree_Drop (a0 a1 : IV) : run Try.prog (Γ_tree_Drop) C0 A_tree_Drop Try.f58 [[a0], [a1]] = tree_Drop_s a0 a1 := by kernel_rfl

def Γ_undo_Undo : FuncId → Option FSig := fun f =>
  if f = n_tree_Set then some ⟨.pure, false, [1], 0, fun l => match l with | [[x0], [x1, x2, x3, x4]] => tree_Set_s x0 x1 x2 x3 x4 | _ => none⟩ else
  if f = n_tree_Drop then some ⟨.pure, false, [1], 0, fun l => match l with | [[x0], [x1]] => tree_Drop_s x0 x1 | _ => none⟩ else
  none
def A_undo_Undo : Ann := {  }
theorem run_undo_Undo (a0 a1 a2 a3 a4 a5 a6 a7 a8 a9 a10 a11 a12 : IV) : run Try.prog (Γ_undo_Undo) C0 A_undo_Undo Try.f20 [[a0], [a1, a2, a3, a4, a5, a6, a7, a8, a9, a10, a11, a12]] = undo_Undo_s a0 a1 a2 a3 a4 a5 a6 a7 a8 a9 a10 a11 a12 := by kernel_rfl

def Γ_ref12_place : FuncId → Option FSig := fun f =>
  none
def A_ref12_place : Ann := { loop := (fun r => if r = 2 then ([(5, .I)], [[], [(4, .I)]]) else ([], [])), scalar := true }
theorem run_ref12_place (a0 a1 : IV) : run Try.prog (Γ_ref12_place) C0 A_ref12_place Try.f82 [[a0], [a1]] = ref12_place_s a0 a1 := by kernel_rfl

def Γ_ref12_Find : FuncId → Option FSig := fun f =>
  if f = n_ref12_place then some ⟨.pure, true, [1], 0, fun l => match l with | [[x0], [x1]] => ref12_place_s x0 x1 | _ => none⟩ else
  none
def A_ref12_Find : Ann := { scalar := true }
theorem run_ref12_Find (a0 a1 : IV) : run Try.prog (Γ_ref12_Find) C0 A_ref12_Find Try.f56 [[a0], [a1]] = ref12_Find_s a0 a1 := by kernel_rfl

def Γ_ref12_Above : FuncId → Option FSig := fun f =>
  if f = n_ref12_Find then some ⟨.pure, true, [4, 1], 0, fun l => match l with | [[x0], [x1]] => ref12_Find_s x0 x1 | _ => none⟩ else
  none
def A_ref12_Above : Ann := { loop := (fun r => if r = 2 then ([(2, .I), (7, .I)], [[], [(6, .I)]]) else ([], [])), scalar := true }
theorem run_ref12_Above (a0 a1 a2 : IV) : run Try.prog (Γ_ref12_Above) C0 A_ref12_Above Try.f65 [[a0], [a1], [a2]] = ref12_Above_s a0 a1 a2 := by kernel_rfl

def Γ_ref14_Barred : FuncId → Option FSig := fun f =>
  if f = n_ref12_Above then some ⟨.pure, true, [1], 0, fun l => match l with | [[x0], [x1], [x2]] => ref12_Above_s x0 x1 x2 | _ => none⟩ else
  none
def A_ref14_Barred : Ann := { join := (fun r => if r = 1 then some [4] else none), scalar := true }
theorem run_ref14_Barred (a0 a1 a2 a3 a4 a5 a6 : IV) : run Try.prog (Γ_ref14_Barred) C0 A_ref14_Barred Try.f81 [[a0], [a1, a2, a3, a4, a5, a6]] = ref14_Barred_s a0 a1 a2 a3 a4 a5 a6 := by kernel_rfl

def Γ_ref13_Row : FuncId → Option FSig := fun f =>
  none
def A_ref13_Row : Ann := { scalar := true }
theorem run_ref13_Row (a0 a1 a2 a3 a4 a5 : IV) : run Try.prog (Γ_ref13_Row) C0 A_ref13_Row Try.f69 [[a0, a1, a2, a3, a4, a5]] = ref13_Row_s a0 a1 a2 a3 a4 a5 := by kernel_rfl

def Γ_ref12_Set : FuncId → Option FSig := fun f =>
  if f = n_ref12_place then some ⟨.pure, true, [1], 0, fun l => match l with | [[x0], [x1]] => ref12_place_s x0 x1 | _ => none⟩ else
  none
def A_ref12_Set : Ann := { order := (fun r => if r = 7 then some ([], [0, 1, 2, 3, 4, 5, 6, 7, 8, 9, 10, 11, 12, 13], []) else none), join := (fun r => if r = 7 then some [36] else none), loop := (fun r => if r = 7 then ([(7, .I)], [[(7, .I)]]) else ([], [])) }
theorem run_ref12_Set (a0 a1 a2 a3 a4 : IV) : run Try.prog (Γ_ref12_Set) C0 A_ref12_Set Try.f59 [[a0], [a1, a2, a3, a4]] = ref12_Set_s a0 a1 a2 a3 a4 := by kernel_rfl

def Γ_ref14_Do : FuncId → Option FSig := fun f =>
  if f = n_ref14_Barred then some ⟨.pure, true, [1], 0, fun l => match l with | [[x0], [x1, x2, x3, x4, x5, x6]] => ref14_Barred_s x0 x1 x2 x3 x4 x5 x6 | _ => none⟩ else
  if f = n_ref13_Row then some ⟨.pure, true, [4], 0, fun l => match l with | [[x0, x1, x2, x3, x4, x5]] => ref13_Row_s x0 x1 x2 x3 x4 x5 | _ => none⟩ else
  if f = n_ref12_Set then some ⟨.pure, false, [1], 0, fun l => match l with | [[x0], [x1, x2, x3, x4]] => ref12_Set_s x0 x1 x2 x3 x4 | _ => none⟩ else
  none
def A_ref14_Do : Ann := {  }
theorem run_ref14_Do (a0 a1 a2 a3 a4 a5 a6 : IV) : run Try.prog (Γ_ref14_Do) C0 A_ref14_Do Try.f55 [[a0], [a1, a2, a3, a4, a5, a6]] = ref14_Do_s a0 a1 a2 a3 a4 a5 a6 := by kernel_rfl

def Γ_ref15_Do : FuncId → Option FSig := fun f =>
  if f = n_ref14_Do then some ⟨.pure, false, [1, 1], 0, fun l => match l with | [[x0], [x1, x2, x3, x4, x5, x6]] => ref14_Do_s x0 x1 x2 x3 x4 x5 x6 | _ => none⟩ else
  if f = n_ref12_Find then some ⟨.pure, true, [4, 1], 0, fun l => match l with | [[x0], [x1]] => ref12_Find_s x0 x1 | _ => none⟩ else
  none
def A_ref15_Do : Ann := { order := (fun r => if r = 5 then some ([], [0, 1, 2], [3]) else none) }
theorem run_ref15_Do (a0 a1 a2 a3 a4 a5 a6 : IV) : run Try.prog (Γ_ref15_Do) C0 A_ref15_Do Try.f17 [[a0], [a1, a2, a3, a4, a5, a6]] = ref15_Do_s a0 a1 a2 a3 a4 a5 a6 := by kernel_rfl

def Γ_ref15_Run : FuncId → Option FSig := fun f =>
  if f = n_ref15_Do then some ⟨.pure, false, [1, 12], 0, fun l => match l with | [[x0], [x1, x2, x3, x4, x5, x6]] => ref15_Do_s x0 x1 x2 x3 x4 x5 x6 | _ => none⟩ else
  none
def A_ref15_Run : Ann := { loop := (fun r => if r = 3 then ([(0, .I), (6, (.B 12)), (7, .I)], [[(0, .I), (6, (.B 12))]]) else ([], [])) }
theorem run_ref15_Run (a0 a1 : IV) : run Try.prog (Γ_ref15_Run) C0 A_ref15_Run Try.f24 [[a0], [a1]] = ref15_Run_s a0 a1 := by kernel_rfl

def Γ_ref12_Few : FuncId → Option FSig := fun f =>
  none
def A_ref12_Few : Ann := { loop := (fun r => if r = 4 then ([(3, .I)], [[], [(2, .I)]]) else ([], [])), scalar := true }
theorem run_ref12_Few (a0 : IV) : run Try.prog (Γ_ref12_Few) C0 A_ref12_Few Try.f13 [[a0]] = ref12_Few_s a0 := by kernel_rfl

def Γ_fold_Barred : FuncId → Option FSig := fun f =>
  if f = n_tree_Above then some ⟨.pure, true, [1], 0, fun l => match l with | [[x0], [x1], [x2]] => tree_Above_s x0 x1 x2 | _ => none⟩ else
  none
def A_fold_Barred : Ann := { join := (fun r => if r = 1 then some [4] else none), scalar := true }
theorem run_fold_Barred (a0 a1 a2 a3 a4 a5 a6 : IV) : run Try.prog (Γ_fold_Barred) C0 A_fold_Barred Try.f34 [[a0], [a1, a2, a3, a4, a5, a6]] = fold_Barred_s a0 a1 a2 a3 a4 a5 a6 := by kernel_rfl

def Γ_moves_Row : FuncId → Option FSig := fun f =>
  none
def A_moves_Row : Ann := { scalar := true }
theorem run_moves_Row (a0 a1 a2 a3 a4 a5 : IV) : run Try.prog (Γ_moves_Row) C0 A_moves_Row Try.f80 [[a0, a1, a2, a3, a4, a5]] = moves_Row_s a0 a1 a2 a3 a4 a5 := by kernel_rfl

def Γ_fold_Do : FuncId → Option FSig := fun f =>
  if f = n_fold_Barred then some ⟨.pure, true, [1], 0, fun l => match l with | [[x0], [x1, x2, x3, x4, x5, x6]] => fold_Barred_s x0 x1 x2 x3 x4 x5 x6 | _ => none⟩ else
  if f = n_moves_Row then some ⟨.pure, true, [4], 0, fun l => match l with | [[x0, x1, x2, x3, x4, x5]] => moves_Row_s x0 x1 x2 x3 x4 x5 | _ => none⟩ else
  if f = n_tree_Set then some ⟨.pure, false, [1], 0, fun l => match l with | [[x0], [x1, x2, x3, x4]] => tree_Set_s x0 x1 x2 x3 x4 | _ => none⟩ else
  none
def A_fold_Do : Ann := {  }
theorem run_fold_Do (a0 a1 a2 a3 a4 a5 a6 : IV) : run Try.prog (Γ_fold_Do) C0 A_fold_Do Try.f54 [[a0], [a1, a2, a3, a4, a5, a6]] = fold_Do_s a0 a1 a2 a3 a4 a5 a6 := by kernel_rfl

def Γ_tree_Find : FuncId → Option FSig := fun f =>
  if f = n_tree_place then some ⟨.pure, true, [1, 1], 0, fun l => match l with | [[x0], [x1]] => tree_place_s x0 x1 | _ => none⟩ else
  none
def A_tree_Find : Ann := { scalar := true }
theorem run_tree_Find (a0 a1 : IV) : run Try.prog (Γ_tree_Find) C0 A_tree_Find Try.f33 [[a0], [a1]] = tree_Find_s a0 a1 := by kernel_rfl

def Γ_undo_Do : FuncId → Option FSig := fun f =>
  if f = n_fold_Do then some ⟨.pure, false, [1, 1], 0, fun l => match l with | [[x0], [x1, x2, x3, x4, x5, x6]] => fold_Do_s x0 x1 x2 x3 x4 x5 x6 | _ => none⟩ else
  if f = n_tree_Find then some ⟨.pure, true, [4, 1], 0, fun l => match l with | [[x0], [x1]] => tree_Find_s x0 x1 | _ => none⟩ else
  none
def A_undo_Do : Ann := { order := (fun r => if r = 5 then some ([], [0, 1, 2], [3]) else none) }
theorem run_undo_Do (a0 a1 a2 a3 a4 a5 a6 : IV) : run Try.prog (Γ_undo_Do) C0 A_undo_Do Try.f16 [[a0], [a1, a2, a3, a4, a5, a6]] = undo_Do_s a0 a1 a2 a3 a4 a5 a6 := by kernel_rfl

def Γ_undo_Run : FuncId → Option FSig := fun f =>
  if f = n_undo_Do then some ⟨.pure, false, [1, 12], 0, fun l => match l with | [[x0], [x1, x2, x3, x4, x5, x6]] => undo_Do_s x0 x1 x2 x3 x4 x5 x6 | _ => none⟩ else
  none
def A_undo_Run : Ann := { loop := (fun r => if r = 3 then ([(0, .I), (6, (.B 12)), (12, .I)], [[(0, .I), (6, (.B 12))]]) else ([], [])) }
theorem run_undo_Run (a0 a1 : IV) : run Try.prog (Γ_undo_Run) C0 A_undo_Run Try.f23 [[a0], [a1]] = undo_Run_s a0 a1 := by kernel_rfl

def Γ_undo_Moves : FuncId → Option FSig := fun f =>
  none
def A_undo_Moves : Ann := { loop := (fun r => if r = 3 then ([(3, (.B 6)), (8, .I)], [[(3, (.B 6))]]) else ([], [])) }
theorem run_undo_Moves (a0 : IV) : runO Try.prog Γ_undo_Moves C0 A_undo_Moves 6 Try.f29 [[a0]] = undo_Moves_s a0 := by kernel_rfl

def Γ_ref01_None : FuncId → Option FSig := fun f =>
  none
def A_ref01_None : Ann := { scalar := true }
theorem run_ref01_None : run Try.prog (Γ_ref01_None) C0 A_ref01_None Try.f107 [] = ref01_None_s := by kernel_rfl

def Γ_ref01_Minus : FuncId → Option FSig := fun f =>
  none
def A_ref01_Minus : Ann := { join := (fun r => if r = 1 then some [2] else none), scalar := true }
theorem run_ref01_Minus (a0 : IV) : run Try.prog (Γ_ref01_Minus) C0 A_ref01_Minus Try.f108 [[a0]] = ref01_Minus_s a0 := by kernel_rfl

def Γ_ref01_top : FuncId → Option FSig := fun f =>
  none
def A_ref01_top : Ann := { scalar := true }
theorem run_ref01_top : run Try.prog (Γ_ref01_top) C0 A_ref01_top Try.f109 [] = ref01_top_s := by kernel_rfl

def Γ_ref01_Bits : FuncId → Option FSig := fun f =>
  if f = n_ref01_None then some ⟨.pure, true, [1], 0, fun l => match l with | [] => ref01_None_s | _ => none⟩ else
  if f = n_ref01_Minus then some ⟨.pure, true, [1], 0, fun l => match l with | [[x0]] => ref01_Minus_s x0 | _ => none⟩ else
  if f = n_ref01_top then some ⟨.pure, true, [1], 0, fun l => match l with | [] => ref01_top_s | _ => none⟩ else
  none
def A_ref01_Bits : Ann := { join := (fun r => if r = 15 then some [35] else none), loop := (fun r => if r = 12 then ([(0, .I), (4, .I)], [[(0, .I), (4, .I)]]) else if r = 15 then ([(0, .I), (4, .I)], [[(0, .I), (4, .I)]]) else if r = 22 then ([(0, .I), (5, .I)], [[(0, .I)]]) else ([], [])), scalar := true }
theorem run_ref01_Bits (a0 : IV) : run Try.prog (Γ_ref01_Bits) C0 A_ref01_Bits Try.f95 [[a0]] = ref01_Bits_s a0 := by kernel_rfl

def Γ_ref01_Same : FuncId → Option FSig := fun f =>
  if f = n_ref01_Bits then some ⟨.pure, true, [1], 0, fun l => match l with | [[x0]] => ref01_Bits_s x0 | _ => none⟩ else
  none
def A_ref01_Same : Ann := { scalar := true }
theorem run_ref01_Same (a0 a1 : IV) : run Try.prog (Γ_ref01_Same) C0 A_ref01_Same Try.f68 [[a0], [a1]] = ref01_Same_s a0 a1 := by kernel_rfl

def Γ_ref12_Alike : FuncId → Option FSig := fun f =>
  if f = n_ref01_Same then some ⟨.pure, true, [1], 0, fun l => match l with | [[x0], [x1]] => ref01_Same_s x0 x1 | _ => none⟩ else
  none
def A_ref12_Alike : Ann := { join := (fun r => if r = 1 then some [4] else none), scalar := true }
theorem run_ref12_Alike (a0 a1 a2 a3 a4 a5 a6 a7 : IV) : run Try.prog (Γ_ref12_Alike) C0 A_ref12_Alike Try.f35 [[a0, a1, a2, a3], [a4, a5, a6, a7]] = ref12_Alike_s a0 a1 a2 a3 a4 a5 a6 a7 := by kernel_rfl

def Γ_ref12_Same : FuncId → Option FSig := fun f =>
  if f = n_ref12_Alike then some ⟨.pure, true, [1], 0, fun l => match l with | [[x0, x1, x2, x3], [x4, x5, x6, x7]] => ref12_Alike_s x0 x1 x2 x3 x4 x5 x6 x7 | _ => none⟩ else
  none
def A_ref12_Same : Ann := { order := (fun r => if r = 6 then some ([], [0, 1, 2, 3, 4, 5, 6, 7, 8, 9], []) else none), loop := (fun r => if r = 4 then ([(5, .I)], [[], [(4, .I)]]) else ([], [])), scalar := true }
theorem run_ref12_Same (a0 a1 : IV) : run Try.prog (Γ_ref12_Same) C0 A_ref12_Same Try.f18 [[a0], [a1]] = ref12_Same_s a0 a1 := by kernel_rfl

def Γ_ref13_Alike : FuncId → Option FSig := fun f =>
  if f = n_ref13_Row then some ⟨.pure, true, [4], 0, fun l => match l with | [[x0, x1, x2, x3, x4, x5]] => ref13_Row_s x0 x1 x2 x3 x4 x5 | _ => none⟩ else
  if f = n_ref12_Alike then some ⟨.pure, true, [1], 0, fun l => match l with | [[x0, x1, x2, x3], [x4, x5, x6, x7]] => ref12_Alike_s x0 x1 x2 x3 x4 x5 x6 x7 | _ => none⟩ else
  none
def A_ref13_Alike : Ann := { order := (fun r => if r = 1 then some ([], [0, 1, 2, 3, 4, 5, 6, 7, 8, 9, 10, 11, 12], []) else none), join := (fun r => if r = 1 then some [4] else none), scalar := true }
theorem run_ref13_Alike (a0 a1 a2 a3 a4 a5 a6 a7 a8 a9 a10 a11 : IV) : run Try.prog (Γ_ref13_Alike) C0 A_ref13_Alike Try.f36 [[a0, a1, a2, a3, a4, a5], [a6, a7, a8, a9, a10, a11]] = ref13_Alike_s a0 a1 a2 a3 a4 a5 a6 a7 a8 a9 a10 a11 := by kernel_rfl

def Γ_ref15_Alike : FuncId → Option FSig := fun f =>
  if f = n_ref13_Alike then some ⟨.pure, true, [1], 0, fun l => match l with | [[x0, x1, x2, x3, x4, x5], [x6, x7, x8, x9, x10, x11]] => ref13_Alike_s x0 x1 x2 x3 x4 x5 x6 x7 x8 x9 x10 x11 | _ => none⟩ else
  if f = n_ref12_Alike then some ⟨.pure, true, [1], 0, fun l => match l with | [[x0, x1, x2, x3], [x4, x5, x6, x7]] => ref12_Alike_s x0 x1 x2 x3 x4 x5 x6 x7 | _ => none⟩ else
  none
def A_ref15_Alike : Ann := { join := (fun r => if r = 1 then some [4] else none), scalar := true }
theorem run_ref15_Alike (a0 a1 a2 a3 a4 a5 a6 a7 a8 a9 a10 a11 a12 a13 a14 a15 a16 a17 a18 a19 a20 a21 a22 a23 : IV) : run Try.prog (Γ_ref15_Alike) C0 A_ref15_Alike Try.f19 [[a0, a1, a2, a3, a4, a5, a6, a7, a8, a9, a10, a11], [a12, a13, a14, a15, a16, a17, a18, a19, a20, a21, a22, a23]] = ref15_Alike_s a0 a1 a2 a3 a4 a5 a6 a7 a8 a9 a10 a11 a12 a13 a14 a15 a16 a17 a18 a19 a20 a21 a22 a23 := by kernel_rfl

def Γ_ref13_Few : FuncId → Option FSig := fun f =>
  none
def A_ref13_Few : Ann := { loop := (fun r => if r = 4 then ([(5, .I)], [[], [(4, .I)]]) else ([], [])), scalar := true }
theorem run_ref13_Few (a0 a1 : IV) : run Try.prog (Γ_ref13_Few) C0 A_ref13_Few Try.f22 [[a0], [a1]] = ref13_Few_s a0 a1 := by kernel_rfl

def Γ_ref15_Same : FuncId → Option FSig := fun f =>
  if f = n_ref15_Alike then some ⟨.pure, true, [1], 0, fun l => match l with | [[x0, x1, x2, x3, x4, x5, x6, x7, x8, x9, x10, x11], [x12, x13, x14, x15, x16, x17, x18, x19, x20, x21, x22, x23]] => ref15_Alike_s x0 x1 x2 x3 x4 x5 x6 x7 x8 x9 x10 x11 x12 x13 x14 x15 x16 x17 x18 x19 x20 x21 x22 x23 | _ => none⟩ else
  none
def A_ref15_Same : Ann := { order := (fun r => if r = 6 then some ([], [0, 1, 2, 3, 4, 5, 6, 7, 8, 9], []) else none), loop := (fun r => if r = 4 then ([(5, .I)], [[], [(4, .I)]]) else ([], [])), scalar := true }
theorem run_ref15_Same (a0 a1 : IV) : run Try.prog (Γ_ref15_Same) C0 A_ref15_Same Try.f25 [[a0], [a1]] = ref15_Same_s a0 a1 := by kernel_rfl

def Γ_ref13_Same : FuncId → Option FSig := fun f =>
  if f = n_ref13_Alike then some ⟨.pure, true, [1], 0, fun l => match l with | [[x0, x1, x2, x3, x4, x5], [x6, x7, x8, x9, x10, x11]] => ref13_Alike_s x0 x1 x2 x3 x4 x5 x6 x7 x8 x9 x10 x11 | _ => none⟩ else
  none
def A_ref13_Same : Ann := { order := (fun r => if r = 6 then some ([], [0, 1, 2, 3, 4, 5, 6, 7, 8, 9], []) else none), loop := (fun r => if r = 4 then ([(5, .I)], [[], [(4, .I)]]) else ([], [])), scalar := true }
theorem run_ref13_Same (a0 a1 : IV) : run Try.prog (Γ_ref13_Same) C0 A_ref13_Same Try.f28 [[a0], [a1]] = ref13_Same_s a0 a1 := by kernel_rfl

def Γ_ref04_in : FuncId → Option FSig := fun f =>
  none
def A_ref04_in : Ann := { join := (fun r => if r = 1 then some [8] else none), scalar := true }
theorem run_ref04_in (a0 a1 a2 a3 : IV) : run Try.prog (Γ_ref04_in) C0 A_ref04_in Try.f126 [[a0], [a1], [a2], [a3]] = ref04_in_s a0 a1 a2 a3 := by kernel_rfl

def Γ_ref04_sign : FuncId → Option FSig := fun f =>
  if f = n_ref04_in then some ⟨.pure, true, [1], 0, fun l => match l with | [[x0], [x1], [x2], [x3]] => ref04_in_s x0 x1 x2 x3 | _ => none⟩ else
  none
def A_ref04_sign : Ann := { join := (fun r => if r = 3 then some [16] else if r = 5 then some [64] else if r = 7 then some [107] else none), scalar := true }
theorem run_ref04_sign (a0 a1 : IV) : run Try.prog (Γ_ref04_sign) C0 A_ref04_sign Try.f117 [[a0], [a1]] = ref04_sign_s a0 a1 := by kernel_rfl

def Γ_ref04_First : FuncId → Option FSig := fun f =>
  if f = n_ref04_sign then some ⟨.pure, true, [1], 0, fun l => match l with | [[x0], [x1]] => ref04_sign_s x0 x1 | _ => none⟩ else
  none
def A_ref04_First : Ann := { loop := (fun r => if r = 2 then ([(4, .I)], [[], [(2, .I), (3, .I)]]) else ([], [])), scalar := true }
theorem run_ref04_First (a0 : IV) : run Try.prog (Γ_ref04_First) C0 A_ref04_First Try.f106 [[a0]] = ref04_First_s a0 := by kernel_rfl

def Γ_ref04_Valid : FuncId → Option FSig := fun f =>
  if f = n_ref04_First then some ⟨.pure, true, [1, 1], 0, fun l => match l with | [[x0]] => ref04_First_s x0 | _ => none⟩ else
  none
def A_ref04_Valid : Ann := { scalar := true }
theorem run_ref04_Valid (a0 : IV) : run Try.prog (Γ_ref04_Valid) C0 A_ref04_Valid Try.f93 [[a0]] = ref04_Valid_s a0 := by kernel_rfl

def Γ_ref12_One : FuncId → Option FSig := fun f =>
  if f = n_ref04_Valid then some ⟨.pure, true, [1], 0, fun l => match l with | [[x0]] => ref04_Valid_s x0 | _ => none⟩ else
  none
def A_ref12_One : Ann := { join := (fun r => if r = 1 then some [2] else none), scalar := true }
theorem run_ref12_One (a0 a1 a2 a3 : IV) : run Try.prog (Γ_ref12_One) C0 A_ref12_One Try.f64 [[a0, a1, a2, a3]] = ref12_One_s a0 a1 a2 a3 := by kernel_rfl

def Γ_ref12_May : FuncId → Option FSig := fun f =>
  if f = n_ref12_One then some ⟨.pure, true, [1], 0, fun l => match l with | [[x0, x1, x2, x3]] => ref12_One_s x0 x1 x2 x3 | _ => none⟩ else
  if f = n_ref12_Above then some ⟨.pure, true, [1], 0, fun l => match l with | [[x0], [x1], [x2]] => ref12_Above_s x0 x1 x2 | _ => none⟩ else
  none
def A_ref12_May : Ann := { order := (fun r => if r = 6 then some ([], [0, 1, 2, 3, 4, 5, 6, 7, 8, 9, 10, 11, 12, 13, 14, 15, 16, 17, 18, 19, 20, 21, 22, 23], []) else if r = 11 then some ([], [0, 1, 2, 3, 4, 5, 6, 7, 8, 9, 10, 11], []) else none), join := (fun r => if r = 6 then some [37] else none), loop := (fun r => if r = 4 then ([(3, .I)], [[], [(2, .I)]]) else if r = 9 then ([(4, .I)], [[], [(2, .I)]]) else ([], [])), scalar := true }
theorem run_ref12_May (a0 : IV) : run Try.prog (Γ_ref12_May) C0 A_ref12_May Try.f32 [[a0]] = ref12_May_s a0 := by kernel_rfl

def Γ_replay_New : FuncId → Option FSig := fun f =>
  if f = n_slices_Clone_Row then some ⟨.pure, false, [1], 0, fun l => match l with | [[x0]] => slices_Clone_Row_s x0 | _ => none⟩ else
  none
def A_replay_New : Ann := {  }
theorem run_replay_New (a0 : IV) : runN Try.prog Γ_replay_New C0 A_replay_New [.imm, .imm, .buf 12] Try.f38 [[a0]] = replay_New_s a0 := by kernel_rfl

def Γ_replay_Tree_Log : FuncId → Option FSig := fun f =>
  if f = n_undo_Moves then some ⟨.fresh, false, [1], 6, fun l => match l with | [[x0]] => undo_Moves_s x0 | _ => none⟩ else
  none
def A_replay_Tree_Log : Ann := {  }
theorem run_replay_Tree_Log (a0 : IV) : runO Try.prog Γ_replay_Tree_Log C0 A_replay_Tree_Log 6 Try.f43 [[a0]] = replay_Tree_Log_s a0 := by kernel_rfl

def Γ_moves_seek (C : IV → List Nat → List (List IV) → Option (List IV)) : FuncId → Option FSig := fun f =>
  none
def A_moves_seek : Ann := { loop := (fun r => if r = 2 then ([(11, .I)], [[], [(6, .I)]]) else ([], [])), scalar := true }
theorem run_moves_seek (C : IV → List Nat → List (List IV) → Option (List IV)) (a0 a1 a2 a3 : IV) : run Try.prog (Γ_moves_seek C) C A_moves_seek Try.f96 [[a0], [a1, a2], [a3]] = moves_seek_s C a0 a1 a2 a3 := by kernel_rfl

def Γ_moves_when_is : FuncId → Option FSig := fun f =>
  none
def A_moves_when_is : Ann := { scalar := true }
theorem run_moves_when_is (a0 a1 a2 a3 a4 a5 a6 a7 : IV) : run Try.prog (Γ_moves_when_is) C0 A_moves_when_is Try.f97 [[a0, a1], [a2, a3, a4, a5, a6, a7]] = moves_when_is_s a0 a1 a2 a3 a4 a5 a6 a7 := by kernel_rfl

def Γ_rank_first (C : IV → List Nat → List (List IV) → Option (List IV)) : FuncId → Option FSig := fun f =>
  none
def A_rank_first : Ann := { loop := (fun r => if r = 2 then ([(8, .I)], [[], [(2, .I)]]) else ([], [])), scalar := true }
theorem run_rank_first (C : IV → List Nat → List (List IV) → Option (List IV)) (a0 : IV) : run Try.prog (Γ_rank_first C) C A_rank_first Try.f118 [[a0]] = rank_first_s C a0 := by kernel_rfl

def Γ_cmp_isNaN_int : FuncId → Option FSig := fun f =>
  none
def A_cmp_isNaN_int : Ann := { scalar := true }
theorem run_cmp_isNaN_int (a0 : IV) : run Try.prog (Γ_cmp_isNaN_int) C0 A_cmp_isNaN_int Try.f127 [[a0]] = cmp_isNaN_int_s a0 := by kernel_rfl

def Γ_cmp_Compare_int : FuncId → Option FSig := fun f =>
  if f = n_cmp_isNaN_int then some ⟨.pure, true, [1], 0, fun l => match l with | [[x0]] => cmp_isNaN_int_s x0 | _ => none⟩ else
  none
def A_cmp_Compare_int : Ann := { scalar := true }
theorem run_cmp_Compare_int (a0 a1 : IV) : run Try.prog (Γ_cmp_Compare_int) C0 A_cmp_Compare_int Try.f120 [[a0], [a1]] = cmp_Compare_int_s a0 a1 := by kernel_rfl

def Γ_rank_Before_1 : FuncId → Option FSig := fun f =>
  if f = n_cmp_Compare_int then some ⟨.pure, true, [1], 0, fun l => match l with | [[x0], [x1]] => cmp_Compare_int_s x0 x1 | _ => none⟩ else
  none
def A_rank_Before_1 : Ann := { scalar := true }
theorem run_rank_Before_1 (a0 a1 : IV) : run Try.prog (Γ_rank_Before_1) C0 A_rank_Before_1 Try.f119 [[a0], [a1]] = rank_Before_1_s a0 a1 := by kernel_rfl

def Γ_rank_Before_2 : FuncId → Option FSig := fun f =>
  if f = n_cmp_Compare_int then some ⟨.pure, true, [1], 0, fun l => match l with | [[x0], [x1]] => cmp_Compare_int_s x0 x1 | _ => none⟩ else
  none
def A_rank_Before_2 : Ann := { scalar := true }
theorem run_rank_Before_2 (a0 a1 : IV) : run Try.prog (Γ_rank_Before_2) C0 A_rank_Before_2 Try.f121 [[a0], [a1]] = rank_Before_2_s a0 a1 := by kernel_rfl

def Γ_rank_Before : FuncId → Option FSig := fun f =>
  if f = n_rank_first then some ⟨.pure, true, [1], 0, fun l => match l with | [[x0]] => rank_first_s (Cx_rank_Before) x0 | _ => none⟩ else
  none
def A_rank_Before : Ann := { scalar := true }
theorem run_rank_Before (a0 a1 a2 a3 : IV) : run Try.prog (Γ_rank_Before) (Cx_rank_Before) A_rank_Before Try.f110 [[a0, a1], [a2, a3]] = rank_Before_s a0 a1 a2 a3 := by kernel_rfl

def Γ_moves_when_before : FuncId → Option FSig := fun f =>
  if f = n_rank_Before then some ⟨.pure, true, [1], 0, fun l => match l with | [[x0, x1], [x2, x3]] => rank_Before_s x0 x1 x2 x3 | _ => none⟩ else
  none
def A_moves_when_before : Ann := { scalar := true }
theorem run_moves_when_before (a0 a1 a2 a3 a4 a5 a6 a7 : IV) : run Try.prog (Γ_moves_when_before) C0 A_moves_when_before Try.f98 [[a0, a1], [a2, a3, a4, a5, a6, a7]] = moves_when_before_s a0 a1 a2 a3 a4 a5 a6 a7 := by kernel_rfl

def Γ_moves_Insert : FuncId → Option FSig := fun f =>
  if f = n_moves_seek then some ⟨.pure, true, [1], 0, fun l => match l with | [[x0], [x1, x2], [x3]] => moves_seek_s (Cx_moves_Insert) x0 x1 x2 x3 | _ => none⟩ else
  if f = n_slices_Clone_Move then some ⟨.own, false, [1], 6, fun l => match l with | [[x0]] => slices_Clone_Move_s x0 | _ => none⟩ else
  if f = n_slices_Insert_Move then some ⟨.cons, false, [1], 6, fun l => match l with | [[x0], [x1], [x2]] => slices_Insert_Move_s x0 x1 x2 | _ => none⟩ else
  none
def A_moves_Insert : Ann := { order := (fun r => if r = 6 then some ([6], [0, 1, 2, 3, 4], [5, 7, 8, 9]) else none) }
theorem run_moves_Insert (a0 a1 a2 a3 a4 a5 a6 : IV) : run Try.prog (Γ_moves_Insert) (Cx_moves_Insert) A_moves_Insert Try.f72 [[a0], [a1, a2, a3, a4, a5, a6]] = moves_Insert_s a0 a1 a2 a3 a4 a5 a6 := by kernel_rfl

def Γ_slices_Reverse_Move : FuncId → Option FSig := fun f =>
  none
def A_slices_Reverse_Move : Ann := { order := (fun r => if r = 3 then some ([2, 3], [0, 1, 4, 5, 6, 7, 8, 9, 10, 11, 12], [13, 14, 15]) else none), loop := (fun r => if r = 1 then ([(0, (.B 6)), (2, .I), (3, .I)], [[(0, (.B 6))]]) else ([], [])) }
theorem run_slices_Reverse_Move (a0 : IV) : runI Try.prog Γ_slices_Reverse_Move C0 A_slices_Reverse_Move 6 Try.f73 a0 [] = slices_Reverse_Move_s a0 := by kernel_rfl

def Γ_replay_Tree_Add : FuncId → Option FSig := fun f =>
  if f = n_replay_Tree_Log then some ⟨.fresh, false, [1], 6, fun l => match l with | [[x0]] => replay_Tree_Log_s x0 | _ => none⟩ else
  if f = n_moves_Insert then some ⟨.pure, false, [1, 1, 1], 0, fun l => match l with | [[x0], [x1, x2, x3, x4, x5, x6]] => moves_Insert_s x0 x1 x2 x3 x4 x5 x6 | _ => none⟩ else
  if f = n_undo_Undo then some ⟨.pure, false, [1], 0, fun l => match l with | [[x0], [x1, x2, x3, x4, x5, x6, x7, x8, x9, x10, x11, x12]] => undo_Undo_s x0 x1 x2 x3 x4 x5 x6 x7 x8 x9 x10 x11 x12 | _ => none⟩ else
  if f = n_slices_Reverse_Move then some ⟨.inpl, false, [], 6, fun l => match l with | [[x0]] => slices_Reverse_Move_s x0 | _ => none⟩ else
  if f = n_undo_Run then some ⟨.pure, false, [1, 1], 0, fun l => match l with | [[x0], [x1]] => undo_Run_s x0 x1 | _ => none⟩ else
  none
def A_replay_Tree_Add : Ann := { order := (fun r => if r = 3 then some ([], [0, 1, 2, 3, 4, 5, 6, 7, 8, 9, 10], []) else if r = 10 then some ([1, 12, 13, 14], [0, 2, 3, 4, 5, 6, 7, 8, 9, 10, 11, 15, 16], [17, 18, 19, 20]) else none), loop := (fun r => if r = 7 then ([(0, (.O [.imm, .imm, .buf 12])), (9, (.B 6))], [[], [(0, (.O [.imm, .imm, .buf 12])), (4, .I), (5, .I)]]) else ([], [])) }
theorem run_replay_Tree_Add (a0 a1 a2 a3 a4 a5 a6 a7 a8 : IV) : runM Try.prog Γ_replay_Tree_Add C0 A_replay_Tree_Add [.imm, .imm, .buf 12] Try.f39 [a0, a1, a2] [[a3, a4, a5, a6, a7, a8]] = replay_Tree_Add_s a0 a1 a2 a3 a4 a5 a6 a7 a8 := by kernel_rfl
theorem run_replay_Tree_Add_nil (a0 a1 a2 a3 a4 a5 : IV) : run Try.prog Γ_replay_Tree_Add C0 A_replay_Tree_Add Try.f39 [[.nilp], [a0, a1, a2, a3, a4, a5]] = replay_Tree_Add_nil a0 a1 a2 a3 a4 a5 := by kernel_rfl

def Γ_replay_Tree_Rows : FuncId → Option FSig := fun f =>
  if f = n_slices_Clone_Row then some ⟨.own, false, [1], 4, fun l => match l with | [[x0]] => slices_Clone_Row_s x0 | _ => none⟩ else
  none
def A_replay_Tree_Rows : Ann := {  }
theorem run_replay_Tree_Rows (a0 : IV) : runO Try.prog Γ_replay_Tree_Rows C0 A_replay_Tree_Rows 4 Try.f41 [[a0]] = replay_Tree_Rows_s a0 := by kernel_rfl

def Γ_replay_Tree_Steps : FuncId → Option FSig := fun f =>
  if f = n_slices_Clone_Step then some ⟨.own, false, [1], 12, fun l => match l with | [[x0]] => slices_Clone_Step_s x0 | _ => none⟩ else
  none
def A_replay_Tree_Steps : Ann := {  }
theorem run_replay_Tree_Steps (a0 : IV) : runO Try.prog Γ_replay_Tree_Steps C0 A_replay_Tree_Steps 12 Try.f44 [[a0]] = replay_Tree_Steps_s a0 := by kernel_rfl

def Γ_replay_Tree_Base : FuncId → Option FSig := fun f =>
  if f = n_slices_Clone_Row then some ⟨.own, false, [1], 4, fun l => match l with | [[x0]] => slices_Clone_Row_s x0 | _ => none⟩ else
  none
def A_replay_Tree_Base : Ann := {  }
theorem run_replay_Tree_Base (a0 : IV) : runO Try.prog Γ_replay_Tree_Base C0 A_replay_Tree_Base 4 Try.f46 [[a0]] = replay_Tree_Base_s a0 := by kernel_rfl

def Γ_law16_live_1 : FuncId → Option FSig := fun f =>
  none
def A_law16_live_1 : Ann := { scalar := true }
theorem run_law16_live_1 (a0 a1 a2 : IV) : run Try.prog (Γ_law16_live_1) C0 A_law16_live_1 Try.f70 [[a0], [a1], [a2]] = law16_live_1_s a0 a1 a2 := by kernel_rfl

def Γ_law16_live : FuncId → Option FSig := fun f =>
  if f = n_replay_New then some ⟨.mko [.imm, .imm, .buf 12], false, [1], 0, fun l => match l with | [[x0]] => replay_New_s x0 | _ => none⟩ else
  if f = n_replay_Tree_Add then some ⟨.obj [.imm, .imm, .buf 12], false, [1, 1], 0, fun l => match l with | [[x0, x1, x2], [x3, x4, x5, x6, x7, x8]] => replay_Tree_Add_s x0 x1 x2 x3 x4 x5 x6 x7 x8 | [[x0], [x3, x4, x5, x6, x7, x8]] => onNil x0 (replay_Tree_Add_nil x3 x4 x5 x6 x7 x8) | _ => none⟩ else
  if f = n_replay_Tree_Rows then some ⟨.fresh, false, [1], 4, fun l => match l with | [[x0]] => replay_Tree_Rows_s x0 | _ => none⟩ else
  if f = n_replay_Tree_Steps then some ⟨.fresh, false, [1], 12, fun l => match l with | [[x0]] => replay_Tree_Steps_s x0 | _ => none⟩ else
  if f = n_replay_Tree_Log then some ⟨.fresh, false, [1], 6, fun l => match l with | [[x0]] => replay_Tree_Log_s x0 | _ => none⟩ else
  if f = n_replay_Tree_Base then some ⟨.fresh, false, [1], 4, fun l => match l with | [[x0]] => replay_Tree_Base_s x0 | _ => none⟩ else
  none
def A_law16_live : Ann := { join := (fun r => if r = 11 then some [55] else if r = 13 then some [0] else none), scalar := true }
theorem run_law16_live : run Try.prog (Γ_law16_live) (Cx_law16_live) A_law16_live Try.f37 [] = law16_live_s := Eq.trans (b := some [.bool true]) (by kernel_rfl) (by kernel_rfl)

def Γ_ref02_Before : FuncId → Option FSig := fun f =>
  none
def A_ref02_Before : Ann := { join := (fun r => if r = 1 then some [4] else none), scalar := true }
theorem run_ref02_Before (a0 a1 a2 a3 : IV) : run Try.prog (Γ_ref02_Before) C0 A_ref02_Before Try.f49 [[a0, a1], [a2, a3]] = ref02_Before_s a0 a1 a2 a3 := by kernel_rfl

def Γ_ref13_Insert : FuncId → Option FSig := fun f =>
  if f = n_ref02_Before then some ⟨.pure, true, [1], 0, fun l => match l with | [[x0, x1], [x2, x3]] => ref02_Before_s x0 x1 x2 x3 | _ => none⟩ else
  none
def A_ref13_Insert : Ann := { order := (fun r => if r = 4 then some ([], [0, 1, 2, 3, 4, 5, 6, 7], []) else if r = 7 then some ([], [0, 1, 2, 3, 4, 5, 6, 7, 8, 9, 10, 11, 12, 13, 14], []) else none), join := (fun r => if r = 7 then some [40] else none), loop := (fun r => if r = 2 then ([(7, .I)], [[], [(4, .I), (5, .I), (6, .I)]]) else if r = 7 then ([(8, .I)], [[(8, .I)]]) else ([], [])) }
theorem run_ref13_Insert (a0 a1 a2 a3 a4 a5 a6 : IV) : run Try.prog (Γ_ref13_Insert) C0 A_ref13_Insert Try.f74 [[a0], [a1, a2, a3, a4, a5, a6]] = ref13_Insert_s a0 a1 a2 a3 a4 a5 a6 := by kernel_rfl

def Γ_ref16_Tree_Add : FuncId → Option FSig := fun f =>
  if f = n_ref13_Insert then some ⟨.pure, false, [1, 1, 1], 0, fun l => match l with | [[x0], [x1, x2, x3, x4, x5, x6]] => ref13_Insert_s x0 x1 x2 x3 x4 x5 x6 | _ => none⟩ else
  none
def A_ref16_Tree_Add : Ann := { order := (fun r => if r = 1 then some ([], [0, 1, 2, 3, 4, 5, 6, 7, 8, 9, 10, 11, 12], []) else none) }
theorem run_ref16_Tree_Add (a0 a1 a2 a3 a4 a5 a6 a7 : IV) : runM Try.prog Γ_ref16_Tree_Add C0 A_ref16_Tree_Add [.imm, .imm] Try.f40 [a0, a1] [[a2, a3, a4, a5, a6, a7]] = ref16_Tree_Add_s a0 a1 a2 a3 a4 a5 a6 a7 := by kernel_rfl

def Γ_law16_ReplayScripts : FuncId → Option FSig := fun f =>
  if f = n_ref12_Few then some ⟨.pure, true, [1], 0, fun l => match l with | [[x0]] => ref12_Few_s x0 | _ => none⟩ else
  if f = n_ref13_Few then some ⟨.pure, true, [1], 0, fun l => match l with | [[x0], [x1]] => ref13_Few_s x0 x1 | _ => none⟩ else
  if f = n_ref12_May then some ⟨.pure, true, [1], 0, fun l => match l with | [[x0]] => ref12_May_s x0 | _ => none⟩ else
  if f = n_law16_live then some ⟨.pure, true, [1], 0, fun l => match l with | [] => law16_live_s | _ => none⟩ else
  if f = n_replay_New then some ⟨.mko [.imm, .imm, .buf 12], false, [1], 0, fun l => match l with | [[x0]] => replay_New_s x0 | _ => none⟩ else
  if f = n_replay_Tree_Add then some ⟨.obj [.imm, .imm, .buf 12], false, [1, 1], 0, fun l => match l with | [[x0, x1, x2], [x3, x4, x5, x6, x7, x8]] => replay_Tree_Add_s x0 x1 x2 x3 x4 x5 x6 x7 x8 | [[x0], [x3, x4, x5, x6, x7, x8]] => onNil x0 (replay_Tree_Add_nil x3 x4 x5 x6 x7 x8) | _ => none⟩ else
  if f = n_ref16_Tree_Add then some ⟨.obj [.imm, .imm], false, [1, 1], 0, fun l => match l with | [[x0, x1], [x2, x3, x4, x5, x6, x7]] => ref16_Tree_Add_s x0 x1 x2 x3 x4 x5 x6 x7 | _ => none⟩ else
  if f = n_replay_Tree_Rows then some ⟨.fresh, false, [1], 4, fun l => match l with | [[x0]] => replay_Tree_Rows_s x0 | _ => none⟩ else
  if f = n_ref16_Tree_Rows then some ⟨.look 2, false, [1], 0, fun l => match l with | [[x0, x1]] => ref16_Tree_Rows_s x0 x1 | _ => none⟩ else
  if f = n_ref12_Same then some ⟨.pure, true, [1], 0, fun l => match l with | [[x0], [x1]] => ref12_Same_s x0 x1 | _ => none⟩ else
  if f = n_replay_Tree_Log then some ⟨.fresh, false, [1], 6, fun l => match l with | [[x0]] => replay_Tree_Log_s x0 | _ => none⟩ else
  if f = n_ref13_Same then some ⟨.pure, true, [1], 0, fun l => match l with | [[x0], [x1]] => ref13_Same_s x0 x1 | _ => none⟩ else
  if f = n_replay_Tree_Steps then some ⟨.fresh, false, [1], 12, fun l => match l with | [[x0]] => replay_Tree_Steps_s x0 | _ => none⟩ else
  if f = n_ref16_Tree_Steps then some ⟨.look 2, false, [1], 0, fun l => match l with | [[x0, x1]] => ref16_Tree_Steps_s x0 x1 | _ => none⟩ else
  if f = n_ref15_Same then some ⟨.pure, true, [1], 0, fun l => match l with | [[x0], [x1]] => ref15_Same_s x0 x1 | _ => none⟩ else
  if f = n_replay_Tree_Base then some ⟨.fresh, false, [1], 4, fun l => match l with | [[x0]] => replay_Tree_Base_s x0 | _ => none⟩ else
  none
def A_law16_ReplayScripts : Ann := { order := (fun r => if r = 12 then some ([], [0, 1, 2, 3, 4, 5, 6, 7, 8, 9, 10, 11, 12, 13, 14, 15, 16, 17, 18, 19, 20, 21, 22, 23, 24, 25, 26, 27, 28, 29, 30, 31, 32, 33, 34, 35, 36, 37, 38, 39, 40], []) else none), join := (fun r => if r = 1 then some [29] else if r = 12 then some [102] else none), loop := (fun r => if r = 8 then ([(5, (.O [.imm, .imm, .buf 12])), (6, (.O [.imm, .imm])), (7, .I)], [[], [(4, .I)]]) else ([], [])), scalar := true }
theorem run_law16_ReplayScripts (a0 a1 : IV) : run Try.prog (Γ_law16_ReplayScripts) C0 A_law16_ReplayScripts Try.f7 [[a0], [a1]] = law16_ReplayScripts_s a0 a1 := by kernel_rfl

def Γ_law16_ReplayNil : FuncId → Option FSig := fun f =>
  if f = n_law16_live then some ⟨.pure, true, [1], 0, fun l => match l with | [] => law16_live_s | _ => none⟩ else
  if f = n_replay_Tree_Add then some ⟨.obj [.imm, .imm, .buf 12], false, [1, 1], 0, fun l => match l with | [[x0, x1, x2], [x3, x4, x5, x6, x7, x8]] => replay_Tree_Add_s x0 x1 x2 x3 x4 x5 x6 x7 x8 | [[x0], [x3, x4, x5, x6, x7, x8]] => onNil x0 (replay_Tree_Add_nil x3 x4 x5 x6 x7 x8) | _ => none⟩ else
  if f = n_replay_Tree_Rows then some ⟨.fresh, false, [1], 4, fun l => match l with | [[x0]] => replay_Tree_Rows_s x0 | _ => none⟩ else
  if f = n_replay_Tree_Log then some ⟨.fresh, false, [1], 6, fun l => match l with | [[x0]] => replay_Tree_Log_s x0 | _ => none⟩ else
  if f = n_replay_Tree_Steps then some ⟨.fresh, false, [1], 12, fun l => match l with | [[x0]] => replay_Tree_Steps_s x0 | _ => none⟩ else
  if f = n_replay_Tree_Base then some ⟨.fresh, false, [1], 4, fun l => match l with | [[x0]] => replay_Tree_Base_s x0 | _ => none⟩ else
  none
def A_law16_ReplayNil : Ann := { join := (fun r => if r = 5 then some [2] else none), scalar := true }
theorem run_law16_ReplayNil (a0 a1 a2 a3 a4 a5 : IV) : run Try.prog (Γ_law16_ReplayNil) C0 A_law16_ReplayNil Try.f8 [[a0, a1, a2, a3, a4, a5]] = law16_ReplayNil_s a0 a1 a2 a3 a4 a5 := by kernel_rfl

def Γ_fold_All : FuncId → Option FSig := fun f =>
  if f = n_fold_Do then some ⟨.pure, false, [1, 1], 0, fun l => match l with | [[x0], [x1, x2, x3, x4, x5, x6]] => fold_Do_s x0 x1 x2 x3 x4 x5 x6 | _ => none⟩ else
  none
def A_fold_All : Ann := { loop := (fun r => if r = 2 then ([(0, .I), (9, .I)], [[(0, .I)]]) else ([], [])) }
theorem run_fold_All (a0 a1 : IV) : run Try.prog (Γ_fold_All) C0 A_fold_All Try.f47 [[a0], [a1]] = fold_All_s a0 a1 := by kernel_rfl

def Γ_law16_all : FuncId → Option FSig := fun f =>
  if f = n_replay_New then some ⟨.mko [.imm, .imm, .buf 12], false, [1], 0, fun l => match l with | [[x0]] => replay_New_s x0 | _ => none⟩ else
  if f = n_replay_Tree_Add then some ⟨.obj [.imm, .imm, .buf 12], false, [1, 1], 0, fun l => match l with | [[x0, x1, x2], [x3, x4, x5, x6, x7, x8]] => replay_Tree_Add_s x0 x1 x2 x3 x4 x5 x6 x7 x8 | [[x0], [x3, x4, x5, x6, x7, x8]] => onNil x0 (replay_Tree_Add_nil x3 x4 x5 x6 x7 x8) | _ => none⟩ else
  none
def A_law16_all : Ann := { loop := (fun r => if r = 3 then ([(5, (.O [.imm, .imm, .buf 12])), (6, .I)], [[(5, (.O [.imm, .imm, .buf 12]))]]) else ([], [])) }
theorem run_law16_all (a0 a1 : IV) : runN Try.prog Γ_law16_all C0 A_law16_all [.imm, .imm, .buf 12] Try.f48 [[a0], [a1]] = law16_all_s a0 a1 := by kernel_rfl

def Γ_law16_ReplayOrder : FuncId → Option FSig := fun f =>
  if f = n_ref12_Few then some ⟨.pure, true, [1], 0, fun l => match l with | [[x0]] => ref12_Few_s x0 | _ => none⟩ else
  if f = n_ref13_Few then some ⟨.pure, true, [1], 0, fun l => match l with | [[x0], [x1]] => ref13_Few_s x0 x1 | _ => none⟩ else
  if f = n_ref12_May then some ⟨.pure, true, [1], 0, fun l => match l with | [[x0]] => ref12_May_s x0 | _ => none⟩ else
  if f = n_law16_live then some ⟨.pure, true, [1], 0, fun l => match l with | [] => law16_live_s | _ => none⟩ else
  if f = n_ref13_Alike then some ⟨.pure, true, [1], 0, fun l => match l with | [[x0, x1, x2, x3, x4, x5], [x6, x7, x8, x9, x10, x11]] => ref13_Alike_s x0 x1 x2 x3 x4 x5 x6 x7 x8 x9 x10 x11 | _ => none⟩ else
  if f = n_law16_all then some ⟨.mko [.imm, .imm, .buf 12], false, [1], 0, fun l => match l with | [[x0], [x1]] => law16_all_s x0 x1 | _ => none⟩ else
  if f = n_replay_Tree_Rows then some ⟨.fresh, false, [1], 4, fun l => match l with | [[x0]] => replay_Tree_Rows_s x0 | _ => none⟩ else
  if f = n_ref12_Same then some ⟨.pure, true, [1], 0, fun l => match l with | [[x0], [x1]] => ref12_Same_s x0 x1 | _ => none⟩ else
  if f = n_replay_Tree_Log then some ⟨.fresh, false, [1], 6, fun l => match l with | [[x0]] => replay_Tree_Log_s x0 | _ => none⟩ else
  if f = n_ref13_Same then some ⟨.pure, true, [1], 0, fun l => match l with | [[x0], [x1]] => ref13_Same_s x0 x1 | _ => none⟩ else
  if f = n_replay_Tree_Steps then some ⟨.fresh, false, [1], 12, fun l => match l with | [[x0]] => replay_Tree_Steps_s x0 | _ => none⟩ else
  if f = n_ref15_Same then some ⟨.pure, true, [1], 0, fun l => match l with | [[x0], [x1]] => ref15_Same_s x0 x1 | _ => none⟩ else
  if f = n_ref02_Before then some ⟨.pure, true, [1], 0, fun l => match l with | [[x0, x1], [x2, x3]] => ref02_Before_s x0 x1 x2 x3 | _ => none⟩ else
  if f = n_fold_All then some ⟨.pure, false, [1], 0, fun l => match l with | [[x0], [x1]] => fold_All_s x0 x1 | _ => none⟩ else
  none
def A_law16_ReplayOrder : Ann := { order := (fun r => if r = 9 then some ([], [0, 1, 2, 3, 4, 5, 6, 7, 8, 9, 10, 11, 12, 13, 14, 15, 16, 17, 18, 19, 20, 21, 22], []) else if r = 29 then some ([], [0, 1, 2, 3, 4, 5, 6, 7, 8, 9, 10, 11, 12], []) else none), join := (fun r => if r = 1 then some [38] else if r = 9 then some [73] else if r = 15 then some [94] else if r = 23 then some [154] else none), loop := (fun r => if r = 4 then ([(7, .I)], [[], [(6, .I)]]) else if r = 7 then ([(8, .I)], [[], [(6, .I)]]) else if r = 13 then ([(9, (.B 6)), (10, .I)], [[(9, (.B 6))]]) else if r = 18 then ([(9, (.B 6)), (11, .I)], [[(9, (.B 6))]]) else if r = 27 then ([(15, .I)], [[], [(6, .I)]]) else ([], [])), scalar := true }
theorem run_law16_ReplayOrder (a0 a1 a2 : IV) : run Try.prog (Γ_law16_ReplayOrder) C0 A_law16_ReplayOrder Try.f10 [[a0], [a1], [a2]] = law16_ReplayOrder_s a0 a1 a2 := by kernel_rfl

def Γ_ref13_Time : FuncId → Option FSig := fun f =>
  none
def A_ref13_Time : Ann := { join := (fun r => if r = 1 then some [2] else none), scalar := true }
theorem run_ref13_Time (a0 a1 : IV) : run Try.prog (Γ_ref13_Time) C0 A_ref13_Time Try.f76 [[a0, a1]] = ref13_Time_s a0 a1 := by kernel_rfl

def Γ_ref13_One : FuncId → Option FSig := fun f =>
  if f = n_ref13_Time then some ⟨.pure, true, [1], 0, fun l => match l with | [[x0, x1]] => ref13_Time_s x0 x1 | _ => none⟩ else
  if f = n_ref13_Row then some ⟨.pure, true, [4], 0, fun l => match l with | [[x0, x1, x2, x3, x4, x5]] => ref13_Row_s x0 x1 x2 x3 x4 x5 | _ => none⟩ else
  if f = n_ref12_One then some ⟨.pure, true, [1], 0, fun l => match l with | [[x0, x1, x2, x3]] => ref12_One_s x0 x1 x2 x3 | _ => none⟩ else
  none
def A_ref13_One : Ann := { join := (fun r => if r = 1 then some [2] else none), scalar := true }
theorem run_ref13_One (a0 a1 a2 a3 a4 a5 : IV) : run Try.prog (Γ_ref13_One) C0 A_ref13_One Try.f52 [[a0, a1, a2, a3, a4, a5]] = ref13_One_s a0 a1 a2 a3 a4 a5 := by kernel_rfl

def Γ_ref13_May : FuncId → Option FSig := fun f =>
  if f = n_ref13_One then some ⟨.pure, true, [1], 0, fun l => match l with | [[x0, x1, x2, x3, x4, x5]] => ref13_One_s x0 x1 x2 x3 x4 x5 | _ => none⟩ else
  if f = n_ref02_Before then some ⟨.pure, true, [1], 0, fun l => match l with | [[x0, x1], [x2, x3]] => ref02_Before_s x0 x1 x2 x3 | _ => none⟩ else
  none
def A_ref13_May : Ann := { order := (fun r => if r = 6 then some ([], [0, 1, 2, 3, 4, 5, 6, 7, 8, 9, 10, 11, 12, 13, 14, 15, 16, 17, 18, 19, 20, 21, 22, 23, 24], []) else none), join := (fun r => if r = 6 then some [37] else none), loop := (fun r => if r = 4 then ([(3, .I)], [[], [(2, .I)]]) else ([], [])), scalar := true }
theorem run_ref13_May (a0 : IV) : run Try.prog (Γ_ref13_May) C0 A_ref13_May Try.f50 [[a0]] = ref13_May_s a0 := by kernel_rfl

def Γ_ref13_Since : FuncId → Option FSig := fun f =>
  if f = n_ref02_Before then some ⟨.pure, true, [1], 0, fun l => match l with | [[x0, x1], [x2, x3]] => ref02_Before_s x0 x1 x2 x3 | _ => none⟩ else
  none
def A_ref13_Since : Ann := { order := (fun r => if r = 5 then some ([], [0, 1, 2, 3, 4, 5, 6], []) else none), loop := (fun r => if r = 3 then ([(5, (.B 6)), (6, .I)], [[(5, (.B 6))]]) else ([], [])) }
theorem run_ref13_Since (a0 a1 a2 : IV) : run Try.prog (Γ_ref13_Since) C0 A_ref13_Since Try.f51 [[a0], [a1, a2]] = ref13_Since_s a0 a1 a2 := by kernel_rfl

def Γ_law16_ReplayParts : FuncId → Option FSig := fun f =>
  if f = n_ref12_Few then some ⟨.pure, true, [1], 0, fun l => match l with | [[x0]] => ref12_Few_s x0 | _ => none⟩ else
  if f = n_ref13_Few then some ⟨.pure, true, [1], 0, fun l => match l with | [[x0], [x1]] => ref13_Few_s x0 x1 | _ => none⟩ else
  if f = n_ref12_May then some ⟨.pure, true, [1], 0, fun l => match l with | [[x0]] => ref12_May_s x0 | _ => none⟩ else
  if f = n_ref13_May then some ⟨.pure, true, [1], 0, fun l => match l with | [[x0]] => ref13_May_s x0 | _ => none⟩ else
  if f = n_law16_live then some ⟨.pure, true, [1], 0, fun l => match l with | [] => law16_live_s | _ => none⟩ else
  if f = n_law16_all then some ⟨.mko [.imm, .imm, .buf 12], false, [1], 0, fun l => match l with | [[x0], [x1]] => law16_all_s x0 x1 | _ => none⟩ else
  if f = n_ref13_Since then some ⟨.pure, false, [1], 0, fun l => match l with | [[x0], [x1, x2]] => ref13_Since_s x0 x1 x2 | _ => none⟩ else
  if f = n_fold_All then some ⟨.pure, false, [1], 0, fun l => match l with | [[x0], [x1]] => fold_All_s x0 x1 | _ => none⟩ else
  if f = n_replay_New then some ⟨.mko [.imm, .imm, .buf 12], false, [1], 0, fun l => match l with | [[x0]] => replay_New_s x0 | _ => none⟩ else
  if f = n_replay_Tree_Add then some ⟨.obj [.imm, .imm, .buf 12], false, [1, 1], 0, fun l => match l with | [[x0, x1, x2], [x3, x4, x5, x6, x7, x8]] => replay_Tree_Add_s x0 x1 x2 x3 x4 x5 x6 x7 x8 | [[x0], [x3, x4, x5, x6, x7, x8]] => onNil x0 (replay_Tree_Add_nil x3 x4 x5 x6 x7 x8) | _ => none⟩ else
  if f = n_replay_Tree_Rows then some ⟨.fresh, false, [1], 4, fun l => match l with | [[x0]] => replay_Tree_Rows_s x0 | _ => none⟩ else
  if f = n_ref12_Same then some ⟨.pure, true, [1], 0, fun l => match l with | [[x0], [x1]] => ref12_Same_s x0 x1 | _ => none⟩ else
  if f = n_replay_Tree_Log then some ⟨.fresh, false, [1], 6, fun l => match l with | [[x0]] => replay_Tree_Log_s x0 | _ => none⟩ else
  if f = n_ref13_Same then some ⟨.pure, true, [1], 0, fun l => match l with | [[x0], [x1]] => ref13_Same_s x0 x1 | _ => none⟩ else
  none
def A_law16_ReplayParts : Ann := { join := (fun r => if r = 1 then some [35] else if r = 14 then some [83] else if r = 16 then some [6] else none), loop := (fun r => if r = 11 then ([(9, (.O [.imm, .imm, .buf 12])), (10, .I)], [[(9, (.O [.imm, .imm, .buf 12]))], [(6, .I)]]) else ([], [])), scalar := true }
theorem run_law16_ReplayParts (a0 a1 a2 a3 : IV) : run Try.prog (Γ_law16_ReplayParts) C0 A_law16_ReplayParts Try.f11 [[a0], [a1], [a2, a3]] = law16_ReplayParts_s a0 a1 a2 a3 := by kernel_rfl

def Γ_law16_ReplayTells : FuncId → Option FSig := fun f =>
  if f = n_ref12_Few then some ⟨.pure, true, [1], 0, fun l => match l with | [[x0]] => ref12_Few_s x0 | _ => none⟩ else
  if f = n_ref13_Few then some ⟨.pure, true, [1], 0, fun l => match l with | [[x0], [x1]] => ref13_Few_s x0 x1 | _ => none⟩ else
  if f = n_ref12_May then some ⟨.pure, true, [1], 0, fun l => match l with | [[x0]] => ref12_May_s x0 | _ => none⟩ else
  if f = n_ref13_One then some ⟨.pure, true, [1], 0, fun l => match l with | [[x0, x1, x2, x3, x4, x5]] => ref13_One_s x0 x1 x2 x3 x4 x5 | _ => none⟩ else
  if f = n_law16_live then some ⟨.pure, true, [1], 0, fun l => match l with | [] => law16_live_s | _ => none⟩ else
  if f = n_law16_all then some ⟨.mko [.imm, .imm, .buf 12], false, [1], 0, fun l => match l with | [[x0], [x1]] => law16_all_s x0 x1 | _ => none⟩ else
  if f = n_replay_Tree_Rows then some ⟨.fresh, false, [1], 4, fun l => match l with | [[x0]] => replay_Tree_Rows_s x0 | _ => none⟩ else
  if f = n_replay_Tree_Log then some ⟨.fresh, false, [1], 6, fun l => match l with | [[x0]] => replay_Tree_Log_s x0 | _ => none⟩ else
  if f = n_ref02_Before then some ⟨.pure, true, [1], 0, fun l => match l with | [[x0, x1], [x2, x3]] => ref02_Before_s x0 x1 x2 x3 | _ => none⟩ else
  if f = n_replay_Tree_Add then some ⟨.obj [.imm, .imm, .buf 12], false, [1, 1], 0, fun l => match l with | [[x0, x1, x2], [x3, x4, x5, x6, x7, x8]] => replay_Tree_Add_s x0 x1 x2 x3 x4 x5 x6 x7 x8 | [[x0], [x3, x4, x5, x6, x7, x8]] => onNil x0 (replay_Tree_Add_nil x3 x4 x5 x6 x7 x8) | _ => none⟩ else
  if f = n_ref12_Same then some ⟨.pure, true, [1], 0, fun l => match l with | [[x0], [x1]] => ref12_Same_s x0 x1 | _ => none⟩ else
  if f = n_tree_May then some ⟨.pure, true, [1], 0, fun l => match l with | [[x0]] => tree_May_s x0 | _ => none⟩ else
  if f = n_replay_Tree_Steps then some ⟨.fresh, false, [1], 12, fun l => match l with | [[x0]] => replay_Tree_Steps_s x0 | _ => none⟩ else
  none
def A_law16_ReplayTells : Ann := { order := (fun r => if r = 18 then some ([], [0, 1, 2, 3, 4, 5, 6, 7], []) else if r = 20 then some ([], [0, 1, 2, 3, 4, 5, 6, 7, 8, 9, 10, 11], []) else none), join := (fun r => if r = 1 then some [38] else if r = 20 then some [11] else if r = 22 then some [120] else if r = 24 then some [6] else none), loop := (fun r => if r = 4 then ([(7, .I)], [[], [(6, .I)]]) else if r = 16 then ([(10, .I), (11, .I), (13, .I)], [[(10, .I), (11, .I)]]) else ([], [])), scalar := true }
theorem run_law16_ReplayTells (a0 a1 a2 a3 a4 a5 a6 a7 : IV) : run Try.prog (Γ_law16_ReplayTells) C0 A_law16_ReplayTells Try.f12 [[a0], [a1], [a2, a3, a4, a5, a6, a7]] = law16_ReplayTells_s a0 a1 a2 a3 a4 a5 a6 a7 := by kernel_rfl

end Go.AM

/- Each function that is reached runs in the abstract machine as printed. -/
import Derived.Test.YtjgbgmedbfhgdaaGreatSh
import Derived.Test.YtjgbgmedbfhgdaaGreatProg
set_option linter.unusedVariables false
set_option maxRecDepth 100000
namespace Go.AM
open Go.Proofs
def Γ_word_head : FuncId → Option FSig := fun f =>
  none
def A_word_head : Ann := { scalar := true }
theorem run_word_head (a0 : IV) : run Tryz.prog (Γ_word_head) C0 A_word_head Tryz.f137 [[a0]] = word_head_s a0 := by kernel_rfl

def Γ_word_signs : FuncId → Option FSig := fun f =>
  if f = n_word_head then some ⟨.pure, true, [1, 1, 1, 1], 0, fun l => match l with | [[x0]] => word_head_s x0 | _ => none⟩ else
  none
def A_word_signs : Ann := { join := (fun r => if r = 4 then some [34] else if r = 8 then some [56] else none), loop := (fun r => if r = 2 then ([(4, .I), (5, .I)], [[(4, .I), (5, .I)]]) else if r = 6 then ([(7, .I), (8, .I), (45, .I)], [[], []]) else ([], [])), scalar := true }
theorem run_word_signs (a0 : IV) : run Tryz.prog (Γ_word_signs) C0 A_word_signs Tryz.f121 [[a0]] = word_signs_s a0 := by kernel_rfl

def Γ_word_Valid : FuncId → Option FSig := fun f =>
  if f = n_word_signs then some ⟨.pure, true, [1, 1], 0, fun l => match l with | [[x0]] => word_signs_s x0 | _ => none⟩ else
  none
def A_word_Valid : Ann := { scalar := true }
theorem run_word_Valid (a0 : IV) : run Tryz.prog (Γ_word_Valid) C0 A_word_Valid Tryz.f105 [[a0]] = word_Valid_s a0 := by kernel_rfl

def Γ_tree_One : FuncId → Option FSig := fun f =>
  if f = n_word_Valid then some ⟨.pure, true, [1], 0, fun l => match l with | [[x0]] => word_Valid_s x0 | _ => none⟩ else
  none
def A_tree_One : Ann := { join := (fun r => if r = 1 then some [2] else none), scalar := true }
theorem run_tree_One (a0 a1 a2 a3 : IV) : run Tryz.prog (Γ_tree_One) C0 A_tree_One Tryz.f74 [[a0, a1, a2, a3]] = tree_One_s a0 a1 a2 a3 := by kernel_rfl

def Γ_ref12_Few : FuncId → Option FSig := fun f =>
  none
def A_ref12_Few : Ann := { loop := (fun r => if r = 4 then ([(3, .I)], [[], [(2, .I)]]) else ([], [])), scalar := true }
theorem run_ref12_Few (a0 : IV) : run Tryz.prog (Γ_ref12_Few) C0 A_ref12_Few Tryz.f34 [[a0]] = ref12_Few_s a0 := by kernel_rfl

def Γ_ref13_Few : FuncId → Option FSig := fun f =>
  none
def A_ref13_Few : Ann := { loop := (fun r => if r = 4 then ([(5, .I)], [[], [(4, .I)]]) else ([], [])), scalar := true }
theorem run_ref13_Few (a0 a1 : IV) : run Tryz.prog (Γ_ref13_Few) C0 A_ref13_Few Tryz.f23 [[a0], [a1]] = ref13_Few_s a0 a1 := by kernel_rfl

def Γ_ref18_Few : FuncId → Option FSig := fun f =>
  if f = n_ref12_Few then some ⟨.pure, true, [1], 0, fun l => match l with | [[x0]] => ref12_Few_s x0 | _ => none⟩ else
  if f = n_ref13_Few then some ⟨.pure, true, [1], 0, fun l => match l with | [[x0], [x1]] => ref13_Few_s x0 x1 | _ => none⟩ else
  none
def A_ref18_Few : Ann := { join := (fun r => if r = 1 then some [2] else none), scalar := true }
theorem run_ref18_Few (a0 a1 a2 a3 a4 : IV) : run Tryz.prog (Γ_ref18_Few) C0 A_ref18_Few Tryz.f10 [[a0, a1, a2, a3, a4]] = ref18_Few_s a0 a1 a2 a3 a4 := by kernel_rfl

def Γ_rank_first (C : IV → List Nat → List (List IV) → Option (List IV)) : FuncId → Option FSig := fun f =>
  none
def A_rank_first : Ann := { loop := (fun r => if r = 2 then ([(8, .I)], [[], [(2, .I)]]) else ([], [])), scalar := true }
theorem run_rank_first (C : IV → List Nat → List (List IV) → Option (List IV)) (a0 : IV) : run Tryz.prog (Γ_rank_first C) C A_rank_first Tryz.f76 [[a0]] = rank_first_s C a0 := by kernel_rfl

def Γ_cmp_isNaN_int : FuncId → Option FSig := fun f =>
  none
def A_cmp_isNaN_int : Ann := { scalar := true }
theorem run_cmp_isNaN_int (a0 : IV) : run Tryz.prog (Γ_cmp_isNaN_int) C0 A_cmp_isNaN_int Tryz.f106 [[a0]] = cmp_isNaN_int_s a0 := by kernel_rfl

def Γ_cmp_Compare_int : FuncId → Option FSig := fun f =>
  if f = n_cmp_isNaN_int then some ⟨.pure, true, [1], 0, fun l => match l with | [[x0]] => cmp_isNaN_int_s x0 | _ => none⟩ else
  none
def A_cmp_Compare_int : Ann := { scalar := true }
theorem run_cmp_Compare_int (a0 a1 : IV) : run Tryz.prog (Γ_cmp_Compare_int) C0 A_cmp_Compare_int Tryz.f78 [[a0], [a1]] = cmp_Compare_int_s a0 a1 := by kernel_rfl

def Γ_rank_Before_1 : FuncId → Option FSig := fun f =>
  if f = n_cmp_Compare_int then some ⟨.pure, true, [1], 0, fun l => match l with | [[x0], [x1]] => cmp_Compare_int_s x0 x1 | _ => none⟩ else
  none
def A_rank_Before_1 : Ann := { scalar := true }
theorem run_rank_Before_1 (a0 a1 : IV) : run Tryz.prog (Γ_rank_Before_1) C0 A_rank_Before_1 Tryz.f77 [[a0], [a1]] = rank_Before_1_s a0 a1 := by kernel_rfl

def Γ_rank_Before_2 : FuncId → Option FSig := fun f =>
  if f = n_cmp_Compare_int then some ⟨.pure, true, [1], 0, fun l => match l with | [[x0], [x1]] => cmp_Compare_int_s x0 x1 | _ => none⟩ else
  none
def A_rank_Before_2 : Ann := { scalar := true }
theorem run_rank_Before_2 (a0 a1 : IV) : run Tryz.prog (Γ_rank_Before_2) C0 A_rank_Before_2 Tryz.f79 [[a0], [a1]] = rank_Before_2_s a0 a1 := by kernel_rfl

def Γ_rank_Before : FuncId → Option FSig := fun f =>
  if f = n_rank_first then some ⟨.pure, true, [1], 0, fun l => match l with | [[x0]] => rank_first_s (Cx_rank_Before) x0 | _ => none⟩ else
  none
def A_rank_Before : Ann := { scalar := true }
theorem run_rank_Before (a0 a1 a2 a3 : IV) : run Tryz.prog (Γ_rank_Before) (Cx_rank_Before) A_rank_Before Tryz.f37 [[a0, a1], [a2, a3]] = rank_Before_s a0 a1 a2 a3 := by kernel_rfl

def Γ_slices_IndexFunc_Move (C : IV → List Nat → List (List IV) → Option (List IV)) : FuncId → Option FSig := fun f =>
  none
def A_slices_IndexFunc_Move : Ann := { loop := (fun r => if r = 2 then ([(8, .I)], [[], [(4, .I)]]) else ([], [])), scalar := true }
theorem run_slices_IndexFunc_Move (C : IV → List Nat → List (List IV) → Option (List IV)) (a0 a1 : IV) : run Tryz.prog (Γ_slices_IndexFunc_Move C) C A_slices_IndexFunc_Move Tryz.f116 [[a0], [a1]] = slices_IndexFunc_Move_s C a0 a1 := by kernel_rfl

def Γ_slices_ContainsFunc_Move (C : IV → List Nat → List (List IV) → Option (List IV)) : FuncId → Option FSig := fun f =>
  if f = n_slices_IndexFunc_Move then some ⟨.pure, true, [1], 0, fun l => match l with | [[x0], [x1]] => slices_IndexFunc_Move_s C x0 x1 | _ => none⟩ else
  none
def A_slices_ContainsFunc_Move : Ann := { scalar := true }
theorem run_slices_ContainsFunc_Move (C : IV → List Nat → List (List IV) → Option (List IV)) (a0 a1 : IV) : run Tryz.prog (Γ_slices_ContainsFunc_Move C) C A_slices_ContainsFunc_Move Tryz.f94 [[a0], [a1]] = slices_ContainsFunc_Move_s C a0 a1 := by kernel_rfl

def Γ_moves_Row : FuncId → Option FSig := fun f =>
  none
def A_moves_Row : Ann := { scalar := true }
theorem run_moves_Row (a0 a1 a2 a3 a4 a5 : IV) : run Tryz.prog (Γ_moves_Row) C0 A_moves_Row Tryz.f75 [[a0, a1, a2, a3, a4, a5]] = moves_Row_s a0 a1 a2 a3 a4 a5 := by kernel_rfl

def Γ_moves_One : FuncId → Option FSig := fun f =>
  if f = n_moves_Row then some ⟨.pure, true, [4], 0, fun l => match l with | [[x0, x1, x2, x3, x4, x5]] => moves_Row_s x0 x1 x2 x3 x4 x5 | _ => none⟩ else
  if f = n_tree_One then some ⟨.pure, true, [1], 0, fun l => match l with | [[x0, x1, x2, x3]] => tree_One_s x0 x1 x2 x3 | _ => none⟩ else
  none
def A_moves_One : Ann := { join := (fun r => if r = 2 then some [2] else none), scalar := true }
theorem run_moves_One (a0 a1 a2 a3 a4 a5 : IV) : run Tryz.prog (Γ_moves_One) C0 A_moves_One Tryz.f36 [[a0, a1, a2, a3, a4, a5]] = moves_One_s a0 a1 a2 a3 a4 a5 := by kernel_rfl

def Γ_moves_May_1 : FuncId → Option FSig := fun f =>
  if f = n_moves_One then some ⟨.pure, true, [1], 0, fun l => match l with | [[x0, x1, x2, x3, x4, x5]] => moves_One_s x0 x1 x2 x3 x4 x5 | _ => none⟩ else
  none
def A_moves_May_1 : Ann := { scalar := true }
theorem run_moves_May_1 (a0 a1 a2 a3 a4 a5 : IV) : run Tryz.prog (Γ_moves_May_1) C0 A_moves_May_1 Tryz.f95 [[a0, a1, a2, a3, a4, a5]] = moves_May_1_s a0 a1 a2 a3 a4 a5 := by kernel_rfl

def Γ_moves_May : FuncId → Option FSig := fun f =>
  if f = n_rank_Before then some ⟨.pure, true, [1], 0, fun l => match l with | [[x0, x1], [x2, x3]] => rank_Before_s x0 x1 x2 x3 | _ => none⟩ else
  if f = n_slices_ContainsFunc_Move then some ⟨.pure, true, [1], 0, fun l => match l with | [[x0], [x1]] => slices_ContainsFunc_Move_s (Cx_moves_May) x0 x1 | _ => none⟩ else
  none
def A_moves_May : Ann := { order := (fun r => if r = 4 then some ([], [0, 1, 2, 3, 4, 5, 6, 7, 8, 9, 10, 11, 12], []) else none), join := (fun r => if r = 6 then some [2] else none), loop := (fun r => if r = 2 then ([(3, .I)], [[], [(2, .I)]]) else ([], [])), scalar := true }
theorem run_moves_May (a0 : IV) : run Tryz.prog (Γ_moves_May) (Cx_moves_May) A_moves_May Tryz.f53 [[a0]] = moves_May_s a0 := by kernel_rfl

def Γ_marks_May : FuncId → Option FSig := fun f =>
  none
def A_marks_May : Ann := { order := (fun r => if r = 4 then some ([], [0, 1, 2, 3, 4, 5, 6, 7, 8, 9, 10, 11, 12, 13, 14, 15, 16, 17, 18, 19, 20, 21, 22, 23, 24, 25, 26, 27, 28, 29, 30, 31, 32], []) else none), join := (fun r => if r = 4 then some [44] else none), loop := (fun r => if r = 2 then ([(7, .I)], [[], [(2, .I)]]) else ([], [])), scalar := true }
theorem run_marks_May (a0 : IV) : run Tryz.prog (Γ_marks_May) C0 A_marks_May Tryz.f54 [[a0]] = marks_May_s a0 := by kernel_rfl

def Γ_floor_May_1 : FuncId → Option FSig := fun f =>
  if f = n_tree_May then some ⟨.pure, true, [1], 0, fun l => match l with | [[x0]] => tree_May_s x0 | _ => none⟩ else
  if f = n_moves_May then some ⟨.pure, true, [1], 0, fun l => match l with | [[x0]] => moves_May_s x0 | _ => none⟩ else
  if f = n_marks_May then some ⟨.pure, true, [1], 0, fun l => match l with | [[x0]] => marks_May_s x0 | _ => none⟩ else
  none
def A_floor_May_1 : Ann := { join := (fun r => if r = 1 then some [1] else none), scalar := true }
theorem run_floor_May_1 (a0 : IV) : run Tryz.prog (Γ_floor_May_1) C0 A_floor_May_1 Tryz.f51 [[a0]] = floor_May_1_s a0 := by kernel_rfl

def Γ_slices_IndexFunc_Mark (C : IV → List Nat → List (List IV) → Option (List IV)) : FuncId → Option FSig := fun f =>
  none
def A_slices_IndexFunc_Mark : Ann := { loop := (fun r => if r = 2 then ([(8, .I)], [[], [(4, .I)]]) else ([], [])), scalar := true }
theorem run_slices_IndexFunc_Mark (C : IV → List Nat → List (List IV) → Option (List IV)) (a0 a1 : IV) : run Tryz.prog (Γ_slices_IndexFunc_Mark C) C A_slices_IndexFunc_Mark Tryz.f87 [[a0], [a1]] = slices_IndexFunc_Mark_s C a0 a1 := by kernel_rfl

def Γ_marks_place_1 : FuncId → Option FSig := fun f =>
  none
def A_marks_place_1 : Ann := { scalar := true }
theorem run_marks_place_1 (a0 a1 a2 : IV) : run Tryz.prog (Γ_marks_place_1) C0 A_marks_place_1 Tryz.f104 [[a0, a1], [a2]] = marks_place_1_s a0 a1 a2 := by kernel_rfl

def Γ_marks_place : FuncId → Option FSig := fun f =>
  if f = n_slices_IndexFunc_Mark then some ⟨.pure, true, [1], 0, fun l => match l with | [[x0], [x1]] => slices_IndexFunc_Mark_s (Cx_marks_place) x0 x1 | _ => none⟩ else
  none
def A_marks_place : Ann := { scalar := true }
theorem run_marks_place (a0 a1 : IV) : run Tryz.prog (Γ_marks_place) (Cx_marks_place) A_marks_place Tryz.f71 [[a0], [a1]] = marks_place_s a0 a1 := by kernel_rfl

def Γ_marks_greatest : FuncId → Option FSig := fun f =>
  none
def A_marks_greatest : Ann := { loop := (fun r => if r = 2 then ([(0, .I), (9, .I)], [[(0, .I)]]) else ([], [])), scalar := true }
theorem run_marks_greatest (a0 a1 : IV) : run Tryz.prog (Γ_marks_greatest) C0 A_marks_greatest Tryz.f86 [[a0], [a1]] = marks_greatest_s a0 a1 := by kernel_rfl

def Γ_marks_Raise_1 : FuncId → Option FSig := fun f =>
  none
def A_marks_Raise_1 : Ann := { scalar := true }
theorem run_marks_Raise_1 (a0 a1 a2 : IV) : run Tryz.prog (Γ_marks_Raise_1) C0 A_marks_Raise_1 Tryz.f88 [[a0, a1], [a2]] = marks_Raise_1_s a0 a1 a2 := by kernel_rfl

def Γ_marks_Raise : FuncId → Option FSig := fun f =>
  if f = n_slices_Clone_Mark then some ⟨.own, false, [1], 2, fun l => match l with | [[x0]] => slices_Clone_Mark_s x0 | _ => none⟩ else
  if f = n_marks_place then some ⟨.pure, true, [1, 1], 0, fun l => match l with | [[x0], [x1]] => marks_place_s x0 x1 | _ => none⟩ else
  if f = n_marks_greatest then some ⟨.pure, true, [1], 0, fun l => match l with | [[x0], [x1]] => marks_greatest_s x0 x1 | _ => none⟩ else
  if f = n_slices_IndexFunc_Mark then some ⟨.pure, true, [1], 0, fun l => match l with | [[x0], [x1]] => slices_IndexFunc_Mark_s (Cx_marks_Raise) x0 x1 | _ => none⟩ else
  if f = n_slices_Insert_Mark then some ⟨.cons, false, [1], 2, fun l => match l with | [[x0], [x1], [x2]] => slices_Insert_Mark_s x0 x1 x2 | _ => none⟩ else
  none
def A_marks_Raise : Ann := { order := (fun r => if r = 4 then some ([], [0, 1, 2, 3, 4, 5, 6, 7, 8, 9, 10, 11, 12], [13]) else none) }
theorem run_marks_Raise (a0 a1 a2 : IV) : run Tryz.prog (Γ_marks_Raise) (Cx_marks_Raise) A_marks_Raise Tryz.f40 [[a0], [a1, a2]] = marks_Raise_s a0 a1 a2 := by kernel_rfl

def Γ_marks_Of : FuncId → Option FSig := fun f =>
  if f = n_marks_Raise then some ⟨.pure, false, [1], 0, fun l => match l with | [[x0], [x1, x2]] => marks_Raise_s x0 x1 x2 | _ => none⟩ else
  none
def A_marks_Of : Ann := { loop := (fun r => if r = 3 then ([(3, .I), (8, .I)], [[(3, .I)]]) else ([], [])) }
theorem run_marks_Of (a0 : IV) : run Tryz.prog (Γ_marks_Of) C0 A_marks_Of Tryz.f33 [[a0]] = marks_Of_s a0 := by kernel_rfl

def Γ_slices_ContainsFunc_Mark (C : IV → List Nat → List (List IV) → Option (List IV)) : FuncId → Option FSig := fun f =>
  if f = n_slices_IndexFunc_Mark then some ⟨.pure, true, [1], 0, fun l => match l with | [[x0], [x1]] => slices_IndexFunc_Mark_s C x0 x1 | _ => none⟩ else
  none
def A_slices_ContainsFunc_Mark : Ann := { scalar := true }
theorem run_slices_ContainsFunc_Mark (C : IV → List Nat → List (List IV) → Option (List IV)) (a0 a1 : IV) : run Tryz.prog (Γ_slices_ContainsFunc_Mark C) C A_slices_ContainsFunc_Mark Tryz.f72 [[a0], [a1]] = slices_ContainsFunc_Mark_s C a0 a1 := by kernel_rfl

def Γ_marks_Get : FuncId → Option FSig := fun f =>
  if f = n_marks_place then some ⟨.pure, true, [1, 1], 0, fun l => match l with | [[x0], [x1]] => marks_place_s x0 x1 | _ => none⟩ else
  none
def A_marks_Get : Ann := { scalar := true }
theorem run_marks_Get (a0 a1 : IV) : run Tryz.prog (Γ_marks_Get) C0 A_marks_Get Tryz.f28 [[a0], [a1]] = marks_Get_s a0 a1 := by kernel_rfl

def Γ_marks_Below_1 : FuncId → Option FSig := fun f =>
  if f = n_marks_Get then some ⟨.pure, true, [1], 0, fun l => match l with | [[x0], [x1]] => marks_Get_s x0 x1 | _ => none⟩ else
  none
def A_marks_Below_1 : Ann := { order := (fun r => if r = 1 then some ([], [0, 1, 2, 3, 4, 5, 6, 7, 8, 9], []) else none), scalar := true }
theorem run_marks_Below_1 (a0 a1 a2 a3 : IV) : run Tryz.prog (Γ_marks_Below_1) C0 A_marks_Below_1 Tryz.f73 [[a0, a1], [a2], [a3]] = marks_Below_1_s a0 a1 a2 a3 := by kernel_rfl

def Γ_marks_Below : FuncId → Option FSig := fun f =>
  if f = n_slices_ContainsFunc_Mark then some ⟨.pure, true, [1], 0, fun l => match l with | [[x0], [x1]] => slices_ContainsFunc_Mark_s (Cx_marks_Below) x0 x1 | _ => none⟩ else
  none
def A_marks_Below : Ann := { scalar := true }
theorem run_marks_Below (a0 a1 : IV) : run Tryz.prog (Γ_marks_Below) (Cx_marks_Below) A_marks_Below Tryz.f29 [[a0], [a1]] = marks_Below_s a0 a1 := by kernel_rfl

def Γ_floor_May_2 : FuncId → Option FSig := fun f =>
  if f = n_marks_Of then some ⟨.pure, false, [1], 0, fun l => match l with | [[x0]] => marks_Of_s x0 | _ => none⟩ else
  if f = n_marks_Below then some ⟨.pure, true, [1], 0, fun l => match l with | [[x0], [x1]] => marks_Below_s x0 x1 | _ => none⟩ else
  none
def A_floor_May_2 : Ann := { order := (fun r => if r = 1 then some ([], [0, 1, 2, 3, 4, 5, 6], []) else none), scalar := true }
theorem run_floor_May_2 (a0 : IV) : run Tryz.prog (Γ_floor_May_2) C0 A_floor_May_2 Tryz.f55 [[a0]] = floor_May_2_s a0 := by kernel_rfl

def Γ_floor_known : FuncId → Option FSig := fun f =>
  if f = n_marks_Get then some ⟨.pure, true, [1], 0, fun l => match l with | [[x0], [x1]] => marks_Get_s x0 x1 | _ => none⟩ else
  none
def A_floor_known : Ann := { order := (fun r => if r = 1 then some ([], [0, 1, 2, 3, 4, 5, 6, 7, 8, 9, 10, 11, 12, 13, 14, 15, 16, 17, 18, 19, 20, 21, 22, 23, 24, 25, 26, 27], []) else none), join := (fun r => if r = 1 then some [4] else none), scalar := true }
theorem run_floor_known (a0 a1 a2 : IV) : run Tryz.prog (Γ_floor_known) C0 A_floor_known Tryz.f44 [[a0], [a1, a2]] = floor_known_s a0 a1 a2 := by kernel_rfl

def Γ_floor_May_3 : FuncId → Option FSig := fun f =>
  if f = n_floor_known then some ⟨.pure, true, [1], 0, fun l => match l with | [[x0], [x1, x2]] => floor_known_s x0 x1 x2 | _ => none⟩ else
  none
def A_floor_May_3 : Ann := { join := (fun r => if r = 1 then some [1] else none), scalar := true }
theorem run_floor_May_3 (a0 : IV) : run Tryz.prog (Γ_floor_May_3) C0 A_floor_May_3 Tryz.f56 [[a0]] = floor_May_3_s a0 := by kernel_rfl

def Γ_moves_when_before : FuncId → Option FSig := fun f =>
  if f = n_rank_Before then some ⟨.pure, true, [1], 0, fun l => match l with | [[x0, x1], [x2, x3]] => rank_Before_s x0 x1 x2 x3 | _ => none⟩ else
  none
def A_moves_when_before : Ann := { scalar := true }
theorem run_moves_when_before (a0 a1 a2 a3 a4 a5 a6 a7 : IV) : run Tryz.prog (Γ_moves_when_before) C0 A_moves_when_before Tryz.f82 [[a0, a1], [a2, a3, a4, a5, a6, a7]] = moves_when_before_s a0 a1 a2 a3 a4 a5 a6 a7 := by kernel_rfl

def Γ_moves_Since : FuncId → Option FSig := fun f =>
  if f = n_moves_when_before then some ⟨.pure, true, [1], 0, fun l => match l with | [[x0, x1], [x2, x3, x4, x5, x6, x7]] => moves_when_before_s x0 x1 x2 x3 x4 x5 x6 x7 | _ => none⟩ else
  none
def A_moves_Since : Ann := { loop := (fun r => if r = 3 then ([(5, (.B 6)), (10, .I)], [[(5, (.B 6))]]) else ([], [])) }
theorem run_moves_Since (a0 a1 a2 : IV) : run Tryz.prog (Γ_moves_Since) C0 A_moves_Since Tryz.f45 [[a0], [a1, a2]] = moves_Since_s a0 a1 a2 := by kernel_rfl

def Γ_floor_May_4 : FuncId → Option FSig := fun f =>
  if f = n_moves_Since then some ⟨.pure, false, [1], 0, fun l => match l with | [[x0], [x1, x2]] => moves_Since_s x0 x1 x2 | _ => none⟩ else
  none
def A_floor_May_4 : Ann := { order := (fun r => if r = 1 then some ([], [0, 1, 2, 3, 4, 5, 6, 7, 8, 9, 10], []) else none), scalar := true }
theorem run_floor_May_4 (a0 : IV) : run Tryz.prog (Γ_floor_May_4) C0 A_floor_May_4 Tryz.f57 [[a0]] = floor_May_4_s a0 := by kernel_rfl

def Γ_floor_children : FuncId → Option FSig := fun f =>
  none
def A_floor_children : Ann := { loop := (fun r => if r = 3 then ([(3, .M), (12, .I)], [[(3, .M)]]) else if r = 8 then ([(3, .M), (23, .I)], [[(3, .M)]]) else ([], [])) }
theorem run_floor_children (a0 a1 a2 a3 a4 : IV) : run Tryz.prog (Γ_floor_children) C0 A_floor_children Tryz.f39 [[a0, a1, a2, a3, a4]] = floor_children_s a0 a1 a2 a3 a4 := by kernel_rfl

def Γ_floor_May_5 : FuncId → Option FSig := fun f =>
  if f = n_floor_children then some ⟨.pure, false, [1], 0, fun l => match l with | [[x0, x1, x2, x3, x4]] => floor_children_s x0 x1 x2 x3 x4 | _ => none⟩ else
  none
def A_floor_May_5 : Ann := { scalar := true }
theorem run_floor_May_5 (a0 : IV) : run Tryz.prog (Γ_floor_May_5) C0 A_floor_May_5 Tryz.f58 [[a0]] = floor_May_5_s a0 := by kernel_rfl

def Γ_floor_May : FuncId → Option FSig := fun f =>
  none
def A_floor_May : Ann := { loop := (fun r => if r = 2 then ([(12, .I)], [[], [(2, .I)]]) else ([], [])), scalar := true }
theorem run_floor_May (a0 a1 a2 a3 a4 : IV) : run Tryz.prog (Γ_floor_May) (Cx_floor_May) A_floor_May Tryz.f16 [[a0, a1, a2, a3, a4]] = floor_May_s a0 a1 a2 a3 a4 := by kernel_rfl

def Γ_moves_seek (C : IV → List Nat → List (List IV) → Option (List IV)) : FuncId → Option FSig := fun f =>
  none
def A_moves_seek : Ann := { loop := (fun r => if r = 2 then ([(11, .I)], [[], [(6, .I)]]) else ([], [])), scalar := true }
theorem run_moves_seek (C : IV → List Nat → List (List IV) → Option (List IV)) (a0 a1 a2 a3 : IV) : run Tryz.prog (Γ_moves_seek C) C A_moves_seek Tryz.f80 [[a0], [a1, a2], [a3]] = moves_seek_s C a0 a1 a2 a3 := by kernel_rfl

def Γ_moves_when_is : FuncId → Option FSig := fun f =>
  none
def A_moves_when_is : Ann := { scalar := true }
theorem run_moves_when_is (a0 a1 a2 a3 a4 a5 a6 a7 : IV) : run Tryz.prog (Γ_moves_when_is) C0 A_moves_when_is Tryz.f81 [[a0, a1], [a2, a3, a4, a5, a6, a7]] = moves_when_is_s a0 a1 a2 a3 a4 a5 a6 a7 := by kernel_rfl

def Γ_moves_Insert : FuncId → Option FSig := fun f =>
  if f = n_moves_seek then some ⟨.pure, true, [1], 0, fun l => match l with | [[x0], [x1, x2], [x3]] => moves_seek_s (Cx_moves_Insert) x0 x1 x2 x3 | _ => none⟩ else
  if f = n_slices_Clone_Move then some ⟨.own, false, [1], 6, fun l => match l with | [[x0]] => slices_Clone_Move_s x0 | _ => none⟩ else
  if f = n_slices_Insert_Move then some ⟨.cons, false, [1], 6, fun l => match l with | [[x0], [x1], [x2]] => slices_Insert_Move_s x0 x1 x2 | _ => none⟩ else
  none
def A_moves_Insert : Ann := { order := (fun r => if r = 6 then some ([6], [0, 1, 2, 3, 4], [5, 7, 8, 9]) else none) }
theorem run_moves_Insert (a0 a1 a2 a3 a4 a5 a6 : IV) : run Tryz.prog (Γ_moves_Insert) (Cx_moves_Insert) A_moves_Insert Tryz.f38 [[a0], [a1, a2, a3, a4, a5, a6]] = moves_Insert_s a0 a1 a2 a3 a4 a5 a6 := by kernel_rfl

def Γ_floor_Add : FuncId → Option FSig := fun f =>
  if f = n_floor_May then some ⟨.pure, true, [1], 0, fun l => match l with | [[x0, x1, x2, x3, x4]] => floor_May_s x0 x1 x2 x3 x4 | _ => none⟩ else
  if f = n_moves_One then some ⟨.pure, true, [1], 0, fun l => match l with | [[x0, x1, x2, x3, x4, x5]] => moves_One_s x0 x1 x2 x3 x4 x5 | _ => none⟩ else
  if f = n_rank_Before then some ⟨.pure, true, [1], 0, fun l => match l with | [[x0, x1], [x2, x3]] => rank_Before_s x0 x1 x2 x3 | _ => none⟩ else
  if f = n_moves_Insert then some ⟨.pure, false, [1, 1, 1], 0, fun l => match l with | [[x0], [x1, x2, x3, x4, x5, x6]] => moves_Insert_s x0 x1 x2 x3 x4 x5 x6 | _ => none⟩ else
  if f = n_floor_children then some ⟨.pure, false, [1], 0, fun l => match l with | [[x0, x1, x2, x3, x4]] => floor_children_s x0 x1 x2 x3 x4 | _ => none⟩ else
  if f = n_marks_Raise then some ⟨.pure, false, [1], 0, fun l => match l with | [[x0], [x1, x2]] => marks_Raise_s x0 x1 x2 | _ => none⟩ else
  none
def A_floor_Add : Ann := { join := (fun r => if r = 1 then some [11] else if r = 9 then some [57] else none) }
theorem run_floor_Add (a0 a1 a2 a3 a4 a5 a6 a7 a8 a9 a10 : IV) : run Tryz.prog (Γ_floor_Add) C0 A_floor_Add Tryz.f12 [[a0, a1, a2, a3, a4], [a5, a6, a7, a8, a9, a10]] = floor_Add_s a0 a1 a2 a3 a4 a5 a6 a7 a8 a9 a10 := by kernel_rfl

def Γ_floor_Merge : FuncId → Option FSig := fun f =>
  if f = n_floor_Add then some ⟨.pure, false, [5, 1, 1], 0, fun l => match l with | [[x0, x1, x2, x3, x4], [x5, x6, x7, x8, x9, x10]] => floor_Add_s x0 x1 x2 x3 x4 x5 x6 x7 x8 x9 x10 | _ => none⟩ else
  none
def A_floor_Merge : Ann := { loop := (fun r => if r = 3 then ([(4, (.G 5)), (6, (.G 5)), (13, .I)], [[(4, (.G 5)), (6, (.G 5))], [(4, (.G 5)), (5, .I)]]) else ([], [])) }
theorem run_floor_Merge (a0 a1 a2 a3 a4 a5 : IV) : run Tryz.prog (Γ_floor_Merge) C0 A_floor_Merge Tryz.f24 [[a0, a1, a2, a3, a4], [a5]] = floor_Merge_s a0 a1 a2 a3 a4 a5 := by kernel_rfl

def Γ_fold_Barred : FuncId → Option FSig := fun f =>
  if f = n_tree_Above then some ⟨.pure, true, [1], 0, fun l => match l with | [[x0], [x1], [x2]] => tree_Above_s x0 x1 x2 | _ => none⟩ else
  none
def A_fold_Barred : Ann := { join := (fun r => if r = 1 then some [4] else none), scalar := true }
theorem run_fold_Barred (a0 a1 a2 a3 a4 a5 a6 : IV) : run Tryz.prog (Γ_fold_Barred) C0 A_fold_Barred Tryz.f111 [[a0], [a1, a2, a3, a4, a5, a6]] = fold_Barred_s a0 a1 a2 a3 a4 a5 a6 := by kernel_rfl

def Γ_slices_IndexFunc_Row (C : IV → List Nat → List (List IV) → Option (List IV)) : FuncId → Option FSig := fun f =>
  none
def A_slices_IndexFunc_Row : Ann := { loop := (fun r => if r = 2 then ([(8, .I)], [[], [(4, .I)]]) else ([], [])), scalar := true }
theorem run_slices_IndexFunc_Row (C : IV → List Nat → List (List IV) → Option (List IV)) (a0 a1 : IV) : run Tryz.prog (Γ_slices_IndexFunc_Row C) C A_slices_IndexFunc_Row Tryz.f127 [[a0], [a1]] = slices_IndexFunc_Row_s C a0 a1 := by kernel_rfl

def Γ_tree_place_1 : FuncId → Option FSig := fun f =>
  none
def A_tree_place_1 : Ann := { scalar := true }
theorem run_tree_place_1 (a0 a1 a2 a3 a4 : IV) : run Tryz.prog (Γ_tree_place_1) C0 A_tree_place_1 Tryz.f140 [[a0, a1, a2, a3], [a4]] = tree_place_1_s a0 a1 a2 a3 a4 := by kernel_rfl

def Γ_tree_place : FuncId → Option FSig := fun f =>
  if f = n_slices_IndexFunc_Row then some ⟨.pure, true, [1], 0, fun l => match l with | [[x0], [x1]] => slices_IndexFunc_Row_s (Cx_tree_place) x0 x1 | _ => none⟩ else
  none
def A_tree_place : Ann := { scalar := true }
theorem run_tree_place (a0 a1 : IV) : run Tryz.prog (Γ_tree_place) (Cx_tree_place) A_tree_place Tryz.f126 [[a0], [a1]] = tree_place_s a0 a1 := by kernel_rfl

def Γ_tree_Set_1 : FuncId → Option FSig := fun f =>
  none
def A_tree_Set_1 : Ann := { scalar := true }
theorem run_tree_Set_1 (a0 a1 a2 a3 a4 : IV) : run Tryz.prog (Γ_tree_Set_1) C0 A_tree_Set_1 Tryz.f128 [[a0, a1, a2, a3], [a4]] = tree_Set_1_s a0 a1 a2 a3 a4 := by kernel_rfl

def Γ_tree_Set : FuncId → Option FSig := fun f =>
  if f = n_slices_Clone_Row then some ⟨.own, false, [1], 4, fun l => match l with | [[x0]] => slices_Clone_Row_s x0 | _ => none⟩ else
  if f = n_tree_place then some ⟨.pure, true, [1, 1], 0, fun l => match l with | [[x0], [x1]] => tree_place_s x0 x1 | _ => none⟩ else
  if f = n_slices_IndexFunc_Row then some ⟨.pure, true, [1], 0, fun l => match l with | [[x0], [x1]] => slices_IndexFunc_Row_s (Cx_tree_Set) x0 x1 | _ => none⟩ else
  if f = n_slices_Insert_Row then some ⟨.cons, false, [1], 4, fun l => match l with | [[x0], [x1], [x2]] => slices_Insert_Row_s x0 x1 x2 | _ => none⟩ else
  none
def A_tree_Set : Ann := {  }
theorem run_tree_Set (a0 a1 a2 a3 a4 : IV) : run Tryz.prog (Γ_tree_Set) (Cx_tree_Set) A_tree_Set Tryz.f112 [[a0], [a1, a2, a3, a4]] = tree_Set_s a0 a1 a2 a3 a4 := by kernel_rfl

def Γ_fold_Do : FuncId → Option FSig := fun f =>
  if f = n_fold_Barred then some ⟨.pure, true, [1], 0, fun l => match l with | [[x0], [x1, x2, x3, x4, x5, x6]] => fold_Barred_s x0 x1 x2 x3 x4 x5 x6 | _ => none⟩ else
  if f = n_moves_Row then some ⟨.pure, true, [4], 0, fun l => match l with | [[x0, x1, x2, x3, x4, x5]] => moves_Row_s x0 x1 x2 x3 x4 x5 | _ => none⟩ else
  if f = n_tree_Set then some ⟨.pure, false, [1], 0, fun l => match l with | [[x0], [x1, x2, x3, x4]] => tree_Set_s x0 x1 x2 x3 x4 | _ => none⟩ else
  none
def A_fold_Do : Ann := {  }
theorem run_fold_Do (a0 a1 a2 a3 a4 a5 a6 : IV) : run Tryz.prog (Γ_fold_Do) C0 A_fold_Do Tryz.f90 [[a0], [a1, a2, a3, a4, a5, a6]] = fold_Do_s a0 a1 a2 a3 a4 a5 a6 := by kernel_rfl

def Γ_fold_All : FuncId → Option FSig := fun f =>
  if f = n_fold_Do then some ⟨.pure, false, [1, 1], 0, fun l => match l with | [[x0], [x1, x2, x3, x4, x5, x6]] => fold_Do_s x0 x1 x2 x3 x4 x5 x6 | _ => none⟩ else
  none
def A_fold_All : Ann := { loop := (fun r => if r = 2 then ([(0, .I), (9, .I)], [[(0, .I)]]) else ([], [])) }
theorem run_fold_All (a0 a1 : IV) : run Tryz.prog (Γ_fold_All) C0 A_fold_All Tryz.f46 [[a0], [a1]] = fold_All_s a0 a1 := by kernel_rfl

def Γ_floor_Prune : FuncId → Option FSig := fun f =>
  if f = n_floor_May then some ⟨.pure, true, [1], 0, fun l => match l with | [[x0, x1, x2, x3, x4]] => floor_May_s x0 x1 x2 x3 x4 | _ => none⟩ else
  if f = n_floor_known then some ⟨.pure, true, [1], 0, fun l => match l with | [[x0], [x1, x2]] => floor_known_s x0 x1 x2 | _ => none⟩ else
  if f = n_rank_Before then some ⟨.pure, true, [1], 0, fun l => match l with | [[x0, x1], [x2, x3]] => rank_Before_s x0 x1 x2 x3 | _ => none⟩ else
  if f = n_moves_Since then some ⟨.pure, false, [1], 0, fun l => match l with | [[x0], [x1, x2]] => moves_Since_s x0 x1 x2 | _ => none⟩ else
  if f = n_fold_All then some ⟨.pure, false, [1], 0, fun l => match l with | [[x0], [x1]] => fold_All_s x0 x1 | _ => none⟩ else
  none
def A_floor_Prune : Ann := { order := (fun r => if r = 6 then some ([], [0, 1, 2, 3, 4, 5, 6, 7, 8, 9, 10, 11, 12], [13]) else if r = 7 then some ([1], [0, 2], [3, 4, 5]) else none), join := (fun r => if r = 1 then some [7] else none) }
theorem run_floor_Prune (a0 a1 a2 a3 a4 a5 a6 : IV) : run Tryz.prog (Γ_floor_Prune) C0 A_floor_Prune Tryz.f14 [[a0, a1, a2, a3, a4], [a5, a6]] = floor_Prune_s a0 a1 a2 a3 a4 a5 a6 := by kernel_rfl

def Γ_floor_Tree : FuncId → Option FSig := fun f =>
  if f = n_fold_All then some ⟨.pure, false, [1], 0, fun l => match l with | [[x0], [x1]] => fold_All_s x0 x1 | _ => none⟩ else
  none
def A_floor_Tree : Ann := {  }
theorem run_floor_Tree (a0 a1 a2 a3 a4 : IV) : run Tryz.prog (Γ_floor_Tree) C0 A_floor_Tree Tryz.f19 [[a0, a1, a2, a3, a4]] = floor_Tree_s a0 a1 a2 a3 a4 := by kernel_rfl

def Γ_slices_EqualFunc_Row_Row (C : IV → List Nat → List (List IV) → Option (List IV)) : FuncId → Option FSig := fun f =>
  none
def A_slices_EqualFunc_Row_Row : Ann := { loop := (fun r => if r = 4 then ([(17, .I)], [[], [(6, .I)]]) else ([], [])), scalar := true }
theorem run_slices_EqualFunc_Row_Row (C : IV → List Nat → List (List IV) → Option (List IV)) (a0 a1 a2 : IV) : run Tryz.prog (Γ_slices_EqualFunc_Row_Row C) C A_slices_EqualFunc_Row_Row Tryz.f98 [[a0], [a1], [a2]] = slices_EqualFunc_Row_Row_s C a0 a1 a2 := by kernel_rfl

def Γ_bits_Minus : FuncId → Option FSig := fun f =>
  none
def A_bits_Minus : Ann := { join := (fun r => if r = 1 then some [2] else none), scalar := true }
theorem run_bits_Minus (a0 : IV) : run Tryz.prog (Γ_bits_Minus) C0 A_bits_Minus Tryz.f134 [[a0]] = bits_Minus_s a0 := by kernel_rfl

def Γ_bits_powers : FuncId → Option FSig := fun f =>
  none
def A_bits_powers : Ann := { scalar := true }
theorem run_bits_powers : run Tryz.prog (Γ_bits_powers) C0 A_bits_powers Tryz.f143 [] = bits_powers_s := by kernel_rfl

def Γ_bits_split : FuncId → Option FSig := fun f =>
  if f = n_bits_powers then some ⟨.pure, true, [30], 0, fun l => match l with | [] => bits_powers_s | _ => none⟩ else
  none
def A_bits_split : Ann := { loop := (fun r => if r = 3 then ([(0, .I), (4, .I), (8, .I)], [[(0, .I), (4, .I)]]) else if r = 12 then ([(0, .I), (4, .I)], [[(0, .I), (4, .I)]]) else if r = 15 then ([(0, .I), (4, .I)], [[(0, .I), (4, .I)]]) else ([], [])), scalar := true }
theorem run_bits_split (a0 : IV) : run Tryz.prog (Γ_bits_split) C0 A_bits_split Tryz.f135 [[a0]] = bits_split_s a0 := by kernel_rfl

def Γ_bits_Bits : FuncId → Option FSig := fun f =>
  if f = n_bits_Minus then some ⟨.pure, true, [1], 0, fun l => match l with | [[x0]] => bits_Minus_s x0 | _ => none⟩ else
  if f = n_bits_split then some ⟨.pure, true, [1, 1], 0, fun l => match l with | [[x0]] => bits_split_s x0 | _ => none⟩ else
  none
def A_bits_Bits : Ann := { scalar := true }
theorem run_bits_Bits (a0 : IV) : run Tryz.prog (Γ_bits_Bits) C0 A_bits_Bits Tryz.f119 [[a0]] = bits_Bits_s a0 := by kernel_rfl

def Γ_bits_Same : FuncId → Option FSig := fun f =>
  if f = n_bits_Bits then some ⟨.pure, true, [1], 0, fun l => match l with | [[x0]] => bits_Bits_s x0 | _ => none⟩ else
  none
def A_bits_Same : Ann := { scalar := true }
theorem run_bits_Same (a0 a1 : IV) : run Tryz.prog (Γ_bits_Same) C0 A_bits_Same Tryz.f100 [[a0], [a1]] = bits_Same_s a0 a1 := by kernel_rfl

def Γ_tree_Same_1 : FuncId → Option FSig := fun f =>
  if f = n_bits_Same then some ⟨.pure, true, [1], 0, fun l => match l with | [[x0], [x1]] => bits_Same_s x0 x1 | _ => none⟩ else
  none
def A_tree_Same_1 : Ann := { join := (fun r => if r = 1 then some [4] else none), scalar := true }
theorem run_tree_Same_1 (a0 a1 a2 a3 a4 a5 a6 a7 : IV) : run Tryz.prog (Γ_tree_Same_1) C0 A_tree_Same_1 Tryz.f99 [[a0, a1, a2, a3], [a4, a5, a6, a7]] = tree_Same_1_s a0 a1 a2 a3 a4 a5 a6 a7 := by kernel_rfl

def Γ_tree_Same : FuncId → Option FSig := fun f =>
  if f = n_slices_EqualFunc_Row_Row then some ⟨.pure, true, [1], 0, fun l => match l with | [[x0], [x1], [x2]] => slices_EqualFunc_Row_Row_s (Cx_tree_Same) x0 x1 x2 | _ => none⟩ else
  none
def A_tree_Same : Ann := { scalar := true }
theorem run_tree_Same (a0 a1 : IV) : run Tryz.prog (Γ_tree_Same) (Cx_tree_Same) A_tree_Same Tryz.f65 [[a0], [a1]] = tree_Same_s a0 a1 := by kernel_rfl

def Γ_slices_EqualFunc_Move_Move (C : IV → List Nat → List (List IV) → Option (List IV)) : FuncId → Option FSig := fun f =>
  none
def A_slices_EqualFunc_Move_Move : Ann := { loop := (fun r => if r = 4 then ([(17, .I)], [[], [(6, .I)]]) else ([], [])), scalar := true }
theorem run_slices_EqualFunc_Move_Move (C : IV → List Nat → List (List IV) → Option (List IV)) (a0 a1 a2 : IV) : run Tryz.prog (Γ_slices_EqualFunc_Move_Move C) C A_slices_EqualFunc_Move_Move Tryz.f101 [[a0], [a1], [a2]] = slices_EqualFunc_Move_Move_s C a0 a1 a2 := by kernel_rfl

def Γ_moves_Same_1 : FuncId → Option FSig := fun f =>
  if f = n_bits_Same then some ⟨.pure, true, [1], 0, fun l => match l with | [[x0], [x1]] => bits_Same_s x0 x1 | _ => none⟩ else
  none
def A_moves_Same_1 : Ann := { join := (fun r => if r = 1 then some [4] else none), scalar := true }
theorem run_moves_Same_1 (a0 a1 a2 a3 a4 a5 a6 a7 a8 a9 a10 a11 : IV) : run Tryz.prog (Γ_moves_Same_1) C0 A_moves_Same_1 Tryz.f102 [[a0, a1, a2, a3, a4, a5], [a6, a7, a8, a9, a10, a11]] = moves_Same_1_s a0 a1 a2 a3 a4 a5 a6 a7 a8 a9 a10 a11 := by kernel_rfl

def Γ_moves_Same : FuncId → Option FSig := fun f =>
  if f = n_slices_EqualFunc_Move_Move then some ⟨.pure, true, [1], 0, fun l => match l with | [[x0], [x1], [x2]] => slices_EqualFunc_Move_Move_s (Cx_moves_Same) x0 x1 x2 | _ => none⟩ else
  none
def A_moves_Same : Ann := { scalar := true }
theorem run_moves_Same (a0 a1 : IV) : run Tryz.prog (Γ_moves_Same) (Cx_moves_Same) A_moves_Same Tryz.f66 [[a0], [a1]] = moves_Same_s a0 a1 := by kernel_rfl

def Γ_slices_Equal_Mark : FuncId → Option FSig := fun f =>
  none
def A_slices_Equal_Mark : Ann := { order := (fun r => if r = 6 then some ([], [0, 1, 2, 3, 4, 5, 6, 7, 8], []) else none), loop := (fun r => if r = 4 then ([(13, .I)], [[], [(4, .I)]]) else ([], [])), scalar := true }
theorem run_slices_Equal_Mark (a0 a1 : IV) : run Tryz.prog (Γ_slices_Equal_Mark) C0 A_slices_Equal_Mark Tryz.f67 [[a0], [a1]] = slices_Equal_Mark_s a0 a1 := by kernel_rfl

def Γ_floor_Same : FuncId → Option FSig := fun f =>
  if f = n_tree_Same then some ⟨.pure, true, [1], 0, fun l => match l with | [[x0], [x1]] => tree_Same_s x0 x1 | _ => none⟩ else
  if f = n_moves_Same then some ⟨.pure, true, [1], 0, fun l => match l with | [[x0], [x1]] => moves_Same_s x0 x1 | _ => none⟩ else
  if f = n_slices_Equal_Mark then some ⟨.pure, true, [1], 0, fun l => match l with | [[x0], [x1]] => slices_Equal_Mark_s x0 x1 | _ => none⟩ else
  none
def A_floor_Same : Ann := { join := (fun r => if r = 1 then some [4] else none), scalar := true }
theorem run_floor_Same (a0 a1 a2 a3 a4 a5 a6 a7 a8 a9 : IV) : run Tryz.prog (Γ_floor_Same) C0 A_floor_Same Tryz.f21 [[a0, a1, a2, a3, a4], [a5, a6, a7, a8, a9]] = floor_Same_s a0 a1 a2 a3 a4 a5 a6 a7 a8 a9 := by kernel_rfl

def Γ_law18_live_1 : FuncId → Option FSig := fun f =>
  none
def A_law18_live_1 : Ann := { scalar := true }
theorem run_law18_live_1 (a0 a1 a2 : IV) : run Tryz.prog (Γ_law18_live_1) C0 A_law18_live_1 Tryz.f35 [[a0], [a1], [a2]] = law18_live_1_s a0 a1 a2 := by kernel_rfl

def Γ_law18_live : FuncId → Option FSig := fun f =>
  if f = n_floor_Merge then some ⟨.pure, false, [5, 1], 0, fun l => match l with | [[x0, x1, x2, x3, x4], [x5]] => floor_Merge_s x0 x1 x2 x3 x4 x5 | _ => none⟩ else
  if f = n_floor_Prune then some ⟨.pure, false, [5, 1], 0, fun l => match l with | [[x0, x1, x2, x3, x4], [x5, x6]] => floor_Prune_s x0 x1 x2 x3 x4 x5 x6 | _ => none⟩ else
  if f = n_floor_Add then some ⟨.pure, false, [5, 1, 1], 0, fun l => match l with | [[x0, x1, x2, x3, x4], [x5, x6, x7, x8, x9, x10]] => floor_Add_s x0 x1 x2 x3 x4 x5 x6 x7 x8 x9 x10 | _ => none⟩ else
  if f = n_floor_Tree then some ⟨.pure, false, [1], 0, fun l => match l with | [[x0, x1, x2, x3, x4]] => floor_Tree_s x0 x1 x2 x3 x4 | _ => none⟩ else
  if f = n_floor_May then some ⟨.pure, true, [1], 0, fun l => match l with | [[x0, x1, x2, x3, x4]] => floor_May_s x0 x1 x2 x3 x4 | _ => none⟩ else
  if f = n_floor_Same then some ⟨.pure, true, [1], 0, fun l => match l with | [[x0, x1, x2, x3, x4], [x5, x6, x7, x8, x9]] => floor_Same_s x0 x1 x2 x3 x4 x5 x6 x7 x8 x9 | _ => none⟩ else
  none
def A_law18_live : Ann := { order := (fun r => if r = 4 then some ([6, 7], [0, 1, 2, 3, 4, 5, 8], [9, 10, 11]) else if r = 5 then some ([6, 7], [0, 1, 2, 3, 4, 5, 8], [9, 10, 11]) else if r = 7 then some ([8], [0, 1, 2, 3, 4, 5, 6, 7, 9], [10, 11]) else none), join := (fun r => if r = 8 then some [74] else if r = 10 then some [0] else none), scalar := true }
theorem run_law18_live : run Tryz.prog (Γ_law18_live) (Cx_law18_live) A_law18_live Tryz.f11 [] = law18_live_s := Eq.trans (b := some [.bool true]) (by kernel_rfl) (by kernel_rfl)

def Γ_ref04_in : FuncId → Option FSig := fun f =>
  none
def A_ref04_in : Ann := { join := (fun r => if r = 1 then some [8] else none), scalar := true }
theorem run_ref04_in (a0 a1 a2 a3 : IV) : run Tryz.prog (Γ_ref04_in) C0 A_ref04_in Tryz.f144 [[a0], [a1], [a2], [a3]] = ref04_in_s a0 a1 a2 a3 := by kernel_rfl

def Γ_ref04_sign : FuncId → Option FSig := fun f =>
  if f = n_ref04_in then some ⟨.pure, true, [1], 0, fun l => match l with | [[x0], [x1], [x2], [x3]] => ref04_in_s x0 x1 x2 x3 | _ => none⟩ else
  none
def A_ref04_sign : Ann := { join := (fun r => if r = 3 then some [16] else if r = 5 then some [64] else if r = 7 then some [107] else none), scalar := true }
theorem run_ref04_sign (a0 a1 : IV) : run Tryz.prog (Γ_ref04_sign) C0 A_ref04_sign Tryz.f136 [[a0], [a1]] = ref04_sign_s a0 a1 := by kernel_rfl

def Γ_ref04_First : FuncId → Option FSig := fun f =>
  if f = n_ref04_sign then some ⟨.pure, true, [1], 0, fun l => match l with | [[x0], [x1]] => ref04_sign_s x0 x1 | _ => none⟩ else
  none
def A_ref04_First : Ann := { loop := (fun r => if r = 2 then ([(4, .I)], [[], [(2, .I), (3, .I)]]) else ([], [])), scalar := true }
theorem run_ref04_First (a0 : IV) : run Tryz.prog (Γ_ref04_First) C0 A_ref04_First Tryz.f120 [[a0]] = ref04_First_s a0 := by kernel_rfl

def Γ_ref04_Valid : FuncId → Option FSig := fun f =>
  if f = n_ref04_First then some ⟨.pure, true, [1, 1], 0, fun l => match l with | [[x0]] => ref04_First_s x0 | _ => none⟩ else
  none
def A_ref04_Valid : Ann := { scalar := true }
theorem run_ref04_Valid (a0 : IV) : run Tryz.prog (Γ_ref04_Valid) C0 A_ref04_Valid Tryz.f103 [[a0]] = ref04_Valid_s a0 := by kernel_rfl

def Γ_ref12_One : FuncId → Option FSig := fun f =>
  if f = n_ref04_Valid then some ⟨.pure, true, [1], 0, fun l => match l with | [[x0]] => ref04_Valid_s x0 | _ => none⟩ else
  none
def A_ref12_One : Ann := { join := (fun r => if r = 1 then some [2] else none), scalar := true }
theorem run_ref12_One (a0 a1 a2 a3 : IV) : run Tryz.prog (Γ_ref12_One) C0 A_ref12_One Tryz.f69 [[a0, a1, a2, a3]] = ref12_One_s a0 a1 a2 a3 := by kernel_rfl

def Γ_ref12_place : FuncId → Option FSig := fun f =>
  none
def A_ref12_place : Ann := { loop := (fun r => if r = 2 then ([(5, .I)], [[], [(4, .I)]]) else ([], [])), scalar := true }
theorem run_ref12_place (a0 a1 : IV) : run Tryz.prog (Γ_ref12_place) C0 A_ref12_place Tryz.f130 [[a0], [a1]] = ref12_place_s a0 a1 := by kernel_rfl

def Γ_ref12_Find : FuncId → Option FSig := fun f =>
  if f = n_ref12_place then some ⟨.pure, true, [1], 0, fun l => match l with | [[x0], [x1]] => ref12_place_s x0 x1 | _ => none⟩ else
  none
def A_ref12_Find : Ann := { scalar := true }
theorem run_ref12_Find (a0 a1 : IV) : run Tryz.prog (Γ_ref12_Find) C0 A_ref12_Find Tryz.f117 [[a0], [a1]] = ref12_Find_s a0 a1 := by kernel_rfl

def Γ_ref12_Above : FuncId → Option FSig := fun f =>
  if f = n_ref12_Find then some ⟨.pure, true, [4, 1], 0, fun l => match l with | [[x0], [x1]] => ref12_Find_s x0 x1 | _ => none⟩ else
  none
def A_ref12_Above : Ann := { loop := (fun r => if r = 2 then ([(2, .I), (7, .I)], [[], [(6, .I)]]) else ([], [])), scalar := true }
theorem run_ref12_Above (a0 a1 a2 : IV) : run Tryz.prog (Γ_ref12_Above) C0 A_ref12_Above Tryz.f96 [[a0], [a1], [a2]] = ref12_Above_s a0 a1 a2 := by kernel_rfl

def Γ_ref12_May : FuncId → Option FSig := fun f =>
  if f = n_ref12_One then some ⟨.pure, true, [1], 0, fun l => match l with | [[x0, x1, x2, x3]] => ref12_One_s x0 x1 x2 x3 | _ => none⟩ else
  if f = n_ref12_Above then some ⟨.pure, true, [1], 0, fun l => match l with | [[x0], [x1], [x2]] => ref12_Above_s x0 x1 x2 | _ => none⟩ else
  none
def A_ref12_May : Ann := { order := (fun r => if r = 6 then some ([], [0, 1, 2, 3, 4, 5, 6, 7, 8, 9, 10, 11, 12, 13, 14, 15, 16, 17, 18, 19, 20, 21, 22, 23], []) else if r = 11 then some ([], [0, 1, 2, 3, 4, 5, 6, 7, 8, 9, 10, 11], []) else none), join := (fun r => if r = 6 then some [37] else none), loop := (fun r => if r = 4 then ([(3, .I)], [[], [(2, .I)]]) else if r = 9 then ([(4, .I)], [[], [(2, .I)]]) else ([], [])), scalar := true }
theorem run_ref12_May (a0 : IV) : run Tryz.prog (Γ_ref12_May) C0 A_ref12_May Tryz.f59 [[a0]] = ref12_May_s a0 := by kernel_rfl

def Γ_ref13_Time : FuncId → Option FSig := fun f =>
  none
def A_ref13_Time : Ann := { join := (fun r => if r = 1 then some [2] else none), scalar := true }
theorem run_ref13_Time (a0 a1 : IV) : run Tryz.prog (Γ_ref13_Time) C0 A_ref13_Time Tryz.f47 [[a0, a1]] = ref13_Time_s a0 a1 := by kernel_rfl

def Γ_ref13_Row : FuncId → Option FSig := fun f =>
  none
def A_ref13_Row : Ann := { scalar := true }
theorem run_ref13_Row (a0 a1 a2 a3 a4 a5 : IV) : run Tryz.prog (Γ_ref13_Row) C0 A_ref13_Row Tryz.f70 [[a0, a1, a2, a3, a4, a5]] = ref13_Row_s a0 a1 a2 a3 a4 a5 := by kernel_rfl

def Γ_ref13_One : FuncId → Option FSig := fun f =>
  if f = n_ref13_Time then some ⟨.pure, true, [1], 0, fun l => match l with | [[x0, x1]] => ref13_Time_s x0 x1 | _ => none⟩ else
  if f = n_ref13_Row then some ⟨.pure, true, [4], 0, fun l => match l with | [[x0, x1, x2, x3, x4, x5]] => ref13_Row_s x0 x1 x2 x3 x4 x5 | _ => none⟩ else
  if f = n_ref12_One then some ⟨.pure, true, [1], 0, fun l => match l with | [[x0, x1, x2, x3]] => ref12_One_s x0 x1 x2 x3 | _ => none⟩ else
  none
def A_ref13_One : Ann := { join := (fun r => if r = 1 then some [2] else none), scalar := true }
theorem run_ref13_One (a0 a1 a2 a3 a4 a5 : IV) : run Tryz.prog (Γ_ref13_One) C0 A_ref13_One Tryz.f26 [[a0, a1, a2, a3, a4, a5]] = ref13_One_s a0 a1 a2 a3 a4 a5 := by kernel_rfl

def Γ_ref02_Before : FuncId → Option FSig := fun f =>
  none
def A_ref02_Before : Ann := { join := (fun r => if r = 1 then some [4] else none), scalar := true }
theorem run_ref02_Before (a0 a1 a2 a3 : IV) : run Tryz.prog (Γ_ref02_Before) C0 A_ref02_Before Tryz.f27 [[a0, a1], [a2, a3]] = ref02_Before_s a0 a1 a2 a3 := by kernel_rfl

def Γ_ref13_May : FuncId → Option FSig := fun f =>
  if f = n_ref13_One then some ⟨.pure, true, [1], 0, fun l => match l with | [[x0, x1, x2, x3, x4, x5]] => ref13_One_s x0 x1 x2 x3 x4 x5 | _ => none⟩ else
  if f = n_ref02_Before then some ⟨.pure, true, [1], 0, fun l => match l with | [[x0, x1], [x2, x3]] => ref02_Before_s x0 x1 x2 x3 | _ => none⟩ else
  none
def A_ref13_May : Ann := { order := (fun r => if r = 6 then some ([], [0, 1, 2, 3, 4, 5, 6, 7, 8, 9, 10, 11, 12, 13, 14, 15, 16, 17, 18, 19, 20, 21, 22, 23, 24], []) else none), join := (fun r => if r = 6 then some [37] else none), loop := (fun r => if r = 4 then ([(3, .I)], [[], [(2, .I)]]) else ([], [])), scalar := true }
theorem run_ref13_May (a0 : IV) : run Tryz.prog (Γ_ref13_May) C0 A_ref13_May Tryz.f60 [[a0]] = ref13_May_s a0 := by kernel_rfl

def Γ_ref17_May : FuncId → Option FSig := fun f =>
  none
def A_ref17_May : Ann := { order := (fun r => if r = 4 then some ([], [0, 1, 2, 3, 4, 5, 6, 7, 8, 9, 10, 11, 12, 13, 14, 15, 16, 17, 18, 19, 20, 21, 22, 23, 24, 25, 26, 27, 28, 29, 30, 31, 32, 33, 34, 35, 36, 37, 38, 39, 40, 41, 42, 43, 44, 45, 46, 47], []) else none), join := (fun r => if r = 4 then some [57] else none), loop := (fun r => if r = 2 then ([(3, .I)], [[], [(2, .I)]]) else ([], [])), scalar := true }
theorem run_ref17_May (a0 : IV) : run Tryz.prog (Γ_ref17_May) C0 A_ref17_May Tryz.f61 [[a0]] = ref17_May_s a0 := by kernel_rfl

def Γ_ref17_Raise : FuncId → Option FSig := fun f =>
  none
def A_ref17_Raise : Ann := { order := (fun r => if r = 5 then some ([], [0, 1, 2, 3, 4, 5, 6, 7], []) else if r = 6 then some ([], [0, 1, 2, 3, 4, 5, 6, 7, 8, 9, 10, 11], [12]) else if r = 11 then some ([], [0, 1, 2, 3, 4, 5, 6, 7, 8, 9, 10, 11, 12, 13], []) else if r = 14 then some ([10], [0, 1, 2, 3, 4, 5, 6, 7, 8], [9, 11, 12]) else none), join := (fun r => if r = 11 then some [56] else none), loop := (fun r => if r = 3 then ([(5, (.B 2)), (6, .I)], [[(5, (.B 2))], [(4, .I)]]) else if r = 11 then ([(7, .I)], [[(7, .I)]]) else ([], [])) }
theorem run_ref17_Raise (a0 a1 a2 : IV) : run Tryz.prog (Γ_ref17_Raise) C0 A_ref17_Raise Tryz.f43 [[a0], [a1, a2]] = ref17_Raise_s a0 a1 a2 := by kernel_rfl

def Γ_ref17_Of : FuncId → Option FSig := fun f =>
  if f = n_ref17_Raise then some ⟨.pure, false, [1], 0, fun l => match l with | [[x0], [x1, x2]] => ref17_Raise_s x0 x1 x2 | _ => none⟩ else
  none
def A_ref17_Of : Ann := { loop := (fun r => if r = 3 then ([(3, .I), (4, .I)], [[(3, .I)]]) else ([], [])) }
theorem run_ref17_Of (a0 : IV) : run Tryz.prog (Γ_ref17_Of) C0 A_ref17_Of Tryz.f63 [[a0]] = ref17_Of_s a0 := by kernel_rfl

def Γ_ref17_Get : FuncId → Option FSig := fun f =>
  none
def A_ref17_Get : Ann := { loop := (fun r => if r = 2 then ([(5, .I)], [[], [(4, .I)]]) else ([], [])), scalar := true }
theorem run_ref17_Get (a0 a1 : IV) : run Tryz.prog (Γ_ref17_Get) C0 A_ref17_Get Tryz.f48 [[a0], [a1]] = ref17_Get_s a0 a1 := by kernel_rfl

def Γ_ref17_Below : FuncId → Option FSig := fun f =>
  if f = n_ref17_Get then some ⟨.pure, true, [1], 0, fun l => match l with | [[x0], [x1]] => ref17_Get_s x0 x1 | _ => none⟩ else
  none
def A_ref17_Below : Ann := { order := (fun r => if r = 4 then some ([], [0, 1, 2, 3, 4, 5, 6, 7, 8, 9, 10, 11, 12, 13, 14], []) else none), loop := (fun r => if r = 2 then ([(5, .I)], [[], [(4, .I)]]) else ([], [])), scalar := true }
theorem run_ref17_Below (a0 a1 : IV) : run Tryz.prog (Γ_ref17_Below) C0 A_ref17_Below Tryz.f62 [[a0], [a1]] = ref17_Below_s a0 a1 := by kernel_rfl

def Γ_ref18_Children : FuncId → Option FSig := fun f =>
  none
def A_ref18_Children : Ann := { order := (fun r => if r = 10 then some ([], [0, 1, 2, 3, 4, 5, 6], []) else none), loop := (fun r => if r = 3 then ([(8, .M), (9, .I)], [[(8, .M)]]) else if r = 7 then ([(8, .M), (10, .I)], [[(8, .M)]]) else ([], [])), scalar := true }
theorem run_ref18_Children (a0 a1 a2 : IV) : run Tryz.prog (Γ_ref18_Children) C0 A_ref18_Children Tryz.f42 [[a0], [a1], [a2]] = ref18_Children_s a0 a1 a2 := by kernel_rfl

def Γ_ref18_May : FuncId → Option FSig := fun f =>
  if f = n_ref12_May then some ⟨.pure, true, [1], 0, fun l => match l with | [[x0]] => ref12_May_s x0 | _ => none⟩ else
  if f = n_ref13_May then some ⟨.pure, true, [1], 0, fun l => match l with | [[x0]] => ref13_May_s x0 | _ => none⟩ else
  if f = n_ref17_May then some ⟨.pure, true, [1], 0, fun l => match l with | [[x0]] => ref17_May_s x0 | _ => none⟩ else
  if f = n_ref17_Of then some ⟨.pure, false, [1], 0, fun l => match l with | [[x0]] => ref17_Of_s x0 | _ => none⟩ else
  if f = n_ref17_Below then some ⟨.pure, true, [1], 0, fun l => match l with | [[x0], [x1]] => ref17_Below_s x0 x1 | _ => none⟩ else
  if f = n_ref13_Time then some ⟨.pure, true, [1], 0, fun l => match l with | [[x0, x1]] => ref13_Time_s x0 x1 | _ => none⟩ else
  if f = n_ref17_Get then some ⟨.pure, true, [1], 0, fun l => match l with | [[x0], [x1]] => ref17_Get_s x0 x1 | _ => none⟩ else
  if f = n_ref02_Before then some ⟨.pure, true, [1], 0, fun l => match l with | [[x0, x1], [x2, x3]] => ref02_Before_s x0 x1 x2 x3 | _ => none⟩ else
  if f = n_ref18_Children then some ⟨.pure, true, [1, 1], 0, fun l => match l with | [[x0], [x1], [x2]] => ref18_Children_s x0 x1 x2 | _ => none⟩ else
  none
def A_ref18_May : Ann := { order := (fun r => if r = 1 then some ([], [0, 1, 2, 3, 4, 5, 6, 7, 8, 9, 10, 11, 12, 13, 14, 15, 16, 17, 18, 19, 20, 21, 22, 23, 24], []) else if r = 3 then some ([], [0, 1, 2, 3, 4, 5, 6, 7, 8, 9, 10, 11, 12, 13, 14, 15, 16, 17, 18, 19, 20, 21], []) else if r = 8 then some ([], [0, 1, 2, 3, 4, 5, 6, 7, 8, 9], []) else none), join := (fun r => if r = 1 then some [30] else if r = 3 then some [52] else none), loop := (fun r => if r = 6 then ([(3, .I)], [[], [(2, .I)]]) else ([], [])), scalar := true }
theorem run_ref18_May (a0 a1 a2 a3 a4 : IV) : run Tryz.prog (Γ_ref18_May) C0 A_ref18_May Tryz.f17 [[a0, a1, a2, a3, a4]] = ref18_May_s a0 a1 a2 a3 a4 := by kernel_rfl

def Γ_ref13_Insert : FuncId → Option FSig := fun f =>
  if f = n_ref02_Before then some ⟨.pure, true, [1], 0, fun l => match l with | [[x0, x1], [x2, x3]] => ref02_Before_s x0 x1 x2 x3 | _ => none⟩ else
  none
def A_ref13_Insert : Ann := { order := (fun r => if r = 4 then some ([], [0, 1, 2, 3, 4, 5, 6, 7], []) else if r = 7 then some ([], [0, 1, 2, 3, 4, 5, 6, 7, 8, 9, 10, 11, 12, 13, 14], []) else none), join := (fun r => if r = 7 then some [40] else none), loop := (fun r => if r = 2 then ([(7, .I)], [[], [(4, .I), (5, .I), (6, .I)]]) else if r = 7 then ([(8, .I)], [[(8, .I)]]) else ([], [])) }
theorem run_ref13_Insert (a0 a1 a2 a3 a4 a5 a6 : IV) : run Tryz.prog (Γ_ref13_Insert) C0 A_ref13_Insert Tryz.f41 [[a0], [a1, a2, a3, a4, a5, a6]] = ref13_Insert_s a0 a1 a2 a3 a4 a5 a6 := by kernel_rfl

def Γ_ref18_Add : FuncId → Option FSig := fun f =>
  if f = n_ref18_May then some ⟨.pure, true, [1], 0, fun l => match l with | [[x0, x1, x2, x3, x4]] => ref18_May_s x0 x1 x2 x3 x4 | _ => none⟩ else
  if f = n_ref13_One then some ⟨.pure, true, [1], 0, fun l => match l with | [[x0, x1, x2, x3, x4, x5]] => ref13_One_s x0 x1 x2 x3 x4 x5 | _ => none⟩ else
  if f = n_ref02_Before then some ⟨.pure, true, [1], 0, fun l => match l with | [[x0, x1], [x2, x3]] => ref02_Before_s x0 x1 x2 x3 | _ => none⟩ else
  if f = n_ref13_Insert then some ⟨.pure, false, [1, 1, 1], 0, fun l => match l with | [[x0], [x1, x2, x3, x4, x5, x6]] => ref13_Insert_s x0 x1 x2 x3 x4 x5 x6 | _ => none⟩ else
  if f = n_ref18_Children then some ⟨.pure, true, [1, 1], 0, fun l => match l with | [[x0], [x1], [x2]] => ref18_Children_s x0 x1 x2 | _ => none⟩ else
  if f = n_ref17_Raise then some ⟨.pure, false, [1], 0, fun l => match l with | [[x0], [x1, x2]] => ref17_Raise_s x0 x1 x2 | _ => none⟩ else
  none
def A_ref18_Add : Ann := { join := (fun r => if r = 1 then some [19] else if r = 9 then some [60] else none) }
theorem run_ref18_Add (a0 a1 a2 a3 a4 a5 a6 a7 a8 a9 a10 : IV) : run Tryz.prog (Γ_ref18_Add) C0 A_ref18_Add Tryz.f13 [[a0, a1, a2, a3, a4], [a5, a6, a7, a8, a9, a10]] = ref18_Add_s a0 a1 a2 a3 a4 a5 a6 a7 a8 a9 a10 := by kernel_rfl

def Γ_ref13_Since : FuncId → Option FSig := fun f =>
  if f = n_ref02_Before then some ⟨.pure, true, [1], 0, fun l => match l with | [[x0, x1], [x2, x3]] => ref02_Before_s x0 x1 x2 x3 | _ => none⟩ else
  none
def A_ref13_Since : Ann := { order := (fun r => if r = 5 then some ([], [0, 1, 2, 3, 4, 5, 6], []) else none), loop := (fun r => if r = 3 then ([(5, (.B 6)), (6, .I)], [[(5, (.B 6))]]) else ([], [])) }
theorem run_ref13_Since (a0 a1 a2 : IV) : run Tryz.prog (Γ_ref13_Since) C0 A_ref13_Since Tryz.f49 [[a0], [a1, a2]] = ref13_Since_s a0 a1 a2 := by kernel_rfl

def Γ_ref14_Barred : FuncId → Option FSig := fun f =>
  if f = n_ref12_Above then some ⟨.pure, true, [1], 0, fun l => match l with | [[x0], [x1], [x2]] => ref12_Above_s x0 x1 x2 | _ => none⟩ else
  none
def A_ref14_Barred : Ann := { join := (fun r => if r = 1 then some [4] else none), scalar := true }
theorem run_ref14_Barred (a0 a1 a2 a3 a4 a5 a6 : IV) : run Tryz.prog (Γ_ref14_Barred) C0 A_ref14_Barred Tryz.f113 [[a0], [a1, a2, a3, a4, a5, a6]] = ref14_Barred_s a0 a1 a2 a3 a4 a5 a6 := by kernel_rfl

def Γ_ref12_Set : FuncId → Option FSig := fun f =>
  if f = n_ref12_place then some ⟨.pure, true, [1], 0, fun l => match l with | [[x0], [x1]] => ref12_place_s x0 x1 | _ => none⟩ else
  none
def A_ref12_Set : Ann := { order := (fun r => if r = 7 then some ([], [0, 1, 2, 3, 4, 5, 6, 7, 8, 9, 10, 11, 12, 13], []) else none), join := (fun r => if r = 7 then some [36] else none), loop := (fun r => if r = 7 then ([(7, .I)], [[(7, .I)]]) else ([], [])) }
theorem run_ref12_Set (a0 a1 a2 a3 a4 : IV) : run Tryz.prog (Γ_ref12_Set) C0 A_ref12_Set Tryz.f114 [[a0], [a1, a2, a3, a4]] = ref12_Set_s a0 a1 a2 a3 a4 := by kernel_rfl

def Γ_ref14_Do : FuncId → Option FSig := fun f =>
  if f = n_ref14_Barred then some ⟨.pure, true, [1], 0, fun l => match l with | [[x0], [x1, x2, x3, x4, x5, x6]] => ref14_Barred_s x0 x1 x2 x3 x4 x5 x6 | _ => none⟩ else
  if f = n_ref13_Row then some ⟨.pure, true, [4], 0, fun l => match l with | [[x0, x1, x2, x3, x4, x5]] => ref13_Row_s x0 x1 x2 x3 x4 x5 | _ => none⟩ else
  if f = n_ref12_Set then some ⟨.pure, false, [1], 0, fun l => match l with | [[x0], [x1, x2, x3, x4]] => ref12_Set_s x0 x1 x2 x3 x4 | _ => none⟩ else
  none
def A_ref14_Do : Ann := {  }
theorem run_ref14_Do (a0 a1 a2 a3 a4 a5 a6 : IV) : run Tryz.prog (Γ_ref14_Do) C0 A_ref14_Do Tryz.f91 [[a0], [a1, a2, a3, a4, a5, a6]] = ref14_Do_s a0 a1 a2 a3 a4 a5 a6 := by kernel_rfl

def Γ_ref14_All : FuncId → Option FSig := fun f =>
  if f = n_ref14_Do then some ⟨.pure, false, [1, 1], 0, fun l => match l with | [[x0], [x1, x2, x3, x4, x5, x6]] => ref14_Do_s x0 x1 x2 x3 x4 x5 x6 | _ => none⟩ else
  none
def A_ref14_All : Ann := { loop := (fun r => if r = 3 then ([(5, .I), (6, .I)], [[(5, .I)]]) else ([], [])) }
theorem run_ref14_All (a0 a1 : IV) : run Tryz.prog (Γ_ref14_All) C0 A_ref14_All Tryz.f50 [[a0], [a1]] = ref14_All_s a0 a1 := by kernel_rfl

def Γ_ref18_Prune : FuncId → Option FSig := fun f =>
  if f = n_ref18_May then some ⟨.pure, true, [1], 0, fun l => match l with | [[x0, x1, x2, x3, x4]] => ref18_May_s x0 x1 x2 x3 x4 | _ => none⟩ else
  if f = n_ref13_Time then some ⟨.pure, true, [1], 0, fun l => match l with | [[x0, x1]] => ref13_Time_s x0 x1 | _ => none⟩ else
  if f = n_ref17_Get then some ⟨.pure, true, [1], 0, fun l => match l with | [[x0], [x1]] => ref17_Get_s x0 x1 | _ => none⟩ else
  if f = n_ref02_Before then some ⟨.pure, true, [1], 0, fun l => match l with | [[x0, x1], [x2, x3]] => ref02_Before_s x0 x1 x2 x3 | _ => none⟩ else
  if f = n_ref13_Since then some ⟨.pure, false, [1], 0, fun l => match l with | [[x0], [x1, x2]] => ref13_Since_s x0 x1 x2 | _ => none⟩ else
  if f = n_ref14_All then some ⟨.pure, false, [1], 0, fun l => match l with | [[x0], [x1]] => ref14_All_s x0 x1 | _ => none⟩ else
  none
def A_ref18_Prune : Ann := { order := (fun r => if r = 1 then some ([], [0, 1, 2, 3, 4, 5, 6, 7, 8, 9, 10, 11, 12, 13, 14, 15, 16, 17], []) else if r = 6 then some ([], [0, 1, 2, 3, 4, 5, 6, 7, 8, 9, 10, 11, 12], [13]) else none), join := (fun r => if r = 1 then some [24] else none) }
theorem run_ref18_Prune (a0 a1 a2 a3 a4 a5 a6 : IV) : run Tryz.prog (Γ_ref18_Prune) C0 A_ref18_Prune Tryz.f15 [[a0, a1, a2, a3, a4], [a5, a6]] = ref18_Prune_s a0 a1 a2 a3 a4 a5 a6 := by kernel_rfl

def Γ_ref18_Tree : FuncId → Option FSig := fun f =>
  if f = n_ref14_All then some ⟨.pure, false, [1], 0, fun l => match l with | [[x0], [x1]] => ref14_All_s x0 x1 | _ => none⟩ else
  none
def A_ref18_Tree : Ann := {  }
theorem run_ref18_Tree (a0 a1 a2 a3 a4 : IV) : run Tryz.prog (Γ_ref18_Tree) C0 A_ref18_Tree Tryz.f20 [[a0, a1, a2, a3, a4]] = ref18_Tree_s a0 a1 a2 a3 a4 := by kernel_rfl

def Γ_ref01_None : FuncId → Option FSig := fun f =>
  none
def A_ref01_None : Ann := { scalar := true }
theorem run_ref01_None : run Tryz.prog (Γ_ref01_None) C0 A_ref01_None Tryz.f131 [] = ref01_None_s := by kernel_rfl

def Γ_ref01_Minus : FuncId → Option FSig := fun f =>
  none
def A_ref01_Minus : Ann := { join := (fun r => if r = 1 then some [2] else none), scalar := true }
theorem run_ref01_Minus (a0 : IV) : run Tryz.prog (Γ_ref01_Minus) C0 A_ref01_Minus Tryz.f132 [[a0]] = ref01_Minus_s a0 := by kernel_rfl

def Γ_ref01_top : FuncId → Option FSig := fun f =>
  none
def A_ref01_top : Ann := { scalar := true }
theorem run_ref01_top : run Tryz.prog (Γ_ref01_top) C0 A_ref01_top Tryz.f133 [] = ref01_top_s := by kernel_rfl

def Γ_ref01_Bits : FuncId → Option FSig := fun f =>
  if f = n_ref01_None then some ⟨.pure, true, [1], 0, fun l => match l with | [] => ref01_None_s | _ => none⟩ else
  if f = n_ref01_Minus then some ⟨.pure, true, [1], 0, fun l => match l with | [[x0]] => ref01_Minus_s x0 | _ => none⟩ else
  if f = n_ref01_top then some ⟨.pure, true, [1], 0, fun l => match l with | [] => ref01_top_s | _ => none⟩ else
  none
def A_ref01_Bits : Ann := { join := (fun r => if r = 15 then some [35] else none), loop := (fun r => if r = 12 then ([(0, .I), (4, .I)], [[(0, .I), (4, .I)]]) else if r = 15 then ([(0, .I), (4, .I)], [[(0, .I), (4, .I)]]) else if r = 22 then ([(0, .I), (5, .I)], [[(0, .I)]]) else ([], [])), scalar := true }
theorem run_ref01_Bits (a0 : IV) : run Tryz.prog (Γ_ref01_Bits) C0 A_ref01_Bits Tryz.f118 [[a0]] = ref01_Bits_s a0 := by kernel_rfl

def Γ_ref01_Same : FuncId → Option FSig := fun f =>
  if f = n_ref01_Bits then some ⟨.pure, true, [1], 0, fun l => match l with | [[x0]] => ref01_Bits_s x0 | _ => none⟩ else
  none
def A_ref01_Same : Ann := { scalar := true }
theorem run_ref01_Same (a0 a1 : IV) : run Tryz.prog (Γ_ref01_Same) C0 A_ref01_Same Tryz.f97 [[a0], [a1]] = ref01_Same_s a0 a1 := by kernel_rfl

def Γ_ref12_Alike : FuncId → Option FSig := fun f =>
  if f = n_ref01_Same then some ⟨.pure, true, [1], 0, fun l => match l with | [[x0], [x1]] => ref01_Same_s x0 x1 | _ => none⟩ else
  none
def A_ref12_Alike : Ann := { join := (fun r => if r = 1 then some [4] else none), scalar := true }
theorem run_ref12_Alike (a0 a1 a2 a3 a4 a5 a6 a7 : IV) : run Tryz.prog (Γ_ref12_Alike) C0 A_ref12_Alike Tryz.f64 [[a0, a1, a2, a3], [a4, a5, a6, a7]] = ref12_Alike_s a0 a1 a2 a3 a4 a5 a6 a7 := by kernel_rfl

def Γ_ref12_Same : FuncId → Option FSig := fun f =>
  if f = n_ref12_Alike then some ⟨.pure, true, [1], 0, fun l => match l with | [[x0, x1, x2, x3], [x4, x5, x6, x7]] => ref12_Alike_s x0 x1 x2 x3 x4 x5 x6 x7 | _ => none⟩ else
  none
def A_ref12_Same : Ann := { order := (fun r => if r = 6 then some ([], [0, 1, 2, 3, 4, 5, 6, 7, 8, 9], []) else none), loop := (fun r => if r = 4 then ([(5, .I)], [[], [(4, .I)]]) else ([], [])), scalar := true }
theorem run_ref12_Same (a0 a1 : IV) : run Tryz.prog (Γ_ref12_Same) C0 A_ref12_Same Tryz.f18 [[a0], [a1]] = ref12_Same_s a0 a1 := by kernel_rfl

def Γ_ref13_Alike : FuncId → Option FSig := fun f =>
  if f = n_ref13_Row then some ⟨.pure, true, [4], 0, fun l => match l with | [[x0, x1, x2, x3, x4, x5]] => ref13_Row_s x0 x1 x2 x3 x4 x5 | _ => none⟩ else
  if f = n_ref12_Alike then some ⟨.pure, true, [1], 0, fun l => match l with | [[x0, x1, x2, x3], [x4, x5, x6, x7]] => ref12_Alike_s x0 x1 x2 x3 x4 x5 x6 x7 | _ => none⟩ else
  none
def A_ref13_Alike : Ann := { order := (fun r => if r = 1 then some ([], [0, 1, 2, 3, 4, 5, 6, 7, 8, 9, 10, 11, 12], []) else none), join := (fun r => if r = 1 then some [4] else none), scalar := true }
theorem run_ref13_Alike (a0 a1 a2 a3 a4 a5 a6 a7 a8 a9 a10 a11 : IV) : run Tryz.prog (Γ_ref13_Alike) C0 A_ref13_Alike Tryz.f31 [[a0, a1, a2, a3, a4, a5], [a6, a7, a8, a9, a10, a11]] = ref13_Alike_s a0 a1 a2 a3 a4 a5 a6 a7 a8 a9 a10 a11 := by kernel_rfl

def Γ_ref13_Same : FuncId → Option FSig := fun f =>
  if f = n_ref13_Alike then some ⟨.pure, true, [1], 0, fun l => match l with | [[x0, x1, x2, x3, x4, x5], [x6, x7, x8, x9, x10, x11]] => ref13_Alike_s x0 x1 x2 x3 x4 x5 x6 x7 x8 x9 x10 x11 | _ => none⟩ else
  none
def A_ref13_Same : Ann := { order := (fun r => if r = 6 then some ([], [0, 1, 2, 3, 4, 5, 6, 7, 8, 9], []) else none), loop := (fun r => if r = 4 then ([(5, .I)], [[], [(4, .I)]]) else ([], [])), scalar := true }
theorem run_ref13_Same (a0 a1 : IV) : run Tryz.prog (Γ_ref13_Same) C0 A_ref13_Same Tryz.f68 [[a0], [a1]] = ref13_Same_s a0 a1 := by kernel_rfl

def Γ_ref17_Same : FuncId → Option FSig := fun f =>
  none
def A_ref17_Same : Ann := { order := (fun r => if r = 6 then some ([], [0, 1, 2, 3, 4, 5, 6, 7, 8], []) else none), loop := (fun r => if r = 4 then ([(5, .I)], [[], [(4, .I)]]) else ([], [])), scalar := true }
theorem run_ref17_Same (a0 a1 : IV) : run Tryz.prog (Γ_ref17_Same) C0 A_ref17_Same Tryz.f30 [[a0], [a1]] = ref17_Same_s a0 a1 := by kernel_rfl

def Γ_ref18_Same : FuncId → Option FSig := fun f =>
  if f = n_ref12_Same then some ⟨.pure, true, [1], 0, fun l => match l with | [[x0], [x1]] => ref12_Same_s x0 x1 | _ => none⟩ else
  if f = n_ref13_Same then some ⟨.pure, true, [1], 0, fun l => match l with | [[x0], [x1]] => ref13_Same_s x0 x1 | _ => none⟩ else
  if f = n_ref17_Same then some ⟨.pure, true, [1], 0, fun l => match l with | [[x0], [x1]] => ref17_Same_s x0 x1 | _ => none⟩ else
  none
def A_ref18_Same : Ann := { join := (fun r => if r = 1 then some [4] else none), scalar := true }
theorem run_ref18_Same (a0 a1 a2 a3 a4 a5 a6 a7 a8 a9 : IV) : run Tryz.prog (Γ_ref18_Same) C0 A_ref18_Same Tryz.f22 [[a0, a1, a2, a3, a4], [a5, a6, a7, a8, a9]] = ref18_Same_s a0 a1 a2 a3 a4 a5 a6 a7 a8 a9 := by kernel_rfl

def Γ_law18_FloorTells : FuncId → Option FSig := fun f =>
  if f = n_ref18_Few then some ⟨.pure, true, [1], 0, fun l => match l with | [[x0, x1, x2, x3, x4]] => ref18_Few_s x0 x1 x2 x3 x4 | _ => none⟩ else
  if f = n_law18_live then some ⟨.pure, true, [1], 0, fun l => match l with | [] => law18_live_s | _ => none⟩ else
  if f = n_floor_Add then some ⟨.pure, false, [5, 1, 1], 0, fun l => match l with | [[x0, x1, x2, x3, x4], [x5, x6, x7, x8, x9, x10]] => floor_Add_s x0 x1 x2 x3 x4 x5 x6 x7 x8 x9 x10 | _ => none⟩ else
  if f = n_ref18_Add then some ⟨.pure, false, [5, 1, 1], 0, fun l => match l with | [[x0, x1, x2, x3, x4], [x5, x6, x7, x8, x9, x10]] => ref18_Add_s x0 x1 x2 x3 x4 x5 x6 x7 x8 x9 x10 | _ => none⟩ else
  if f = n_floor_Prune then some ⟨.pure, false, [5, 1], 0, fun l => match l with | [[x0, x1, x2, x3, x4], [x5, x6]] => floor_Prune_s x0 x1 x2 x3 x4 x5 x6 | _ => none⟩ else
  if f = n_ref18_Prune then some ⟨.pure, false, [5, 1], 0, fun l => match l with | [[x0, x1, x2, x3, x4], [x5, x6]] => ref18_Prune_s x0 x1 x2 x3 x4 x5 x6 | _ => none⟩ else
  if f = n_floor_May then some ⟨.pure, true, [1], 0, fun l => match l with | [[x0, x1, x2, x3, x4]] => floor_May_s x0 x1 x2 x3 x4 | _ => none⟩ else
  if f = n_ref18_May then some ⟨.pure, true, [1], 0, fun l => match l with | [[x0, x1, x2, x3, x4]] => ref18_May_s x0 x1 x2 x3 x4 | _ => none⟩ else
  if f = n_floor_Tree then some ⟨.pure, false, [1], 0, fun l => match l with | [[x0, x1, x2, x3, x4]] => floor_Tree_s x0 x1 x2 x3 x4 | _ => none⟩ else
  if f = n_ref18_Tree then some ⟨.pure, false, [1], 0, fun l => match l with | [[x0, x1, x2, x3, x4]] => ref18_Tree_s x0 x1 x2 x3 x4 | _ => none⟩ else
  if f = n_ref12_Same then some ⟨.pure, true, [1], 0, fun l => match l with | [[x0], [x1]] => ref12_Same_s x0 x1 | _ => none⟩ else
  if f = n_floor_Same then some ⟨.pure, true, [1], 0, fun l => match l with | [[x0, x1, x2, x3, x4], [x5, x6, x7, x8, x9]] => floor_Same_s x0 x1 x2 x3 x4 x5 x6 x7 x8 x9 | _ => none⟩ else
  if f = n_ref18_Same then some ⟨.pure, true, [1], 0, fun l => match l with | [[x0, x1, x2, x3, x4], [x5, x6, x7, x8, x9]] => ref18_Same_s x0 x1 x2 x3 x4 x5 x6 x7 x8 x9 | _ => none⟩ else
  none
def A_law18_FloorTells : Ann := { order := (fun r => if r = 7 then some ([], [0, 1, 2, 3, 4, 5, 6, 7, 8, 9, 10, 11, 12, 13, 14, 15, 16, 17, 18, 19, 20, 21, 22, 23, 24, 25, 26, 27, 28, 29, 30, 31, 32, 33, 34, 35, 36, 37, 38, 39, 40, 41, 42, 43, 44, 45, 46, 47, 48, 49], []) else none), join := (fun r => if r = 1 then some [30] else if r = 7 then some [6] else none), scalar := true }
theorem run_law18_FloorTells (a0 a1 a2 a3 a4 a5 a6 a7 a8 a9 a10 a11 a12 a13 a14 a15 : IV) : run Tryz.prog (Γ_law18_FloorTells) C0 A_law18_FloorTells Tryz.f3 [[a0, a1, a2, a3, a4], [a5, a6, a7, a8, a9], [a10, a11, a12, a13, a14, a15]] = law18_FloorTells_s a0 a1 a2 a3 a4 a5 a6 a7 a8 a9 a10 a11 a12 a13 a14 a15 := by kernel_rfl

def Γ_ref18_Merge : FuncId → Option FSig := fun f =>
  if f = n_ref18_Add then some ⟨.pure, false, [5, 1, 1], 0, fun l => match l with | [[x0, x1, x2, x3, x4], [x5, x6, x7, x8, x9, x10]] => ref18_Add_s x0 x1 x2 x3 x4 x5 x6 x7 x8 x9 x10 | _ => none⟩ else
  none
def A_ref18_Merge : Ann := { order := (fun r => if r = 5 then some ([8, 9], [0, 1, 2, 3, 4, 5, 6, 7, 10], [11, 12, 13]) else none), loop := (fun r => if r = 3 then ([(4, (.G 5)), (6, (.G 5)), (7, .I)], [[(4, (.G 5)), (6, (.G 5))], [(4, (.G 5)), (5, .I)]]) else ([], [])) }
theorem run_ref18_Merge (a0 a1 a2 a3 a4 a5 : IV) : run Tryz.prog (Γ_ref18_Merge) C0 A_ref18_Merge Tryz.f25 [[a0, a1, a2, a3, a4], [a5]] = ref18_Merge_s a0 a1 a2 a3 a4 a5 := by kernel_rfl

def Γ_law18_FloorMerges : FuncId → Option FSig := fun f =>
  if f = n_ref18_Few then some ⟨.pure, true, [1], 0, fun l => match l with | [[x0, x1, x2, x3, x4]] => ref18_Few_s x0 x1 x2 x3 x4 | _ => none⟩ else
  if f = n_ref13_Few then some ⟨.pure, true, [1], 0, fun l => match l with | [[x0], [x1]] => ref13_Few_s x0 x1 | _ => none⟩ else
  if f = n_law18_live then some ⟨.pure, true, [1], 0, fun l => match l with | [] => law18_live_s | _ => none⟩ else
  if f = n_floor_Merge then some ⟨.pure, false, [5, 1], 0, fun l => match l with | [[x0, x1, x2, x3, x4], [x5]] => floor_Merge_s x0 x1 x2 x3 x4 x5 | _ => none⟩ else
  if f = n_ref18_Merge then some ⟨.pure, false, [5, 1], 0, fun l => match l with | [[x0, x1, x2, x3, x4], [x5]] => ref18_Merge_s x0 x1 x2 x3 x4 x5 | _ => none⟩ else
  if f = n_ref18_Same then some ⟨.pure, true, [1], 0, fun l => match l with | [[x0, x1, x2, x3, x4], [x5, x6, x7, x8, x9]] => ref18_Same_s x0 x1 x2 x3 x4 x5 x6 x7 x8 x9 | _ => none⟩ else
  none
def A_law18_FloorMerges : Ann := { join := (fun r => if r = 1 then some [16] else if r = 5 then some [4] else none), scalar := true }
theorem run_law18_FloorMerges (a0 a1 a2 a3 a4 a5 : IV) : run Tryz.prog (Γ_law18_FloorMerges) C0 A_law18_FloorMerges Tryz.f4 [[a0, a1, a2, a3, a4], [a5]] = law18_FloorMerges_s a0 a1 a2 a3 a4 a5 := by kernel_rfl

def Γ_law18_FloorMay : FuncId → Option FSig := fun f =>
  if f = n_ref18_Few then some ⟨.pure, true, [1], 0, fun l => match l with | [[x0, x1, x2, x3, x4]] => ref18_Few_s x0 x1 x2 x3 x4 | _ => none⟩ else
  if f = n_ref18_May then some ⟨.pure, true, [1], 0, fun l => match l with | [[x0, x1, x2, x3, x4]] => ref18_May_s x0 x1 x2 x3 x4 | _ => none⟩ else
  if f = n_law18_live then some ⟨.pure, true, [1], 0, fun l => match l with | [] => law18_live_s | _ => none⟩ else
  if f = n_floor_Add then some ⟨.pure, false, [5, 1, 1], 0, fun l => match l with | [[x0, x1, x2, x3, x4], [x5, x6, x7, x8, x9, x10]] => floor_Add_s x0 x1 x2 x3 x4 x5 x6 x7 x8 x9 x10 | _ => none⟩ else
  if f = n_floor_Prune then some ⟨.pure, false, [5, 1], 0, fun l => match l with | [[x0, x1, x2, x3, x4], [x5, x6]] => floor_Prune_s x0 x1 x2 x3 x4 x5 x6 | _ => none⟩ else
  if f = n_floor_May then some ⟨.pure, true, [1], 0, fun l => match l with | [[x0, x1, x2, x3, x4]] => floor_May_s x0 x1 x2 x3 x4 | _ => none⟩ else
  if f = n_ref18_Same then some ⟨.pure, true, [1], 0, fun l => match l with | [[x0, x1, x2, x3, x4], [x5, x6, x7, x8, x9]] => ref18_Same_s x0 x1 x2 x3 x4 x5 x6 x7 x8 x9 | _ => none⟩ else
  if f = n_ref13_One then some ⟨.pure, true, [1], 0, fun l => match l with | [[x0, x1, x2, x3, x4, x5]] => ref13_One_s x0 x1 x2 x3 x4 x5 | _ => none⟩ else
  if f = n_ref02_Before then some ⟨.pure, true, [1], 0, fun l => match l with | [[x0, x1], [x2, x3]] => ref02_Before_s x0 x1 x2 x3 | _ => none⟩ else
  if f = n_marks_Get then some ⟨.pure, true, [1], 0, fun l => match l with | [[x0], [x1]] => marks_Get_s x0 x1 | _ => none⟩ else
  if f = n_marks_Below then some ⟨.pure, true, [1], 0, fun l => match l with | [[x0], [x1]] => marks_Below_s x0 x1 | _ => none⟩ else
  none
def A_law18_FloorMay : Ann := { order := (fun r => if r = 9 then some ([], [0, 1, 2, 3, 4, 5, 6, 7, 8, 9, 10, 11, 12, 13, 14, 15, 16, 17, 18, 19, 20, 21, 22], []) else none), join := (fun r => if r = 1 then some [25] else if r = 5 then some [70] else if r = 7 then some [83] else if r = 9 then some [106] else if r = 11 then some [6] else none), scalar := true }
theorem run_law18_FloorMay (a0 a1 a2 a3 a4 a5 a6 a7 a8 a9 a10 a11 a12 : IV) : run Tryz.prog (Γ_law18_FloorMay) C0 A_law18_FloorMay Tryz.f5 [[a0, a1, a2, a3, a4], [a5, a6, a7, a8, a9, a10], [a11, a12]] = law18_FloorMay_s a0 a1 a2 a3 a4 a5 a6 a7 a8 a9 a10 a11 a12 := by kernel_rfl

def Γ_law18_FloorKeeps : FuncId → Option FSig := fun f =>
  if f = n_ref18_Few then some ⟨.pure, true, [1], 0, fun l => match l with | [[x0, x1, x2, x3, x4]] => ref18_Few_s x0 x1 x2 x3 x4 | _ => none⟩ else
  if f = n_ref13_Few then some ⟨.pure, true, [1], 0, fun l => match l with | [[x0], [x1]] => ref13_Few_s x0 x1 | _ => none⟩ else
  if f = n_ref18_May then some ⟨.pure, true, [1], 0, fun l => match l with | [[x0, x1, x2, x3, x4]] => ref18_May_s x0 x1 x2 x3 x4 | _ => none⟩ else
  if f = n_law18_live then some ⟨.pure, true, [1], 0, fun l => match l with | [] => law18_live_s | _ => none⟩ else
  if f = n_floor_Prune then some ⟨.pure, false, [5, 1], 0, fun l => match l with | [[x0, x1, x2, x3, x4], [x5, x6]] => floor_Prune_s x0 x1 x2 x3 x4 x5 x6 | _ => none⟩ else
  if f = n_floor_Tree then some ⟨.pure, false, [1], 0, fun l => match l with | [[x0, x1, x2, x3, x4]] => floor_Tree_s x0 x1 x2 x3 x4 | _ => none⟩ else
  if f = n_ref12_Same then some ⟨.pure, true, [1], 0, fun l => match l with | [[x0], [x1]] => ref12_Same_s x0 x1 | _ => none⟩ else
  if f = n_ref17_Same then some ⟨.pure, true, [1], 0, fun l => match l with | [[x0], [x1]] => ref17_Same_s x0 x1 | _ => none⟩ else
  if f = n_ref18_Same then some ⟨.pure, true, [1], 0, fun l => match l with | [[x0, x1, x2, x3, x4], [x5, x6, x7, x8, x9]] => ref18_Same_s x0 x1 x2 x3 x4 x5 x6 x7 x8 x9 | _ => none⟩ else
  if f = n_ref02_Before then some ⟨.pure, true, [1], 0, fun l => match l with | [[x0, x1], [x2, x3]] => ref02_Before_s x0 x1 x2 x3 | _ => none⟩ else
  if f = n_floor_Add then some ⟨.pure, false, [5, 1, 1], 0, fun l => match l with | [[x0, x1, x2, x3, x4], [x5, x6, x7, x8, x9, x10]] => floor_Add_s x0 x1 x2 x3 x4 x5 x6 x7 x8 x9 x10 | _ => none⟩ else
  if f = n_ref13_One then some ⟨.pure, true, [1], 0, fun l => match l with | [[x0, x1, x2, x3, x4, x5]] => ref13_One_s x0 x1 x2 x3 x4 x5 | _ => none⟩ else
  none
def A_law18_FloorKeeps : Ann := { order := (fun r => if r = 4 then some ([], [0, 1, 2, 3, 4, 5, 6, 7, 8, 9, 10, 11, 12, 13], []) else if r = 13 then some ([], [0, 1, 2, 3, 4, 5, 6, 7, 8], []) else if r = 14 then some ([8, 9], [0, 1, 2, 3, 4, 5, 6, 7, 10], [11, 12, 13]) else if r = 17 then some ([8, 9], [0, 1, 2, 3, 4, 5, 6, 7, 10], [11, 12, 13]) else if r = 18 then some ([8, 9], [0, 1, 2, 3, 4, 5, 6, 7, 10], [11, 12, 13]) else if r = 19 then some ([], [0, 1, 2, 3, 4, 5, 6, 7, 8, 9, 10, 11, 12, 13, 14, 15], []) else none), join := (fun r => if r = 1 then some [33] else if r = 4 then some [54] else if r = 7 then some [6] else if r = 15 then some [98] else if r = 19 then some [134] else if r = 23 then some [6] else none), loop := (fun r => if r = 11 then ([(9, (.G 5)), (10, (.G 5)), (11, .I)], [[(9, (.G 5)), (10, (.G 5))], [(6, .I)]]) else ([], [])), scalar := true }
theorem run_law18_FloorKeeps (a0 a1 a2 a3 a4 a5 a6 a7 : IV) : run Tryz.prog (Γ_law18_FloorKeeps) C0 A_law18_FloorKeeps Tryz.f6 [[a0, a1, a2, a3, a4], [a5, a6], [a7]] = law18_FloorKeeps_s a0 a1 a2 a3 a4 a5 a6 a7 := by kernel_rfl

def Γ_law18_FloorOrder : FuncId → Option FSig := fun f =>
  if f = n_ref18_Few then some ⟨.pure, true, [1], 0, fun l => match l with | [[x0, x1, x2, x3, x4]] => ref18_Few_s x0 x1 x2 x3 x4 | _ => none⟩ else
  if f = n_ref13_Few then some ⟨.pure, true, [1], 0, fun l => match l with | [[x0], [x1]] => ref13_Few_s x0 x1 | _ => none⟩ else
  if f = n_ref18_May then some ⟨.pure, true, [1], 0, fun l => match l with | [[x0, x1, x2, x3, x4]] => ref18_May_s x0 x1 x2 x3 x4 | _ => none⟩ else
  if f = n_law18_live then some ⟨.pure, true, [1], 0, fun l => match l with | [] => law18_live_s | _ => none⟩ else
  if f = n_ref13_Alike then some ⟨.pure, true, [1], 0, fun l => match l with | [[x0, x1, x2, x3, x4, x5], [x6, x7, x8, x9, x10, x11]] => ref13_Alike_s x0 x1 x2 x3 x4 x5 x6 x7 x8 x9 x10 x11 | _ => none⟩ else
  if f = n_floor_Merge then some ⟨.pure, false, [5, 1], 0, fun l => match l with | [[x0, x1, x2, x3, x4], [x5]] => floor_Merge_s x0 x1 x2 x3 x4 x5 | _ => none⟩ else
  if f = n_ref18_Same then some ⟨.pure, true, [1], 0, fun l => match l with | [[x0, x1, x2, x3, x4], [x5, x6, x7, x8, x9]] => ref18_Same_s x0 x1 x2 x3 x4 x5 x6 x7 x8 x9 | _ => none⟩ else
  none
def A_law18_FloorOrder : Ann := { order := (fun r => if r = 11 then some ([], [0, 1, 2, 3, 4, 5, 6, 7, 8, 9, 10, 11, 12, 13, 14, 15, 16, 17, 18, 19, 20, 21, 22], []) else none), join := (fun r => if r = 1 then some [26] else if r = 11 then some [69] else if r = 15 then some [88] else if r = 16 then some [4] else if r = 18 then some [4] else none), loop := (fun r => if r = 5 then ([(5, (.B 6)), (6, .I)], [[(5, (.B 6))], [(4, .I)]]) else if r = 9 then ([(7, .I)], [[], [(4, .I)]]) else ([], [])), scalar := true }
theorem run_law18_FloorOrder (a0 a1 a2 a3 a4 a5 : IV) : run Tryz.prog (Γ_law18_FloorOrder) C0 A_law18_FloorOrder Tryz.f7 [[a0, a1, a2, a3, a4], [a5]] = law18_FloorOrder_s a0 a1 a2 a3 a4 a5 := by kernel_rfl

def Γ_law18_FloorTwice : FuncId → Option FSig := fun f =>
  if f = n_ref18_Few then some ⟨.pure, true, [1], 0, fun l => match l with | [[x0, x1, x2, x3, x4]] => ref18_Few_s x0 x1 x2 x3 x4 | _ => none⟩ else
  if f = n_ref18_May then some ⟨.pure, true, [1], 0, fun l => match l with | [[x0, x1, x2, x3, x4]] => ref18_May_s x0 x1 x2 x3 x4 | _ => none⟩ else
  if f = n_law18_live then some ⟨.pure, true, [1], 0, fun l => match l with | [] => law18_live_s | _ => none⟩ else
  if f = n_floor_Prune then some ⟨.pure, false, [5, 1], 0, fun l => match l with | [[x0, x1, x2, x3, x4], [x5, x6]] => floor_Prune_s x0 x1 x2 x3 x4 x5 x6 | _ => none⟩ else
  if f = n_ref18_Same then some ⟨.pure, true, [1], 0, fun l => match l with | [[x0, x1, x2, x3, x4], [x5, x6, x7, x8, x9]] => ref18_Same_s x0 x1 x2 x3 x4 x5 x6 x7 x8 x9 | _ => none⟩ else
  if f = n_ref02_Before then some ⟨.pure, true, [1], 0, fun l => match l with | [[x0, x1], [x2, x3]] => ref02_Before_s x0 x1 x2 x3 | _ => none⟩ else
  none
def A_law18_FloorTwice : Ann := { join := (fun r => if r = 1 then some [24] else if r = 6 then some [53] else if r = 7 then some [6] else if r = 9 then some [73] else if r = 12 then some [6] else if r = 14 then some [6] else none), scalar := true }
theorem run_law18_FloorTwice (a0 a1 a2 a3 a4 a5 a6 a7 a8 : IV) : run Tryz.prog (Γ_law18_FloorTwice) C0 A_law18_FloorTwice Tryz.f8 [[a0, a1, a2, a3, a4], [a5, a6], [a7, a8]] = law18_FloorTwice_s a0 a1 a2 a3 a4 a5 a6 a7 a8 := by kernel_rfl

def Γ_marks_Join : FuncId → Option FSig := fun f =>
  if f = n_marks_Raise then some ⟨.pure, false, [1], 0, fun l => match l with | [[x0], [x1, x2]] => marks_Raise_s x0 x1 x2 | _ => none⟩ else
  none
def A_marks_Join : Ann := { loop := (fun r => if r = 2 then ([(0, .I), (9, .I)], [[(0, .I)]]) else ([], [])) }
theorem run_marks_Join (a0 a1 : IV) : run Tryz.prog (Γ_marks_Join) C0 A_marks_Join Tryz.f32 [[a0], [a1]] = marks_Join_s a0 a1 := by kernel_rfl

def Γ_law18_FloorMarks : FuncId → Option FSig := fun f =>
  if f = n_ref18_Few then some ⟨.pure, true, [1], 0, fun l => match l with | [[x0, x1, x2, x3, x4]] => ref18_Few_s x0 x1 x2 x3 x4 | _ => none⟩ else
  if f = n_ref13_Few then some ⟨.pure, true, [1], 0, fun l => match l with | [[x0], [x1]] => ref13_Few_s x0 x1 | _ => none⟩ else
  if f = n_ref18_May then some ⟨.pure, true, [1], 0, fun l => match l with | [[x0, x1, x2, x3, x4]] => ref18_May_s x0 x1 x2 x3 x4 | _ => none⟩ else
  if f = n_law18_live then some ⟨.pure, true, [1], 0, fun l => match l with | [] => law18_live_s | _ => none⟩ else
  if f = n_floor_Add then some ⟨.pure, false, [5, 1, 1], 0, fun l => match l with | [[x0, x1, x2, x3, x4], [x5, x6, x7, x8, x9, x10]] => floor_Add_s x0 x1 x2 x3 x4 x5 x6 x7 x8 x9 x10 | _ => none⟩ else
  if f = n_floor_Prune then some ⟨.pure, false, [5, 1], 0, fun l => match l with | [[x0, x1, x2, x3, x4], [x5, x6]] => floor_Prune_s x0 x1 x2 x3 x4 x5 x6 | _ => none⟩ else
  if f = n_marks_Of then some ⟨.pure, false, [1], 0, fun l => match l with | [[x0]] => marks_Of_s x0 | _ => none⟩ else
  if f = n_marks_Join then some ⟨.pure, false, [1], 0, fun l => match l with | [[x0], [x1]] => marks_Join_s x0 x1 | _ => none⟩ else
  if f = n_ref17_Same then some ⟨.pure, true, [1], 0, fun l => match l with | [[x0], [x1]] => ref17_Same_s x0 x1 | _ => none⟩ else
  none
def A_law18_FloorMarks : Ann := { order := (fun r => if r = 8 then some ([8, 9], [0, 1, 2, 3, 4, 5, 6, 7, 10], [11, 12, 13]) else if r = 13 then some ([], [0, 1, 2, 3, 4, 5], []) else none), join := (fun r => if r = 1 then some [28] else if r = 14 then some [6] else none), loop := (fun r => if r = 6 then ([(7, (.B 6)), (8, (.G 5)), (9, .I)], [[(7, (.B 6)), (8, (.G 5))]]) else ([], [])), scalar := true }
theorem run_law18_FloorMarks (a0 a1 a2 a3 a4 a5 a6 a7 : IV) : run Tryz.prog (Γ_law18_FloorMarks) C0 A_law18_FloorMarks Tryz.f9 [[a0, a1, a2, a3, a4], [a5], [a6, a7]] = law18_FloorMarks_s a0 a1 a2 a3 a4 a5 a6 a7 := by kernel_rfl

end Go.AM

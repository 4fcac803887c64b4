/- Each function that is reached runs in the abstract machine as printed. -/
import Derived.Test.YtaepfibaemmlkaaSh
import Derived.Test.YtaepfibaemmlkaaProg
set_option linter.unusedVariables false
set_option maxRecDepth 100000
namespace Go.AM
open Go.Proofs
def Γ_slices_IndexFunc_Mark (C : IV → List Nat → List (List IV) → Option (List IV)) : FuncId → Option FSig := fun f =>
  none
def A_slices_IndexFunc_Mark : Ann := { loop := (fun r => if r = 2 then ([(8, .I)], [[], [(4, .I)]]) else ([], [])), scalar := true }
theorem run_slices_IndexFunc_Mark (C : IV → List Nat → List (List IV) → Option (List IV)) (a0 a1 : IV) : run Try.prog (Γ_slices_IndexFunc_Mark C) C A_slices_IndexFunc_Mark Try.f54 [[a0], [a1]] = slices_IndexFunc_Mark_s C a0 a1 := by kernel_rfl

def Γ_marks_place_1 : FuncId → Option FSig := fun f =>
  none
def A_marks_place_1 : Ann := { scalar := true }
theorem run_marks_place_1 (a0 a1 a2 : IV) : run Try.prog (Γ_marks_place_1) C0 A_marks_place_1 Try.f74 [[a0, a1], [a2]] = marks_place_1_s a0 a1 a2 := by kernel_rfl

def Γ_marks_place : FuncId → Option FSig := fun f =>
  if f = n_slices_IndexFunc_Mark then some ⟨.pure, true, [1], 0, fun l => match l with | [[x0], [x1]] => slices_IndexFunc_Mark_s (Cx_marks_place) x0 x1 | _ => none⟩ else
  none
def A_marks_place : Ann := { scalar := true }
theorem run_marks_place (a0 a1 : IV) : run Try.prog (Γ_marks_place) (Cx_marks_place) A_marks_place Try.f52 [[a0], [a1]] = marks_place_s a0 a1 := by kernel_rfl

def Γ_marks_greatest : FuncId → Option FSig := fun f =>
  none
def A_marks_greatest : Ann := { loop := (fun r => if r = 2 then ([(0, .I), (9, .I)], [[(0, .I)]]) else ([], [])), scalar := true }
theorem run_marks_greatest (a0 a1 : IV) : run Try.prog (Γ_marks_greatest) C0 A_marks_greatest Try.f51 [[a0], [a1]] = marks_greatest_s a0 a1 := by kernel_rfl

def Γ_marks_Raise_1 : FuncId → Option FSig := fun f =>
  none
def A_marks_Raise_1 : Ann := { scalar := true }
theorem run_marks_Raise_1 (a0 a1 a2 : IV) : run Try.prog (Γ_marks_Raise_1) C0 A_marks_Raise_1 Try.f55 [[a0, a1], [a2]] = marks_Raise_1_s a0 a1 a2 := by kernel_rfl

def Γ_marks_Raise : FuncId → Option FSig := fun f =>
  if f = n_slices_Clone_Mark then some ⟨.own, false, [1], 2, fun l => match l with | [[x0]] => slices_Clone_Mark_s x0 | _ => none⟩ else
  if f = n_marks_place then some ⟨.pure, true, [1, 1], 0, fun l => match l with | [[x0], [x1]] => marks_place_s x0 x1 | _ => none⟩ else
  if f = n_marks_greatest then some ⟨.pure, true, [1], 0, fun l => match l with | [[x0], [x1]] => marks_greatest_s x0 x1 | _ => none⟩ else
  if f = n_slices_IndexFunc_Mark then some ⟨.pure, true, [1], 0, fun l => match l with | [[x0], [x1]] => slices_IndexFunc_Mark_s (Cx_marks_Raise) x0 x1 | _ => none⟩ else
  if f = n_slices_Insert_Mark then some ⟨.cons, false, [1], 2, fun l => match l with | [[x0], [x1], [x2]] => slices_Insert_Mark_s x0 x1 x2 | _ => none⟩ else
  none
def A_marks_Raise : Ann := { order := (fun r => if r = 4 then some ([], [0, 1, 2, 3, 4, 5, 6, 7, 8, 9, 10, 11, 12], [13]) else none) }
theorem run_marks_Raise (a0 a1 a2 : IV) : run Try.prog (Γ_marks_Raise) (Cx_marks_Raise) A_marks_Raise Try.f23 [[a0], [a1, a2]] = marks_Raise_s a0 a1 a2 := by kernel_rfl

def Γ_marks_Join : FuncId → Option FSig := fun f =>
  if f = n_marks_Raise then some ⟨.pure, false, [1], 0, fun l => match l with | [[x0], [x1, x2]] => marks_Raise_s x0 x1 x2 | _ => none⟩ else
  none
def A_marks_Join : Ann := { loop := (fun r => if r = 2 then ([(0, .I), (9, .I)], [[(0, .I)]]) else ([], [])) }
theorem run_marks_Join (a0 a1 : IV) : run Try.prog (Γ_marks_Join) C0 A_marks_Join Try.f25 [[a0], [a1]] = marks_Join_s a0 a1 := by kernel_rfl

def Γ_marks_Next : FuncId → Option FSig := fun f =>
  if f = n_marks_greatest then some ⟨.pure, true, [1], 0, fun l => match l with | [[x0], [x1]] => marks_greatest_s x0 x1 | _ => none⟩ else
  none
def A_marks_Next : Ann := { join := (fun r => if r = 8 then some [38] else none), loop := (fun r => if r = 3 then ([(8, (.B 1)), (17, .I)], [[(8, (.B 1))]]) else ([], [])), scalar := true }
theorem run_marks_Next (a0 a1 a2 a3 : IV) : run Try.prog (Γ_marks_Next) C0 A_marks_Next Try.f16 [[a0], [a1, a2], [a3]] = marks_Next_s a0 a1 a2 a3 := by kernel_rfl

def Γ_ref17_Same : FuncId → Option FSig := fun f =>
  none
def A_ref17_Same : Ann := { order := (fun r => if r = 6 then some ([], [0, 1, 2, 3, 4, 5, 6, 7, 8], []) else none), loop := (fun r => if r = 4 then ([(5, .I)], [[], [(4, .I)]]) else ([], [])), scalar := true }
theorem run_ref17_Same (a0 a1 : IV) : run Try.prog (Γ_ref17_Same) C0 A_ref17_Same Try.f22 [[a0], [a1]] = ref17_Same_s a0 a1 := by kernel_rfl

def Γ_marks_Get : FuncId → Option FSig := fun f =>
  if f = n_marks_place then some ⟨.pure, true, [1, 1], 0, fun l => match l with | [[x0], [x1]] => marks_place_s x0 x1 | _ => none⟩ else
  none
def A_marks_Get : Ann := { scalar := true }
theorem run_marks_Get (a0 a1 : IV) : run Try.prog (Γ_marks_Get) C0 A_marks_Get Try.f20 [[a0], [a1]] = marks_Get_s a0 a1 := by kernel_rfl

def Γ_slices_ContainsFunc_Mark (C : IV → List Nat → List (List IV) → Option (List IV)) : FuncId → Option FSig := fun f =>
  if f = n_slices_IndexFunc_Mark then some ⟨.pure, true, [1], 0, fun l => match l with | [[x0], [x1]] => slices_IndexFunc_Mark_s C x0 x1 | _ => none⟩ else
  none
def A_slices_ContainsFunc_Mark : Ann := { scalar := true }
theorem run_slices_ContainsFunc_Mark (C : IV → List Nat → List (List IV) → Option (List IV)) (a0 a1 : IV) : run Try.prog (Γ_slices_ContainsFunc_Mark C) C A_slices_ContainsFunc_Mark Try.f57 [[a0], [a1]] = slices_ContainsFunc_Mark_s C a0 a1 := by kernel_rfl

def Γ_marks_Below_1 : FuncId → Option FSig := fun f =>
  if f = n_marks_Get then some ⟨.pure, true, [1], 0, fun l => match l with | [[x0], [x1]] => marks_Get_s x0 x1 | _ => none⟩ else
  none
def A_marks_Below_1 : Ann := { order := (fun r => if r = 1 then some ([], [0, 1, 2, 3, 4, 5, 6, 7, 8, 9], []) else none), scalar := true }
theorem run_marks_Below_1 (a0 a1 a2 a3 : IV) : run Try.prog (Γ_marks_Below_1) C0 A_marks_Below_1 Try.f58 [[a0, a1], [a2], [a3]] = marks_Below_1_s a0 a1 a2 a3 := by kernel_rfl

def Γ_marks_Below : FuncId → Option FSig := fun f =>
  if f = n_slices_ContainsFunc_Mark then some ⟨.pure, true, [1], 0, fun l => match l with | [[x0], [x1]] => slices_ContainsFunc_Mark_s (Cx_marks_Below) x0 x1 | _ => none⟩ else
  none
def A_marks_Below : Ann := { scalar := true }
theorem run_marks_Below (a0 a1 : IV) : run Try.prog (Γ_marks_Below) (Cx_marks_Below) A_marks_Below Try.f27 [[a0], [a1]] = marks_Below_s a0 a1 := by kernel_rfl

def Γ_marks_May : FuncId → Option FSig := fun f =>
  none
def A_marks_May : Ann := { order := (fun r => if r = 4 then some ([], [0, 1, 2, 3, 4, 5, 6, 7, 8, 9, 10, 11, 12, 13, 14, 15, 16, 17, 18, 19, 20, 21, 22, 23, 24, 25, 26, 27, 28, 29, 30, 31, 32], []) else none), join := (fun r => if r = 4 then some [44] else none), loop := (fun r => if r = 2 then ([(7, .I)], [[], [(2, .I)]]) else ([], [])), scalar := true }
theorem run_marks_May (a0 : IV) : run Try.prog (Γ_marks_May) C0 A_marks_May Try.f18 [[a0]] = marks_May_s a0 := by kernel_rfl

def Γ_marks_Of : FuncId → Option FSig := fun f =>
  if f = n_marks_Raise then some ⟨.pure, false, [1], 0, fun l => match l with | [[x0], [x1, x2]] => marks_Raise_s x0 x1 x2 | _ => none⟩ else
  none
def A_marks_Of : Ann := { loop := (fun r => if r = 3 then ([(3, .I), (8, .I)], [[(3, .I)]]) else ([], [])) }
theorem run_marks_Of (a0 : IV) : run Try.prog (Γ_marks_Of) C0 A_marks_Of Try.f30 [[a0]] = marks_Of_s a0 := by kernel_rfl

def Γ_law17_live : FuncId → Option FSig := fun f =>
  if f = n_marks_Raise then some ⟨.pure, false, [1], 0, fun l => match l with | [[x0], [x1, x2]] => marks_Raise_s x0 x1 x2 | _ => none⟩ else
  if f = n_marks_Join then some ⟨.pure, false, [1], 0, fun l => match l with | [[x0], [x1]] => marks_Join_s x0 x1 | _ => none⟩ else
  if f = n_marks_Next then some ⟨.pure, true, [2, 1], 0, fun l => match l with | [[x0], [x1, x2], [x3]] => marks_Next_s x0 x1 x2 x3 | _ => none⟩ else
  if f = n_ref17_Same then some ⟨.pure, true, [1], 0, fun l => match l with | [[x0], [x1]] => ref17_Same_s x0 x1 | _ => none⟩ else
  if f = n_marks_Get then some ⟨.pure, true, [1], 0, fun l => match l with | [[x0], [x1]] => marks_Get_s x0 x1 | _ => none⟩ else
  if f = n_marks_Below then some ⟨.pure, true, [1], 0, fun l => match l with | [[x0], [x1]] => marks_Below_s x0 x1 | _ => none⟩ else
  if f = n_marks_May then some ⟨.pure, true, [1], 0, fun l => match l with | [[x0]] => marks_May_s x0 | _ => none⟩ else
  if f = n_marks_Of then some ⟨.pure, false, [1], 0, fun l => match l with | [[x0]] => marks_Of_s x0 | _ => none⟩ else
  none
def A_law17_live : Ann := { join := (fun r => if r = 5 then some [0] else none), scalar := true }
theorem run_law17_live : run Try.prog (Γ_law17_live) C0 A_law17_live Try.f15 [] = law17_live_s := by kernel_rfl

def Γ_ref17_Next : FuncId → Option FSig := fun f =>
  none
def A_ref17_Next : Ann := { join := (fun r => if r = 6 then some [35] else none), loop := (fun r => if r = 3 then ([(8, .I), (9, .I)], [[(8, .I)]]) else ([], [])), scalar := true }
theorem run_ref17_Next (a0 a1 a2 a3 : IV) : run Try.prog (Γ_ref17_Next) C0 A_ref17_Next Try.f17 [[a0], [a1, a2], [a3]] = ref17_Next_s a0 a1 a2 a3 := by kernel_rfl

def Γ_ref17_May : FuncId → Option FSig := fun f =>
  none
def A_ref17_May : Ann := { order := (fun r => if r = 4 then some ([], [0, 1, 2, 3, 4, 5, 6, 7, 8, 9, 10, 11, 12, 13, 14, 15, 16, 17, 18, 19, 20, 21, 22, 23, 24, 25, 26, 27, 28, 29, 30, 31, 32, 33, 34, 35, 36, 37, 38, 39, 40, 41, 42, 43, 44, 45, 46, 47], []) else none), join := (fun r => if r = 4 then some [57] else none), loop := (fun r => if r = 2 then ([(3, .I)], [[], [(2, .I)]]) else ([], [])), scalar := true }
theorem run_ref17_May (a0 : IV) : run Try.prog (Γ_ref17_May) C0 A_ref17_May Try.f19 [[a0]] = ref17_May_s a0 := by kernel_rfl

def Γ_ref17_Get : FuncId → Option FSig := fun f =>
  none
def A_ref17_Get : Ann := { loop := (fun r => if r = 2 then ([(5, .I)], [[], [(4, .I)]]) else ([], [])), scalar := true }
theorem run_ref17_Get (a0 a1 : IV) : run Try.prog (Γ_ref17_Get) C0 A_ref17_Get Try.f21 [[a0], [a1]] = ref17_Get_s a0 a1 := by kernel_rfl

def Γ_ref17_Raise : FuncId → Option FSig := fun f =>
  none
def A_ref17_Raise : Ann := { order := (fun r => if r = 5 then some ([], [0, 1, 2, 3, 4, 5, 6, 7], []) else if r = 6 then some ([], [0, 1, 2, 3, 4, 5, 6, 7, 8, 9, 10, 11], [12]) else if r = 11 then some ([], [0, 1, 2, 3, 4, 5, 6, 7, 8, 9, 10, 11, 12, 13], []) else if r = 14 then some ([10], [0, 1, 2, 3, 4, 5, 6, 7, 8], [9, 11, 12]) else none), join := (fun r => if r = 11 then some [56] else none), loop := (fun r => if r = 3 then ([(5, (.B 2)), (6, .I)], [[(5, (.B 2))], [(4, .I)]]) else if r = 11 then ([(7, .I)], [[(7, .I)]]) else ([], [])) }
theorem run_ref17_Raise (a0 a1 a2 : IV) : run Try.prog (Γ_ref17_Raise) C0 A_ref17_Raise Try.f24 [[a0], [a1, a2]] = ref17_Raise_s a0 a1 a2 := by kernel_rfl

def Γ_ref17_Join : FuncId → Option FSig := fun f =>
  if f = n_ref17_Raise then some ⟨.pure, false, [1], 0, fun l => match l with | [[x0], [x1, x2]] => ref17_Raise_s x0 x1 x2 | _ => none⟩ else
  none
def A_ref17_Join : Ann := { order := (fun r => if r = 4 then some ([], [0, 1, 2, 3, 4, 5, 6, 7, 8, 9, 10, 11, 12, 13], []) else none), loop := (fun r => if r = 2 then ([(0, .I), (5, .I)], [[(0, .I)]]) else ([], [])) }
theorem run_ref17_Join (a0 a1 : IV) : run Try.prog (Γ_ref17_Join) C0 A_ref17_Join Try.f26 [[a0], [a1]] = ref17_Join_s a0 a1 := by kernel_rfl

def Γ_ref17_Below : FuncId → Option FSig := fun f =>
  if f = n_ref17_Get then some ⟨.pure, true, [1], 0, fun l => match l with | [[x0], [x1]] => ref17_Get_s x0 x1 | _ => none⟩ else
  none
def A_ref17_Below : Ann := { order := (fun r => if r = 4 then some ([], [0, 1, 2, 3, 4, 5, 6, 7, 8, 9, 10, 11, 12, 13, 14], []) else none), loop := (fun r => if r = 2 then ([(5, .I)], [[], [(4, .I)]]) else ([], [])), scalar := true }
theorem run_ref17_Below (a0 a1 : IV) : run Try.prog (Γ_ref17_Below) C0 A_ref17_Below Try.f28 [[a0], [a1]] = ref17_Below_s a0 a1 := by kernel_rfl

def Γ_law17_MarksTells : FuncId → Option FSig := fun f =>
  if f = n_law17_live then some ⟨.pure, true, [1], 0, fun l => match l with | [] => law17_live_s | _ => none⟩ else
  if f = n_marks_Next then some ⟨.pure, true, [2, 1], 0, fun l => match l with | [[x0], [x1, x2], [x3]] => marks_Next_s x0 x1 x2 x3 | _ => none⟩ else
  if f = n_ref17_Next then some ⟨.pure, true, [2, 1], 0, fun l => match l with | [[x0], [x1, x2], [x3]] => ref17_Next_s x0 x1 x2 x3 | _ => none⟩ else
  if f = n_marks_May then some ⟨.pure, true, [1], 0, fun l => match l with | [[x0]] => marks_May_s x0 | _ => none⟩ else
  if f = n_ref17_May then some ⟨.pure, true, [1], 0, fun l => match l with | [[x0]] => ref17_May_s x0 | _ => none⟩ else
  if f = n_marks_Get then some ⟨.pure, true, [1], 0, fun l => match l with | [[x0], [x1]] => marks_Get_s x0 x1 | _ => none⟩ else
  if f = n_ref17_Get then some ⟨.pure, true, [1], 0, fun l => match l with | [[x0], [x1]] => ref17_Get_s x0 x1 | _ => none⟩ else
  if f = n_marks_Raise then some ⟨.pure, false, [1], 0, fun l => match l with | [[x0], [x1, x2]] => marks_Raise_s x0 x1 x2 | _ => none⟩ else
  if f = n_ref17_Raise then some ⟨.pure, false, [1], 0, fun l => match l with | [[x0], [x1, x2]] => ref17_Raise_s x0 x1 x2 | _ => none⟩ else
  if f = n_ref17_Same then some ⟨.pure, true, [1], 0, fun l => match l with | [[x0], [x1]] => ref17_Same_s x0 x1 | _ => none⟩ else
  if f = n_marks_Join then some ⟨.pure, false, [1], 0, fun l => match l with | [[x0], [x1]] => marks_Join_s x0 x1 | _ => none⟩ else
  if f = n_ref17_Join then some ⟨.pure, false, [1], 0, fun l => match l with | [[x0], [x1]] => ref17_Join_s x0 x1 | _ => none⟩ else
  if f = n_marks_Below then some ⟨.pure, true, [1], 0, fun l => match l with | [[x0], [x1]] => marks_Below_s x0 x1 | _ => none⟩ else
  if f = n_ref17_Below then some ⟨.pure, true, [1], 0, fun l => match l with | [[x0], [x1]] => ref17_Below_s x0 x1 | _ => none⟩ else
  none
def A_law17_MarksTells : Ann := { order := (fun r => if r = 5 then some ([], [0, 1, 2, 3, 4, 5, 6, 7, 8, 9, 10, 11, 12, 13, 14, 15, 16, 17, 18, 19, 20, 21, 22, 23, 24, 25, 26, 27, 28, 29, 30, 31, 32, 33, 34, 35, 36, 37, 38, 39, 40, 41, 42, 43, 44, 45, 46, 47, 48, 49, 50, 51, 52, 53, 54, 55, 56], []) else none), join := (fun r => if r = 1 then some [18] else if r = 5 then some [6] else none), scalar := true }
theorem run_law17_MarksTells (a0 a1 a2 a3 : IV) : run Try.prog (Γ_law17_MarksTells) C0 A_law17_MarksTells Try.f3 [[a0], [a1], [a2, a3]] = law17_MarksTells_s a0 a1 a2 a3 := by kernel_rfl

def Γ_ref13_Few : FuncId → Option FSig := fun f =>
  none
def A_ref13_Few : Ann := { loop := (fun r => if r = 4 then ([(5, .I)], [[], [(4, .I)]]) else ([], [])), scalar := true }
theorem run_ref13_Few (a0 a1 : IV) : run Try.prog (Γ_ref13_Few) C0 A_ref13_Few Try.f29 [[a0], [a1]] = ref13_Few_s a0 a1 := by kernel_rfl

def Γ_ref17_Of : FuncId → Option FSig := fun f =>
  if f = n_ref17_Raise then some ⟨.pure, false, [1], 0, fun l => match l with | [[x0], [x1, x2]] => ref17_Raise_s x0 x1 x2 | _ => none⟩ else
  none
def A_ref17_Of : Ann := { loop := (fun r => if r = 3 then ([(3, .I), (4, .I)], [[(3, .I)]]) else ([], [])) }
theorem run_ref17_Of (a0 : IV) : run Try.prog (Γ_ref17_Of) C0 A_ref17_Of Try.f31 [[a0]] = ref17_Of_s a0 := by kernel_rfl

def Γ_law17_MarksOf : FuncId → Option FSig := fun f =>
  if f = n_ref13_Few then some ⟨.pure, true, [1], 0, fun l => match l with | [[x0], [x1]] => ref13_Few_s x0 x1 | _ => none⟩ else
  if f = n_law17_live then some ⟨.pure, true, [1], 0, fun l => match l with | [] => law17_live_s | _ => none⟩ else
  if f = n_marks_Of then some ⟨.pure, false, [1], 0, fun l => match l with | [[x0]] => marks_Of_s x0 | _ => none⟩ else
  if f = n_ref17_Of then some ⟨.pure, false, [1], 0, fun l => match l with | [[x0]] => ref17_Of_s x0 | _ => none⟩ else
  if f = n_ref17_Same then some ⟨.pure, true, [1], 0, fun l => match l with | [[x0], [x1]] => ref17_Same_s x0 x1 | _ => none⟩ else
  none
def A_law17_MarksOf : Ann := { join := (fun r => if r = 3 then some [2] else none), scalar := true }
theorem run_law17_MarksOf (a0 : IV) : run Try.prog (Γ_law17_MarksOf) C0 A_law17_MarksOf Try.f4 [[a0]] = law17_MarksOf_s a0 := by kernel_rfl

def Γ_law17_MarksJoin : FuncId → Option FSig := fun f =>
  if f = n_ref17_May then some ⟨.pure, true, [1], 0, fun l => match l with | [[x0]] => ref17_May_s x0 | _ => none⟩ else
  if f = n_law17_live then some ⟨.pure, true, [1], 0, fun l => match l with | [] => law17_live_s | _ => none⟩ else
  if f = n_marks_Join then some ⟨.pure, false, [1], 0, fun l => match l with | [[x0], [x1]] => marks_Join_s x0 x1 | _ => none⟩ else
  if f = n_marks_May then some ⟨.pure, true, [1], 0, fun l => match l with | [[x0]] => marks_May_s x0 | _ => none⟩ else
  if f = n_marks_Below then some ⟨.pure, true, [1], 0, fun l => match l with | [[x0], [x1]] => marks_Below_s x0 x1 | _ => none⟩ else
  if f = n_ref17_Same then some ⟨.pure, true, [1], 0, fun l => match l with | [[x0], [x1]] => ref17_Same_s x0 x1 | _ => none⟩ else
  none
def A_law17_MarksJoin : Ann := { join := (fun r => if r = 1 then some [35] else if r = 4 then some [70] else if r = 6 then some [84] else if r = 8 then some [6] else none), scalar := true }
theorem run_law17_MarksJoin (a0 a1 a2 : IV) : run Try.prog (Γ_law17_MarksJoin) C0 A_law17_MarksJoin Try.f5 [[a0], [a1], [a2]] = law17_MarksJoin_s a0 a1 a2 := by kernel_rfl

def Γ_ref13_Time : FuncId → Option FSig := fun f =>
  none
def A_ref13_Time : Ann := { join := (fun r => if r = 1 then some [2] else none), scalar := true }
theorem run_ref13_Time (a0 a1 : IV) : run Try.prog (Γ_ref13_Time) C0 A_ref13_Time Try.f33 [[a0, a1]] = ref13_Time_s a0 a1 := by kernel_rfl

def Γ_ref13_Row : FuncId → Option FSig := fun f =>
  none
def A_ref13_Row : Ann := { scalar := true }
theorem run_ref13_Row (a0 a1 a2 a3 a4 a5 : IV) : run Try.prog (Γ_ref13_Row) C0 A_ref13_Row Try.f40 [[a0, a1, a2, a3, a4, a5]] = ref13_Row_s a0 a1 a2 a3 a4 a5 := by kernel_rfl

def Γ_ref04_in : FuncId → Option FSig := fun f =>
  none
def A_ref04_in : Ann := { join := (fun r => if r = 1 then some [8] else none), scalar := true }
theorem run_ref04_in (a0 a1 a2 a3 : IV) : run Try.prog (Γ_ref04_in) C0 A_ref04_in Try.f103 [[a0], [a1], [a2], [a3]] = ref04_in_s a0 a1 a2 a3 := by kernel_rfl

def Γ_ref04_sign : FuncId → Option FSig := fun f =>
  if f = n_ref04_in then some ⟨.pure, true, [1], 0, fun l => match l with | [[x0], [x1], [x2], [x3]] => ref04_in_s x0 x1 x2 x3 | _ => none⟩ else
  none
def A_ref04_sign : Ann := { join := (fun r => if r = 3 then some [16] else if r = 5 then some [64] else if r = 7 then some [107] else none), scalar := true }
theorem run_ref04_sign (a0 a1 : IV) : run Try.prog (Γ_ref04_sign) C0 A_ref04_sign Try.f100 [[a0], [a1]] = ref04_sign_s a0 a1 := by kernel_rfl

def Γ_ref04_First : FuncId → Option FSig := fun f =>
  if f = n_ref04_sign then some ⟨.pure, true, [1], 0, fun l => match l with | [[x0], [x1]] => ref04_sign_s x0 x1 | _ => none⟩ else
  none
def A_ref04_First : Ann := { loop := (fun r => if r = 2 then ([(4, .I)], [[], [(2, .I), (3, .I)]]) else ([], [])), scalar := true }
theorem run_ref04_First (a0 : IV) : run Try.prog (Γ_ref04_First) C0 A_ref04_First Try.f90 [[a0]] = ref04_First_s a0 := by kernel_rfl

def Γ_ref04_Valid : FuncId → Option FSig := fun f =>
  if f = n_ref04_First then some ⟨.pure, true, [1, 1], 0, fun l => match l with | [[x0]] => ref04_First_s x0 | _ => none⟩ else
  none
def A_ref04_Valid : Ann := { scalar := true }
theorem run_ref04_Valid (a0 : IV) : run Try.prog (Γ_ref04_Valid) C0 A_ref04_Valid Try.f78 [[a0]] = ref04_Valid_s a0 := by kernel_rfl

def Γ_ref12_One : FuncId → Option FSig := fun f =>
  if f = n_ref04_Valid then some ⟨.pure, true, [1], 0, fun l => match l with | [[x0]] => ref04_Valid_s x0 | _ => none⟩ else
  none
def A_ref12_One : Ann := { join := (fun r => if r = 1 then some [2] else none), scalar := true }
theorem run_ref12_One (a0 a1 a2 a3 : IV) : run Try.prog (Γ_ref12_One) C0 A_ref12_One Try.f61 [[a0, a1, a2, a3]] = ref12_One_s a0 a1 a2 a3 := by kernel_rfl

def Γ_ref13_One : FuncId → Option FSig := fun f =>
  if f = n_ref13_Time then some ⟨.pure, true, [1], 0, fun l => match l with | [[x0, x1]] => ref13_Time_s x0 x1 | _ => none⟩ else
  if f = n_ref13_Row then some ⟨.pure, true, [4], 0, fun l => match l with | [[x0, x1, x2, x3, x4, x5]] => ref13_Row_s x0 x1 x2 x3 x4 x5 | _ => none⟩ else
  if f = n_ref12_One then some ⟨.pure, true, [1], 0, fun l => match l with | [[x0, x1, x2, x3]] => ref12_One_s x0 x1 x2 x3 | _ => none⟩ else
  none
def A_ref13_One : Ann := { join := (fun r => if r = 1 then some [2] else none), scalar := true }
theorem run_ref13_One (a0 a1 a2 a3 a4 a5 : IV) : run Try.prog (Γ_ref13_One) C0 A_ref13_One Try.f37 [[a0, a1, a2, a3, a4, a5]] = ref13_One_s a0 a1 a2 a3 a4 a5 := by kernel_rfl

def Γ_ref02_Before : FuncId → Option FSig := fun f =>
  none
def A_ref02_Before : Ann := { join := (fun r => if r = 1 then some [4] else none), scalar := true }
theorem run_ref02_Before (a0 a1 a2 a3 : IV) : run Try.prog (Γ_ref02_Before) C0 A_ref02_Before Try.f34 [[a0, a1], [a2, a3]] = ref02_Before_s a0 a1 a2 a3 := by kernel_rfl

def Γ_ref13_May : FuncId → Option FSig := fun f =>
  if f = n_ref13_One then some ⟨.pure, true, [1], 0, fun l => match l with | [[x0, x1, x2, x3, x4, x5]] => ref13_One_s x0 x1 x2 x3 x4 x5 | _ => none⟩ else
  if f = n_ref02_Before then some ⟨.pure, true, [1], 0, fun l => match l with | [[x0, x1], [x2, x3]] => ref02_Before_s x0 x1 x2 x3 | _ => none⟩ else
  none
def A_ref13_May : Ann := { order := (fun r => if r = 6 then some ([], [0, 1, 2, 3, 4, 5, 6, 7, 8, 9, 10, 11, 12, 13, 14, 15, 16, 17, 18, 19, 20, 21, 22, 23, 24], []) else none), join := (fun r => if r = 6 then some [37] else none), loop := (fun r => if r = 4 then ([(3, .I)], [[], [(2, .I)]]) else ([], [])), scalar := true }
theorem run_ref13_May (a0 : IV) : run Try.prog (Γ_ref13_May) C0 A_ref13_May Try.f32 [[a0]] = ref13_May_s a0 := by kernel_rfl

def Γ_law17_MarksMoves : FuncId → Option FSig := fun f =>
  if f = n_ref13_Few then some ⟨.pure, true, [1], 0, fun l => match l with | [[x0], [x1]] => ref13_Few_s x0 x1 | _ => none⟩ else
  if f = n_ref13_May then some ⟨.pure, true, [1], 0, fun l => match l with | [[x0]] => ref13_May_s x0 | _ => none⟩ else
  if f = n_law17_live then some ⟨.pure, true, [1], 0, fun l => match l with | [] => law17_live_s | _ => none⟩ else
  if f = n_marks_Of then some ⟨.pure, false, [1], 0, fun l => match l with | [[x0]] => marks_Of_s x0 | _ => none⟩ else
  if f = n_marks_May then some ⟨.pure, true, [1], 0, fun l => match l with | [[x0]] => marks_May_s x0 | _ => none⟩ else
  if f = n_marks_Get then some ⟨.pure, true, [1], 0, fun l => match l with | [[x0], [x1]] => marks_Get_s x0 x1 | _ => none⟩ else
  if f = n_marks_Join then some ⟨.pure, false, [1], 0, fun l => match l with | [[x0], [x1]] => marks_Join_s x0 x1 | _ => none⟩ else
  if f = n_ref17_Same then some ⟨.pure, true, [1], 0, fun l => match l with | [[x0], [x1]] => ref17_Same_s x0 x1 | _ => none⟩ else
  none
def A_law17_MarksMoves : Ann := { order := (fun r => if r = 9 then some ([], [0, 1, 2, 3, 4, 5, 6, 7, 8, 9, 10, 11, 12, 13, 14], []) else if r = 18 then some ([], [0, 1, 2, 3, 4, 5, 6, 7, 8, 9, 10, 11, 12, 13, 14, 15, 16, 17, 18, 19, 20, 21, 22, 23, 24, 25, 26, 27, 28, 29], []) else if r = 21 then some ([], [0, 1, 2, 3, 4, 5, 6, 7, 8, 9, 10, 11, 12, 13, 14], []) else none), join := (fun r => if r = 1 then some [27] else if r = 18 then some [8] else if r = 21 then some [4] else none), loop := (fun r => if r = 7 then ([(6, .I)], [[], [(4, .I)]]) else if r = 12 then ([(7, .I)], [[], [(4, .I)]]) else if r = 16 then ([(8, .I), (9, .I)], [[(8, .I)]]) else ([], [])), scalar := true }
theorem run_law17_MarksMoves (a0 a1 : IV) : run Try.prog (Γ_law17_MarksMoves) C0 A_law17_MarksMoves Try.f6 [[a0], [a1]] = law17_MarksMoves_s a0 a1 := by kernel_rfl

def Γ_law17_MarksNext : FuncId → Option FSig := fun f =>
  if f = n_ref13_Few then some ⟨.pure, true, [1], 0, fun l => match l with | [[x0], [x1]] => ref13_Few_s x0 x1 | _ => none⟩ else
  if f = n_ref13_May then some ⟨.pure, true, [1], 0, fun l => match l with | [[x0]] => ref13_May_s x0 | _ => none⟩ else
  if f = n_ref13_Time then some ⟨.pure, true, [1], 0, fun l => match l with | [[x0, x1]] => ref13_Time_s x0 x1 | _ => none⟩ else
  if f = n_law17_live then some ⟨.pure, true, [1], 0, fun l => match l with | [] => law17_live_s | _ => none⟩ else
  if f = n_marks_Of then some ⟨.pure, false, [1], 0, fun l => match l with | [[x0]] => marks_Of_s x0 | _ => none⟩ else
  if f = n_marks_Next then some ⟨.pure, true, [2, 1], 0, fun l => match l with | [[x0], [x1, x2], [x3]] => marks_Next_s x0 x1 x2 x3 | _ => none⟩ else
  if f = n_ref02_Before then some ⟨.pure, true, [1], 0, fun l => match l with | [[x0, x1], [x2, x3]] => ref02_Before_s x0 x1 x2 x3 | _ => none⟩ else
  if f = n_marks_Raise then some ⟨.pure, false, [1], 0, fun l => match l with | [[x0], [x1, x2]] => marks_Raise_s x0 x1 x2 | _ => none⟩ else
  if f = n_marks_Get then some ⟨.pure, true, [1], 0, fun l => match l with | [[x0], [x1]] => marks_Get_s x0 x1 | _ => none⟩ else
  none
def A_law17_MarksNext : Ann := { order := (fun r => if r = 10 then some ([], [0, 1, 2, 3, 4, 5, 6, 7], []) else if r = 12 then some ([], [0, 1, 2, 3, 4, 5, 6, 7, 8, 9, 10, 11, 12, 13, 14, 15, 16, 17, 18, 19, 20, 21, 22], []) else none), join := (fun r => if r = 1 then some [28] else if r = 6 then some [6] else if r = 12 then some [6] else none), loop := (fun r => if r = 8 then ([(10, .I)], [[], [(6, .I)]]) else ([], [])), scalar := true }
theorem run_law17_MarksNext (a0 a1 a2 a3 : IV) : run Try.prog (Γ_law17_MarksNext) C0 A_law17_MarksNext Try.f7 [[a0], [a1, a2], [a3]] = law17_MarksNext_s a0 a1 a2 a3 := by kernel_rfl

def Γ_law17_MarksOrder : FuncId → Option FSig := fun f =>
  if f = n_ref17_May then some ⟨.pure, true, [1], 0, fun l => match l with | [[x0]] => ref17_May_s x0 | _ => none⟩ else
  if f = n_ref13_Time then some ⟨.pure, true, [1], 0, fun l => match l with | [[x0, x1]] => ref13_Time_s x0 x1 | _ => none⟩ else
  if f = n_law17_live then some ⟨.pure, true, [1], 0, fun l => match l with | [] => law17_live_s | _ => none⟩ else
  if f = n_marks_Raise then some ⟨.pure, false, [1], 0, fun l => match l with | [[x0], [x1, x2]] => marks_Raise_s x0 x1 x2 | _ => none⟩ else
  if f = n_marks_Below then some ⟨.pure, true, [1], 0, fun l => match l with | [[x0], [x1]] => marks_Below_s x0 x1 | _ => none⟩ else
  if f = n_ref17_Same then some ⟨.pure, true, [1], 0, fun l => match l with | [[x0], [x1]] => ref17_Same_s x0 x1 | _ => none⟩ else
  if f = n_marks_Get then some ⟨.pure, true, [1], 0, fun l => match l with | [[x0], [x1]] => marks_Get_s x0 x1 | _ => none⟩ else
  none
def A_law17_MarksOrder : Ann := { order := (fun r => if r = 6 then some ([], [0, 1, 2, 3, 4, 5, 6, 7], []) else if r = 7 then some ([], [0, 1, 2, 3, 4, 5, 6, 7, 8, 9, 10, 11, 12, 13, 14, 15, 16, 17, 18, 19, 20, 21, 22, 23, 24, 25, 26, 27], []) else none), join := (fun r => if r = 1 then some [31] else if r = 4 then some [60] else if r = 7 then some [6] else none), scalar := true }
theorem run_law17_MarksOrder (a0 a1 a2 a3 : IV) : run Try.prog (Γ_law17_MarksOrder) C0 A_law17_MarksOrder Try.f8 [[a0], [a1], [a2, a3]] = law17_MarksOrder_s a0 a1 a2 a3 := by kernel_rfl

def Γ_moves_seek (C : IV → List Nat → List (List IV) → Option (List IV)) : FuncId → Option FSig := fun f =>
  none
def A_moves_seek : Ann := { loop := (fun r => if r = 2 then ([(11, .I)], [[], [(6, .I)]]) else ([], [])), scalar := true }
theorem run_moves_seek (C : IV → List Nat → List (List IV) → Option (List IV)) (a0 a1 a2 a3 : IV) : run Try.prog (Γ_moves_seek C) C A_moves_seek Try.f70 [[a0], [a1, a2], [a3]] = moves_seek_s C a0 a1 a2 a3 := by kernel_rfl

def Γ_moves_when_is : FuncId → Option FSig := fun f =>
  none
def A_moves_when_is : Ann := { scalar := true }
theorem run_moves_when_is (a0 a1 a2 a3 a4 a5 a6 a7 : IV) : run Try.prog (Γ_moves_when_is) C0 A_moves_when_is Try.f71 [[a0, a1], [a2, a3, a4, a5, a6, a7]] = moves_when_is_s a0 a1 a2 a3 a4 a5 a6 a7 := by kernel_rfl

def Γ_rank_first (C : IV → List Nat → List (List IV) → Option (List IV)) : FuncId → Option FSig := fun f =>
  none
def A_rank_first : Ann := { loop := (fun r => if r = 2 then ([(8, .I)], [[], [(2, .I)]]) else ([], [])), scalar := true }
theorem run_rank_first (C : IV → List Nat → List (List IV) → Option (List IV)) (a0 : IV) : run Try.prog (Γ_rank_first C) C A_rank_first Try.f80 [[a0]] = rank_first_s C a0 := by kernel_rfl

def Γ_cmp_isNaN_int : FuncId → Option FSig := fun f =>
  none
def A_cmp_isNaN_int : Ann := { scalar := true }
theorem run_cmp_isNaN_int (a0 : IV) : run Try.prog (Γ_cmp_isNaN_int) C0 A_cmp_isNaN_int Try.f94 [[a0]] = cmp_isNaN_int_s a0 := by kernel_rfl

def Γ_cmp_Compare_int : FuncId → Option FSig := fun f =>
  if f = n_cmp_isNaN_int then some ⟨.pure, true, [1], 0, fun l => match l with | [[x0]] => cmp_isNaN_int_s x0 | _ => none⟩ else
  none
def A_cmp_Compare_int : Ann := { scalar := true }
theorem run_cmp_Compare_int (a0 a1 : IV) : run Try.prog (Γ_cmp_Compare_int) C0 A_cmp_Compare_int Try.f82 [[a0], [a1]] = cmp_Compare_int_s a0 a1 := by kernel_rfl

def Γ_rank_Before_1 : FuncId → Option FSig := fun f =>
  if f = n_cmp_Compare_int then some ⟨.pure, true, [1], 0, fun l => match l with | [[x0], [x1]] => cmp_Compare_int_s x0 x1 | _ => none⟩ else
  none
def A_rank_Before_1 : Ann := { scalar := true }
theorem run_rank_Before_1 (a0 a1 : IV) : run Try.prog (Γ_rank_Before_1) C0 A_rank_Before_1 Try.f81 [[a0], [a1]] = rank_Before_1_s a0 a1 := by kernel_rfl

def Γ_rank_Before_2 : FuncId → Option FSig := fun f =>
  if f = n_cmp_Compare_int then some ⟨.pure, true, [1], 0, fun l => match l with | [[x0], [x1]] => cmp_Compare_int_s x0 x1 | _ => none⟩ else
  none
def A_rank_Before_2 : Ann := { scalar := true }
theorem run_rank_Before_2 (a0 a1 : IV) : run Try.prog (Γ_rank_Before_2) C0 A_rank_Before_2 Try.f83 [[a0], [a1]] = rank_Before_2_s a0 a1 := by kernel_rfl

def Γ_rank_Before : FuncId → Option FSig := fun f =>
  if f = n_rank_first then some ⟨.pure, true, [1], 0, fun l => match l with | [[x0]] => rank_first_s (Cx_rank_Before) x0 | _ => none⟩ else
  none
def A_rank_Before : Ann := { scalar := true }
theorem run_rank_Before (a0 a1 a2 a3 : IV) : run Try.prog (Γ_rank_Before) (Cx_rank_Before) A_rank_Before Try.f63 [[a0, a1], [a2, a3]] = rank_Before_s a0 a1 a2 a3 := by kernel_rfl

def Γ_moves_when_before : FuncId → Option FSig := fun f =>
  if f = n_rank_Before then some ⟨.pure, true, [1], 0, fun l => match l with | [[x0, x1], [x2, x3]] => rank_Before_s x0 x1 x2 x3 | _ => none⟩ else
  none
def A_moves_when_before : Ann := { scalar := true }
theorem run_moves_when_before (a0 a1 a2 a3 a4 a5 a6 a7 : IV) : run Try.prog (Γ_moves_when_before) C0 A_moves_when_before Try.f69 [[a0, a1], [a2, a3, a4, a5, a6, a7]] = moves_when_before_s a0 a1 a2 a3 a4 a5 a6 a7 := by kernel_rfl

def Γ_moves_Insert : FuncId → Option FSig := fun f =>
  if f = n_moves_seek then some ⟨.pure, true, [1], 0, fun l => match l with | [[x0], [x1, x2], [x3]] => moves_seek_s (Cx_moves_Insert) x0 x1 x2 x3 | _ => none⟩ else
  if f = n_slices_Clone_Move then some ⟨.own, false, [1], 6, fun l => match l with | [[x0]] => slices_Clone_Move_s x0 | _ => none⟩ else
  if f = n_slices_Insert_Move then some ⟨.cons, false, [1], 6, fun l => match l with | [[x0], [x1], [x2]] => slices_Insert_Move_s x0 x1 x2 | _ => none⟩ else
  none
def A_moves_Insert : Ann := { order := (fun r => if r = 6 then some ([6], [0, 1, 2, 3, 4], [5, 7, 8, 9]) else none) }
theorem run_moves_Insert (a0 a1 a2 a3 a4 a5 a6 : IV) : run Try.prog (Γ_moves_Insert) (Cx_moves_Insert) A_moves_Insert Try.f48 [[a0], [a1, a2, a3, a4, a5, a6]] = moves_Insert_s a0 a1 a2 a3 a4 a5 a6 := by kernel_rfl

def Γ_moves_Since : FuncId → Option FSig := fun f =>
  if f = n_moves_when_before then some ⟨.pure, true, [1], 0, fun l => match l with | [[x0, x1], [x2, x3, x4, x5, x6, x7]] => moves_when_before_s x0 x1 x2 x3 x4 x5 x6 x7 | _ => none⟩ else
  none
def A_moves_Since : Ann := { loop := (fun r => if r = 3 then ([(5, (.B 6)), (10, .I)], [[(5, (.B 6))]]) else ([], [])) }
theorem run_moves_Since (a0 a1 a2 : IV) : run Try.prog (Γ_moves_Since) C0 A_moves_Since Try.f44 [[a0], [a1, a2]] = moves_Since_s a0 a1 a2 := by kernel_rfl

def Γ_moves_Union : FuncId → Option FSig := fun f =>
  if f = n_moves_Insert then some ⟨.pure, false, [1, 1, 1], 0, fun l => match l with | [[x0], [x1, x2, x3, x4, x5, x6]] => moves_Insert_s x0 x1 x2 x3 x4 x5 x6 | _ => none⟩ else
  none
def A_moves_Union : Ann := { loop := (fun r => if r = 2 then ([(0, .I), (9, .I)], [[(0, .I)]]) else ([], [])) }
theorem run_moves_Union (a0 a1 : IV) : run Try.prog (Γ_moves_Union) C0 A_moves_Union Try.f46 [[a0], [a1]] = moves_Union_s a0 a1 := by kernel_rfl

def Γ_slices_IndexFunc_Move (C : IV → List Nat → List (List IV) → Option (List IV)) : FuncId → Option FSig := fun f =>
  none
def A_slices_IndexFunc_Move : Ann := { loop := (fun r => if r = 2 then ([(8, .I)], [[], [(4, .I)]]) else ([], [])), scalar := true }
theorem run_slices_IndexFunc_Move (C : IV → List Nat → List (List IV) → Option (List IV)) (a0 a1 : IV) : run Try.prog (Γ_slices_IndexFunc_Move C) C A_slices_IndexFunc_Move Try.f84 [[a0], [a1]] = slices_IndexFunc_Move_s C a0 a1 := by kernel_rfl

def Γ_slices_ContainsFunc_Move (C : IV → List Nat → List (List IV) → Option (List IV)) : FuncId → Option FSig := fun f =>
  if f = n_slices_IndexFunc_Move then some ⟨.pure, true, [1], 0, fun l => match l with | [[x0], [x1]] => slices_IndexFunc_Move_s C x0 x1 | _ => none⟩ else
  none
def A_slices_ContainsFunc_Move : Ann := { scalar := true }
theorem run_slices_ContainsFunc_Move (C : IV → List Nat → List (List IV) → Option (List IV)) (a0 a1 : IV) : run Try.prog (Γ_slices_ContainsFunc_Move C) C A_slices_ContainsFunc_Move Try.f64 [[a0], [a1]] = slices_ContainsFunc_Move_s C a0 a1 := by kernel_rfl

def Γ_moves_Row : FuncId → Option FSig := fun f =>
  none
def A_moves_Row : Ann := { scalar := true }
theorem run_moves_Row (a0 a1 a2 a3 a4 a5 : IV) : run Try.prog (Γ_moves_Row) C0 A_moves_Row Try.f39 [[a0, a1, a2, a3, a4, a5]] = moves_Row_s a0 a1 a2 a3 a4 a5 := by kernel_rfl

def Γ_word_head : FuncId → Option FSig := fun f =>
  none
def A_word_head : Ann := { scalar := true }
theorem run_word_head (a0 : IV) : run Try.prog (Γ_word_head) C0 A_word_head Try.f99 [[a0]] = word_head_s a0 := by kernel_rfl

def Γ_word_signs : FuncId → Option FSig := fun f =>
  if f = n_word_head then some ⟨.pure, true, [1, 1, 1, 1], 0, fun l => match l with | [[x0]] => word_head_s x0 | _ => none⟩ else
  none
def A_word_signs : Ann := { join := (fun r => if r = 4 then some [34] else if r = 8 then some [56] else none), loop := (fun r => if r = 2 then ([(4, .I), (5, .I)], [[(4, .I), (5, .I)]]) else if r = 6 then ([(7, .I), (8, .I), (45, .I)], [[], []]) else ([], [])), scalar := true }
theorem run_word_signs (a0 : IV) : run Try.prog (Γ_word_signs) C0 A_word_signs Try.f89 [[a0]] = word_signs_s a0 := by kernel_rfl

def Γ_word_Valid : FuncId → Option FSig := fun f =>
  if f = n_word_signs then some ⟨.pure, true, [1, 1], 0, fun l => match l with | [[x0]] => word_signs_s x0 | _ => none⟩ else
  none
def A_word_Valid : Ann := { scalar := true }
theorem run_word_Valid (a0 : IV) : run Try.prog (Γ_word_Valid) C0 A_word_Valid Try.f77 [[a0]] = word_Valid_s a0 := by kernel_rfl

def Γ_tree_One : FuncId → Option FSig := fun f =>
  if f = n_word_Valid then some ⟨.pure, true, [1], 0, fun l => match l with | [[x0]] => word_Valid_s x0 | _ => none⟩ else
  none
def A_tree_One : Ann := { join := (fun r => if r = 1 then some [2] else none), scalar := true }
theorem run_tree_One (a0 a1 a2 a3 : IV) : run Try.prog (Γ_tree_One) C0 A_tree_One Try.f60 [[a0, a1, a2, a3]] = tree_One_s a0 a1 a2 a3 := by kernel_rfl

def Γ_moves_One : FuncId → Option FSig := fun f =>
  if f = n_moves_Row then some ⟨.pure, true, [4], 0, fun l => match l with | [[x0, x1, x2, x3, x4, x5]] => moves_Row_s x0 x1 x2 x3 x4 x5 | _ => none⟩ else
  if f = n_tree_One then some ⟨.pure, true, [1], 0, fun l => match l with | [[x0, x1, x2, x3]] => tree_One_s x0 x1 x2 x3 | _ => none⟩ else
  none
def A_moves_One : Ann := { join := (fun r => if r = 2 then some [2] else none), scalar := true }
theorem run_moves_One (a0 a1 a2 a3 a4 a5 : IV) : run Try.prog (Γ_moves_One) C0 A_moves_One Try.f36 [[a0, a1, a2, a3, a4, a5]] = moves_One_s a0 a1 a2 a3 a4 a5 := by kernel_rfl

def Γ_moves_May_1 : FuncId → Option FSig := fun f =>
  if f = n_moves_One then some ⟨.pure, true, [1], 0, fun l => match l with | [[x0, x1, x2, x3, x4, x5]] => moves_One_s x0 x1 x2 x3 x4 x5 | _ => none⟩ else
  none
def A_moves_May_1 : Ann := { scalar := true }
theorem run_moves_May_1 (a0 a1 a2 a3 a4 a5 : IV) : run Try.prog (Γ_moves_May_1) C0 A_moves_May_1 Try.f65 [[a0, a1, a2, a3, a4, a5]] = moves_May_1_s a0 a1 a2 a3 a4 a5 := by kernel_rfl

def Γ_moves_May : FuncId → Option FSig := fun f =>
  if f = n_rank_Before then some ⟨.pure, true, [1], 0, fun l => match l with | [[x0, x1], [x2, x3]] => rank_Before_s x0 x1 x2 x3 | _ => none⟩ else
  if f = n_slices_ContainsFunc_Move then some ⟨.pure, true, [1], 0, fun l => match l with | [[x0], [x1]] => slices_ContainsFunc_Move_s (Cx_moves_May) x0 x1 | _ => none⟩ else
  none
def A_moves_May : Ann := { order := (fun r => if r = 4 then some ([], [0, 1, 2, 3, 4, 5, 6, 7, 8, 9, 10, 11, 12], []) else none), join := (fun r => if r = 6 then some [2] else none), loop := (fun r => if r = 2 then ([(3, .I)], [[], [(2, .I)]]) else ([], [])), scalar := true }
theorem run_moves_May (a0 : IV) : run Try.prog (Γ_moves_May) (Cx_moves_May) A_moves_May Try.f41 [[a0]] = moves_May_s a0 := by kernel_rfl

def Γ_slices_EqualFunc_Move_Move (C : IV → List Nat → List (List IV) → Option (List IV)) : FuncId → Option FSig := fun f =>
  none
def A_slices_EqualFunc_Move_Move : Ann := { loop := (fun r => if r = 4 then ([(17, .I)], [[], [(6, .I)]]) else ([], [])), scalar := true }
theorem run_slices_EqualFunc_Move_Move (C : IV → List Nat → List (List IV) → Option (List IV)) (a0 a1 a2 : IV) : run Try.prog (Γ_slices_EqualFunc_Move_Move C) C A_slices_EqualFunc_Move_Move Try.f66 [[a0], [a1], [a2]] = slices_EqualFunc_Move_Move_s C a0 a1 a2 := by kernel_rfl

def Γ_bits_Minus : FuncId → Option FSig := fun f =>
  none
def A_bits_Minus : Ann := { join := (fun r => if r = 1 then some [2] else none), scalar := true }
theorem run_bits_Minus (a0 : IV) : run Try.prog (Γ_bits_Minus) C0 A_bits_Minus Try.f95 [[a0]] = bits_Minus_s a0 := by kernel_rfl

def Γ_bits_powers : FuncId → Option FSig := fun f =>
  none
def A_bits_powers : Ann := { scalar := true }
theorem run_bits_powers : run Try.prog (Γ_bits_powers) C0 A_bits_powers Try.f101 [] = bits_powers_s := by kernel_rfl

def Γ_bits_split : FuncId → Option FSig := fun f =>
  if f = n_bits_powers then some ⟨.pure, true, [30], 0, fun l => match l with | [] => bits_powers_s | _ => none⟩ else
  none
def A_bits_split : Ann := { loop := (fun r => if r = 3 then ([(0, .I), (4, .I), (8, .I)], [[(0, .I), (4, .I)]]) else if r = 12 then ([(0, .I), (4, .I)], [[(0, .I), (4, .I)]]) else if r = 15 then ([(0, .I), (4, .I)], [[(0, .I), (4, .I)]]) else ([], [])), scalar := true }
theorem run_bits_split (a0 : IV) : run Try.prog (Γ_bits_split) C0 A_bits_split Try.f96 [[a0]] = bits_split_s a0 := by kernel_rfl

def Γ_bits_Bits : FuncId → Option FSig := fun f =>
  if f = n_bits_Minus then some ⟨.pure, true, [1], 0, fun l => match l with | [[x0]] => bits_Minus_s x0 | _ => none⟩ else
  if f = n_bits_split then some ⟨.pure, true, [1, 1], 0, fun l => match l with | [[x0]] => bits_split_s x0 | _ => none⟩ else
  none
def A_bits_Bits : Ann := { scalar := true }
theorem run_bits_Bits (a0 : IV) : run Try.prog (Γ_bits_Bits) C0 A_bits_Bits Try.f85 [[a0]] = bits_Bits_s a0 := by kernel_rfl

def Γ_bits_Same : FuncId → Option FSig := fun f =>
  if f = n_bits_Bits then some ⟨.pure, true, [1], 0, fun l => match l with | [[x0]] => bits_Bits_s x0 | _ => none⟩ else
  none
def A_bits_Same : Ann := { scalar := true }
theorem run_bits_Same (a0 a1 : IV) : run Try.prog (Γ_bits_Same) C0 A_bits_Same Try.f68 [[a0], [a1]] = bits_Same_s a0 a1 := by kernel_rfl

def Γ_moves_Same_1 : FuncId → Option FSig := fun f =>
  if f = n_bits_Same then some ⟨.pure, true, [1], 0, fun l => match l with | [[x0], [x1]] => bits_Same_s x0 x1 | _ => none⟩ else
  none
def A_moves_Same_1 : Ann := { join := (fun r => if r = 1 then some [4] else none), scalar := true }
theorem run_moves_Same_1 (a0 a1 a2 a3 a4 a5 a6 a7 a8 a9 a10 a11 : IV) : run Try.prog (Γ_moves_Same_1) C0 A_moves_Same_1 Try.f67 [[a0, a1, a2, a3, a4, a5], [a6, a7, a8, a9, a10, a11]] = moves_Same_1_s a0 a1 a2 a3 a4 a5 a6 a7 a8 a9 a10 a11 := by kernel_rfl

def Γ_moves_Same : FuncId → Option FSig := fun f =>
  if f = n_slices_EqualFunc_Move_Move then some ⟨.pure, true, [1], 0, fun l => match l with | [[x0], [x1], [x2]] => slices_EqualFunc_Move_Move_s (Cx_moves_Same) x0 x1 x2 | _ => none⟩ else
  none
def A_moves_Same : Ann := { scalar := true }
theorem run_moves_Same (a0 a1 : IV) : run Try.prog (Γ_moves_Same) (Cx_moves_Same) A_moves_Same Try.f42 [[a0], [a1]] = moves_Same_s a0 a1 := by kernel_rfl

def Γ_law13_live_1 : FuncId → Option FSig := fun f =>
  none
def A_law13_live_1 : Ann := { scalar := true }
theorem run_law13_live_1 (a0 a1 : IV) : run Try.prog (Γ_law13_live_1) C0 A_law13_live_1 Try.f59 [[a0], [a1]] = law13_live_1_s a0 a1 := by kernel_rfl

def Γ_law13_live : FuncId → Option FSig := fun f =>
  if f = n_moves_Insert then some ⟨.pure, false, [1, 1, 1], 0, fun l => match l with | [[x0], [x1, x2, x3, x4, x5, x6]] => moves_Insert_s x0 x1 x2 x3 x4 x5 x6 | _ => none⟩ else
  if f = n_moves_Since then some ⟨.pure, false, [1], 0, fun l => match l with | [[x0], [x1, x2]] => moves_Since_s x0 x1 x2 | _ => none⟩ else
  if f = n_moves_Union then some ⟨.pure, false, [1], 0, fun l => match l with | [[x0], [x1]] => moves_Union_s x0 x1 | _ => none⟩ else
  if f = n_moves_May then some ⟨.pure, true, [1], 0, fun l => match l with | [[x0]] => moves_May_s x0 | _ => none⟩ else
  if f = n_moves_One then some ⟨.pure, true, [1], 0, fun l => match l with | [[x0, x1, x2, x3, x4, x5]] => moves_One_s x0 x1 x2 x3 x4 x5 | _ => none⟩ else
  if f = n_moves_Row then some ⟨.pure, true, [4], 0, fun l => match l with | [[x0, x1, x2, x3, x4, x5]] => moves_Row_s x0 x1 x2 x3 x4 x5 | _ => none⟩ else
  if f = n_moves_Same then some ⟨.pure, true, [1], 0, fun l => match l with | [[x0], [x1]] => moves_Same_s x0 x1 | _ => none⟩ else
  none
def A_law13_live : Ann := { order := (fun r => if r = 6 then some ([], [0, 1, 2, 3, 4, 5, 6, 7, 8, 9, 10, 11, 12, 13, 14, 15, 16, 17, 18, 19, 20, 21, 22, 23, 24, 25, 26, 27, 28, 29, 30, 31, 32, 33, 34, 35, 36, 37, 38, 39, 40, 41, 42, 43, 44, 45, 46, 47, 48, 49, 50, 51, 52, 53, 54, 55, 56, 57, 58, 59, 60, 61, 62, 63, 64, 65, 66, 67, 68, 69, 70, 71, 72, 73, 74, 75, 76, 77, 78, 79, 80, 81, 82, 83, 84, 85, 86, 87, 88, 89, 90, 91, 92, 93, 94, 95, 96, 97, 98, 99, 100, 101], []) else none), join := (fun r => if r = 6 then some [0] else none), scalar := true }
theorem run_law13_live : run Try.prog (Γ_law13_live) (Cx_law13_live) A_law13_live Try.f35 [] = law13_live_s := by kernel_rfl

def Γ_ref01_None : FuncId → Option FSig := fun f =>
  none
def A_ref01_None : Ann := { scalar := true }
theorem run_ref01_None : run Try.prog (Γ_ref01_None) C0 A_ref01_None Try.f91 [] = ref01_None_s := by kernel_rfl

def Γ_ref01_Minus : FuncId → Option FSig := fun f =>
  none
def A_ref01_Minus : Ann := { join := (fun r => if r = 1 then some [2] else none), scalar := true }
theorem run_ref01_Minus (a0 : IV) : run Try.prog (Γ_ref01_Minus) C0 A_ref01_Minus Try.f92 [[a0]] = ref01_Minus_s a0 := by kernel_rfl

def Γ_ref01_top : FuncId → Option FSig := fun f =>
  none
def A_ref01_top : Ann := { scalar := true }
theorem run_ref01_top : run Try.prog (Γ_ref01_top) C0 A_ref01_top Try.f93 [] = ref01_top_s := by kernel_rfl

def Γ_ref01_Bits : FuncId → Option FSig := fun f =>
  if f = n_ref01_None then some ⟨.pure, true, [1], 0, fun l => match l with | [] => ref01_None_s | _ => none⟩ else
  if f = n_ref01_Minus then some ⟨.pure, true, [1], 0, fun l => match l with | [[x0]] => ref01_Minus_s x0 | _ => none⟩ else
  if f = n_ref01_top then some ⟨.pure, true, [1], 0, fun l => match l with | [] => ref01_top_s | _ => none⟩ else
  none
def A_ref01_Bits : Ann := { join := (fun r => if r = 15 then some [35] else none), loop := (fun r => if r = 12 then ([(0, .I), (4, .I)], [[(0, .I), (4, .I)]]) else if r = 15 then ([(0, .I), (4, .I)], [[(0, .I), (4, .I)]]) else if r = 22 then ([(0, .I), (5, .I)], [[(0, .I)]]) else ([], [])), scalar := true }
theorem run_ref01_Bits (a0 : IV) : run Try.prog (Γ_ref01_Bits) C0 A_ref01_Bits Try.f79 [[a0]] = ref01_Bits_s a0 := by kernel_rfl

def Γ_ref01_Same : FuncId → Option FSig := fun f =>
  if f = n_ref01_Bits then some ⟨.pure, true, [1], 0, fun l => match l with | [[x0]] => ref01_Bits_s x0 | _ => none⟩ else
  none
def A_ref01_Same : Ann := { scalar := true }
theorem run_ref01_Same (a0 a1 : IV) : run Try.prog (Γ_ref01_Same) C0 A_ref01_Same Try.f62 [[a0], [a1]] = ref01_Same_s a0 a1 := by kernel_rfl

def Γ_ref12_Alike : FuncId → Option FSig := fun f =>
  if f = n_ref01_Same then some ⟨.pure, true, [1], 0, fun l => match l with | [[x0], [x1]] => ref01_Same_s x0 x1 | _ => none⟩ else
  none
def A_ref12_Alike : Ann := { join := (fun r => if r = 1 then some [4] else none), scalar := true }
theorem run_ref12_Alike (a0 a1 a2 a3 a4 a5 a6 a7 : IV) : run Try.prog (Γ_ref12_Alike) C0 A_ref12_Alike Try.f38 [[a0, a1, a2, a3], [a4, a5, a6, a7]] = ref12_Alike_s a0 a1 a2 a3 a4 a5 a6 a7 := by kernel_rfl

def Γ_ref13_Alike : FuncId → Option FSig := fun f =>
  if f = n_ref13_Row then some ⟨.pure, true, [4], 0, fun l => match l with | [[x0, x1, x2, x3, x4, x5]] => ref13_Row_s x0 x1 x2 x3 x4 x5 | _ => none⟩ else
  if f = n_ref12_Alike then some ⟨.pure, true, [1], 0, fun l => match l with | [[x0, x1, x2, x3], [x4, x5, x6, x7]] => ref12_Alike_s x0 x1 x2 x3 x4 x5 x6 x7 | _ => none⟩ else
  none
def A_ref13_Alike : Ann := { order := (fun r => if r = 1 then some ([], [0, 1, 2, 3, 4, 5, 6, 7, 8, 9, 10, 11, 12], []) else none), join := (fun r => if r = 1 then some [4] else none), scalar := true }
theorem run_ref13_Alike (a0 a1 a2 a3 a4 a5 a6 a7 a8 a9 a10 a11 : IV) : run Try.prog (Γ_ref13_Alike) C0 A_ref13_Alike Try.f50 [[a0, a1, a2, a3, a4, a5], [a6, a7, a8, a9, a10, a11]] = ref13_Alike_s a0 a1 a2 a3 a4 a5 a6 a7 a8 a9 a10 a11 := by kernel_rfl

def Γ_ref13_Same : FuncId → Option FSig := fun f =>
  if f = n_ref13_Alike then some ⟨.pure, true, [1], 0, fun l => match l with | [[x0, x1, x2, x3, x4, x5], [x6, x7, x8, x9, x10, x11]] => ref13_Alike_s x0 x1 x2 x3 x4 x5 x6 x7 x8 x9 x10 x11 | _ => none⟩ else
  none
def A_ref13_Same : Ann := { order := (fun r => if r = 6 then some ([], [0, 1, 2, 3, 4, 5, 6, 7, 8, 9], []) else none), loop := (fun r => if r = 4 then ([(5, .I)], [[], [(4, .I)]]) else ([], [])), scalar := true }
theorem run_ref13_Same (a0 a1 : IV) : run Try.prog (Γ_ref13_Same) C0 A_ref13_Same Try.f43 [[a0], [a1]] = ref13_Same_s a0 a1 := by kernel_rfl

def Γ_ref13_Since : FuncId → Option FSig := fun f =>
  if f = n_ref02_Before then some ⟨.pure, true, [1], 0, fun l => match l with | [[x0, x1], [x2, x3]] => ref02_Before_s x0 x1 x2 x3 | _ => none⟩ else
  none
def A_ref13_Since : Ann := { order := (fun r => if r = 5 then some ([], [0, 1, 2, 3, 4, 5, 6], []) else none), loop := (fun r => if r = 3 then ([(5, (.B 6)), (6, .I)], [[(5, (.B 6))]]) else ([], [])) }
theorem run_ref13_Since (a0 a1 a2 : IV) : run Try.prog (Γ_ref13_Since) C0 A_ref13_Since Try.f45 [[a0], [a1, a2]] = ref13_Since_s a0 a1 a2 := by kernel_rfl

def Γ_ref13_Insert : FuncId → Option FSig := fun f =>
  if f = n_ref02_Before then some ⟨.pure, true, [1], 0, fun l => match l with | [[x0, x1], [x2, x3]] => ref02_Before_s x0 x1 x2 x3 | _ => none⟩ else
  none
def A_ref13_Insert : Ann := { order := (fun r => if r = 4 then some ([], [0, 1, 2, 3, 4, 5, 6, 7], []) else if r = 7 then some ([], [0, 1, 2, 3, 4, 5, 6, 7, 8, 9, 10, 11, 12, 13, 14], []) else none), join := (fun r => if r = 7 then some [40] else none), loop := (fun r => if r = 2 then ([(7, .I)], [[], [(4, .I), (5, .I), (6, .I)]]) else if r = 7 then ([(8, .I)], [[(8, .I)]]) else ([], [])) }
theorem run_ref13_Insert (a0 a1 a2 a3 a4 a5 a6 : IV) : run Try.prog (Γ_ref13_Insert) C0 A_ref13_Insert Try.f49 [[a0], [a1, a2, a3, a4, a5, a6]] = ref13_Insert_s a0 a1 a2 a3 a4 a5 a6 := by kernel_rfl

def Γ_ref13_Union : FuncId → Option FSig := fun f =>
  if f = n_ref13_Insert then some ⟨.pure, false, [1, 1, 1], 0, fun l => match l with | [[x0], [x1, x2, x3, x4, x5, x6]] => ref13_Insert_s x0 x1 x2 x3 x4 x5 x6 | _ => none⟩ else
  none
def A_ref13_Union : Ann := { loop := (fun r => if r = 3 then ([(5, .I), (6, .I)], [[(5, .I)]]) else ([], [])) }
theorem run_ref13_Union (a0 a1 : IV) : run Try.prog (Γ_ref13_Union) C0 A_ref13_Union Try.f47 [[a0], [a1]] = ref13_Union_s a0 a1 := by kernel_rfl

def Γ_law13_MovesTells : FuncId → Option FSig := fun f =>
  if f = n_ref13_Few then some ⟨.pure, true, [1], 0, fun l => match l with | [[x0], [x1]] => ref13_Few_s x0 x1 | _ => none⟩ else
  if f = n_law13_live then some ⟨.pure, true, [1], 0, fun l => match l with | [] => law13_live_s | _ => none⟩ else
  if f = n_moves_One then some ⟨.pure, true, [1], 0, fun l => match l with | [[x0, x1, x2, x3, x4, x5]] => moves_One_s x0 x1 x2 x3 x4 x5 | _ => none⟩ else
  if f = n_ref13_One then some ⟨.pure, true, [1], 0, fun l => match l with | [[x0, x1, x2, x3, x4, x5]] => ref13_One_s x0 x1 x2 x3 x4 x5 | _ => none⟩ else
  if f = n_moves_Row then some ⟨.pure, true, [4], 0, fun l => match l with | [[x0, x1, x2, x3, x4, x5]] => moves_Row_s x0 x1 x2 x3 x4 x5 | _ => none⟩ else
  if f = n_ref13_Row then some ⟨.pure, true, [4], 0, fun l => match l with | [[x0, x1, x2, x3, x4, x5]] => ref13_Row_s x0 x1 x2 x3 x4 x5 | _ => none⟩ else
  if f = n_ref12_Alike then some ⟨.pure, true, [1], 0, fun l => match l with | [[x0, x1, x2, x3], [x4, x5, x6, x7]] => ref12_Alike_s x0 x1 x2 x3 x4 x5 x6 x7 | _ => none⟩ else
  if f = n_moves_May then some ⟨.pure, true, [1], 0, fun l => match l with | [[x0]] => moves_May_s x0 | _ => none⟩ else
  if f = n_ref13_May then some ⟨.pure, true, [1], 0, fun l => match l with | [[x0]] => ref13_May_s x0 | _ => none⟩ else
  if f = n_moves_Same then some ⟨.pure, true, [1], 0, fun l => match l with | [[x0], [x1]] => moves_Same_s x0 x1 | _ => none⟩ else
  if f = n_ref13_Same then some ⟨.pure, true, [1], 0, fun l => match l with | [[x0], [x1]] => ref13_Same_s x0 x1 | _ => none⟩ else
  if f = n_moves_Since then some ⟨.pure, false, [1], 0, fun l => match l with | [[x0], [x1, x2]] => moves_Since_s x0 x1 x2 | _ => none⟩ else
  if f = n_ref13_Since then some ⟨.pure, false, [1], 0, fun l => match l with | [[x0], [x1, x2]] => ref13_Since_s x0 x1 x2 | _ => none⟩ else
  if f = n_moves_Union then some ⟨.pure, false, [1], 0, fun l => match l with | [[x0], [x1]] => moves_Union_s x0 x1 | _ => none⟩ else
  if f = n_ref13_Union then some ⟨.pure, false, [1], 0, fun l => match l with | [[x0], [x1]] => ref13_Union_s x0 x1 | _ => none⟩ else
  none
def A_law13_MovesTells : Ann := { order := (fun r => if r = 6 then some ([], [0, 1, 2, 3, 4, 5, 6, 7, 8, 9, 10, 11, 12, 13, 14, 15, 16, 17, 18, 19, 20, 21, 22, 23, 24], []) else if r = 8 then some ([], [0, 1, 2, 3, 4, 5, 6, 7, 8, 9, 10, 11, 12, 13, 14, 15, 16, 17, 18, 19, 20, 21, 22, 23, 24, 25, 26, 27, 28, 29, 30, 31, 32, 33, 34, 35], []) else none), join := (fun r => if r = 1 then some [15] else if r = 6 then some [47] else if r = 8 then some [6] else none), loop := (fun r => if r = 4 then ([(7, .I)], [[], [(6, .I)]]) else ([], [])), scalar := true }
theorem run_law13_MovesTells (a0 a1 a2 a3 : IV) : run Try.prog (Γ_law13_MovesTells) C0 A_law13_MovesTells Try.f9 [[a0], [a1], [a2, a3]] = law13_MovesTells_s a0 a1 a2 a3 := by kernel_rfl

def Γ_law13_MovesInserts : FuncId → Option FSig := fun f =>
  if f = n_ref13_Few then some ⟨.pure, true, [1], 0, fun l => match l with | [[x0], [x1]] => ref13_Few_s x0 x1 | _ => none⟩ else
  if f = n_law13_live then some ⟨.pure, true, [1], 0, fun l => match l with | [] => law13_live_s | _ => none⟩ else
  if f = n_moves_Insert then some ⟨.pure, false, [1, 1, 1], 0, fun l => match l with | [[x0], [x1, x2, x3, x4, x5, x6]] => moves_Insert_s x0 x1 x2 x3 x4 x5 x6 | _ => none⟩ else
  if f = n_ref13_Insert then some ⟨.pure, false, [1, 1, 1], 0, fun l => match l with | [[x0], [x1, x2, x3, x4, x5, x6]] => ref13_Insert_s x0 x1 x2 x3 x4 x5 x6 | _ => none⟩ else
  if f = n_ref13_Same then some ⟨.pure, true, [1], 0, fun l => match l with | [[x0], [x1]] => ref13_Same_s x0 x1 | _ => none⟩ else
  none
def A_law13_MovesInserts : Ann := { join := (fun r => if r = 1 then some [19] else if r = 5 then some [4] else none), scalar := true }
theorem run_law13_MovesInserts (a0 a1 a2 a3 a4 a5 a6 : IV) : run Try.prog (Γ_law13_MovesInserts) C0 A_law13_MovesInserts Try.f10 [[a0], [a1, a2, a3, a4, a5, a6]] = law13_MovesInserts_s a0 a1 a2 a3 a4 a5 a6 := by kernel_rfl

def Γ_law13_MovesMay : FuncId → Option FSig := fun f =>
  if f = n_ref13_Few then some ⟨.pure, true, [1], 0, fun l => match l with | [[x0], [x1]] => ref13_Few_s x0 x1 | _ => none⟩ else
  if f = n_ref13_May then some ⟨.pure, true, [1], 0, fun l => match l with | [[x0]] => ref13_May_s x0 | _ => none⟩ else
  if f = n_ref13_One then some ⟨.pure, true, [1], 0, fun l => match l with | [[x0, x1, x2, x3, x4, x5]] => ref13_One_s x0 x1 x2 x3 x4 x5 | _ => none⟩ else
  if f = n_law13_live then some ⟨.pure, true, [1], 0, fun l => match l with | [] => law13_live_s | _ => none⟩ else
  if f = n_moves_Insert then some ⟨.pure, false, [1, 1, 1], 0, fun l => match l with | [[x0], [x1, x2, x3, x4, x5, x6]] => moves_Insert_s x0 x1 x2 x3 x4 x5 x6 | _ => none⟩ else
  if f = n_moves_May then some ⟨.pure, true, [1], 0, fun l => match l with | [[x0]] => moves_May_s x0 | _ => none⟩ else
  if f = n_ref13_Same then some ⟨.pure, true, [1], 0, fun l => match l with | [[x0], [x1]] => ref13_Same_s x0 x1 | _ => none⟩ else
  if f = n_ref13_Alike then some ⟨.pure, true, [1], 0, fun l => match l with | [[x0, x1, x2, x3, x4, x5], [x6, x7, x8, x9, x10, x11]] => ref13_Alike_s x0 x1 x2 x3 x4 x5 x6 x7 x8 x9 x10 x11 | _ => none⟩ else
  none
def A_law13_MovesMay : Ann := { order := (fun r => if r = 5 then some ([], [0, 1, 2, 3, 4, 5, 6, 7, 8, 9, 10, 11, 12, 13, 14, 15, 16, 17, 18, 19, 20, 21, 22, 23, 24, 25, 26, 27, 28, 29, 30, 31, 32, 33, 34, 35, 36], []) else if r = 9 then some ([5, 6, 7, 8], [0, 1, 2, 3], [4, 9, 10]) else if r = 10 then some ([], [0, 1, 2, 3, 4, 5, 6, 7, 8, 9, 10, 11, 12, 13, 14], []) else none), join := (fun r => if r = 1 then some [30] else if r = 5 then some [82] else if r = 8 then some [4] else if r = 10 then some [4] else none), scalar := true }
theorem run_law13_MovesMay (a0 a1 a2 a3 a4 a5 a6 : IV) : run Try.prog (Γ_law13_MovesMay) C0 A_law13_MovesMay Try.f11 [[a0], [a1, a2, a3, a4, a5, a6]] = law13_MovesMay_s a0 a1 a2 a3 a4 a5 a6 := by kernel_rfl

def Γ_law13_MovesOrder : FuncId → Option FSig := fun f =>
  if f = n_ref13_Few then some ⟨.pure, true, [1], 0, fun l => match l with | [[x0], [x1]] => ref13_Few_s x0 x1 | _ => none⟩ else
  if f = n_law13_live then some ⟨.pure, true, [1], 0, fun l => match l with | [] => law13_live_s | _ => none⟩ else
  if f = n_ref13_Alike then some ⟨.pure, true, [1], 0, fun l => match l with | [[x0, x1, x2, x3, x4, x5], [x6, x7, x8, x9, x10, x11]] => ref13_Alike_s x0 x1 x2 x3 x4 x5 x6 x7 x8 x9 x10 x11 | _ => none⟩ else
  if f = n_moves_Insert then some ⟨.pure, false, [1, 1, 1], 0, fun l => match l with | [[x0], [x1, x2, x3, x4, x5, x6]] => moves_Insert_s x0 x1 x2 x3 x4 x5 x6 | _ => none⟩ else
  if f = n_moves_Union then some ⟨.pure, false, [1], 0, fun l => match l with | [[x0], [x1]] => moves_Union_s x0 x1 | _ => none⟩ else
  if f = n_ref02_Before then some ⟨.pure, true, [1], 0, fun l => match l with | [[x0, x1], [x2, x3]] => ref02_Before_s x0 x1 x2 x3 | _ => none⟩ else
  if f = n_ref13_Same then some ⟨.pure, true, [1], 0, fun l => match l with | [[x0], [x1]] => ref13_Same_s x0 x1 | _ => none⟩ else
  none
def A_law13_MovesOrder : Ann := { order := (fun r => if r = 9 then some ([], [0, 1, 2, 3, 4, 5, 6, 7, 8, 9, 10, 11, 12, 13, 14, 15, 16, 17, 18, 19, 20, 21, 22], []) else if r = 22 then some ([], [0, 1, 2, 3, 4, 5, 6, 7, 8, 9, 10, 11, 12], []) else none), join := (fun r => if r = 1 then some [19] else if r = 9 then some [54] else if r = 15 then some [75] else if r = 24 then some [4] else none), loop := (fun r => if r = 4 then ([(5, .I)], [[], [(4, .I)]]) else if r = 7 then ([(6, .I)], [[], [(4, .I)]]) else if r = 13 then ([(7, .I), (8, .I)], [[(7, .I)]]) else if r = 20 then ([(11, .I)], [[], [(4, .I)]]) else ([], [])), scalar := true }
theorem run_law13_MovesOrder (a0 a1 : IV) : run Try.prog (Γ_law13_MovesOrder) C0 A_law13_MovesOrder Try.f12 [[a0], [a1]] = law13_MovesOrder_s a0 a1 := by kernel_rfl

def Γ_law13_MovesSince : FuncId → Option FSig := fun f =>
  if f = n_ref13_Few then some ⟨.pure, true, [1], 0, fun l => match l with | [[x0], [x1]] => ref13_Few_s x0 x1 | _ => none⟩ else
  if f = n_ref13_May then some ⟨.pure, true, [1], 0, fun l => match l with | [[x0]] => ref13_May_s x0 | _ => none⟩ else
  if f = n_law13_live then some ⟨.pure, true, [1], 0, fun l => match l with | [] => law13_live_s | _ => none⟩ else
  if f = n_moves_Since then some ⟨.pure, false, [1], 0, fun l => match l with | [[x0], [x1, x2]] => moves_Since_s x0 x1 x2 | _ => none⟩ else
  if f = n_ref13_Same then some ⟨.pure, true, [1], 0, fun l => match l with | [[x0], [x1]] => ref13_Same_s x0 x1 | _ => none⟩ else
  if f = n_ref02_Before then some ⟨.pure, true, [1], 0, fun l => match l with | [[x0, x1], [x2, x3]] => ref02_Before_s x0 x1 x2 x3 | _ => none⟩ else
  if f = n_moves_Union then some ⟨.pure, false, [1], 0, fun l => match l with | [[x0], [x1]] => moves_Union_s x0 x1 | _ => none⟩ else
  none
def A_law13_MovesSince : Ann := { order := (fun r => if r = 10 then some ([], [0, 1, 2, 3, 4, 5, 6, 7, 8, 9, 10], []) else none), join := (fun r => if r = 1 then some [15] else if r = 5 then some [34] else if r = 12 then some [4] else none), loop := (fun r => if r = 8 then ([(7, .I)], [[], [(4, .I)]]) else ([], [])), scalar := true }
theorem run_law13_MovesSince (a0 a1 a2 : IV) : run Try.prog (Γ_law13_MovesSince) C0 A_law13_MovesSince Try.f13 [[a0], [a1, a2]] = law13_MovesSince_s a0 a1 a2 := by kernel_rfl

def Γ_law13_MovesUnion : FuncId → Option FSig := fun f =>
  if f = n_ref13_Few then some ⟨.pure, true, [1], 0, fun l => match l with | [[x0], [x1]] => ref13_Few_s x0 x1 | _ => none⟩ else
  if f = n_ref13_May then some ⟨.pure, true, [1], 0, fun l => match l with | [[x0]] => ref13_May_s x0 | _ => none⟩ else
  if f = n_law13_live then some ⟨.pure, true, [1], 0, fun l => match l with | [] => law13_live_s | _ => none⟩ else
  if f = n_ref13_Alike then some ⟨.pure, true, [1], 0, fun l => match l with | [[x0, x1, x2, x3, x4, x5], [x6, x7, x8, x9, x10, x11]] => ref13_Alike_s x0 x1 x2 x3 x4 x5 x6 x7 x8 x9 x10 x11 | _ => none⟩ else
  if f = n_moves_Union then some ⟨.pure, false, [1], 0, fun l => match l with | [[x0], [x1]] => moves_Union_s x0 x1 | _ => none⟩ else
  if f = n_moves_Insert then some ⟨.pure, false, [1, 1, 1], 0, fun l => match l with | [[x0], [x1, x2, x3, x4, x5, x6]] => moves_Insert_s x0 x1 x2 x3 x4 x5 x6 | _ => none⟩ else
  if f = n_moves_May then some ⟨.pure, true, [1], 0, fun l => match l with | [[x0]] => moves_May_s x0 | _ => none⟩ else
  if f = n_ref13_Same then some ⟨.pure, true, [1], 0, fun l => match l with | [[x0], [x1]] => ref13_Same_s x0 x1 | _ => none⟩ else
  none
def A_law13_MovesUnion : Ann := { order := (fun r => if r = 10 then some ([], [0, 1, 2, 3, 4, 5, 6, 7, 8, 9, 10, 11, 12, 13, 14, 15, 16, 17, 18, 19, 20, 21, 22], []) else if r = 19 then some ([], [0, 1, 2, 3, 4, 5, 6, 7, 8, 9, 10, 11, 12, 13, 14, 15, 16, 17, 18, 19, 20, 21, 22], []) else none), join := (fun r => if r = 1 then some [44] else if r = 10 then some [86] else if r = 19 then some [141] else if r = 21 then some [6] else none), loop := (fun r => if r = 5 then ([(8, .I)], [[], [(6, .I)]]) else if r = 8 then ([(9, .I)], [[], [(6, .I)]]) else if r = 16 then ([(13, .I)], [[], [(6, .I)]]) else ([], [])), scalar := true }
theorem run_law13_MovesUnion (a0 a1 a2 : IV) : run Try.prog (Γ_law13_MovesUnion) C0 A_law13_MovesUnion Try.f14 [[a0], [a1], [a2]] = law13_MovesUnion_s a0 a1 a2 := by kernel_rfl

end Go.AM

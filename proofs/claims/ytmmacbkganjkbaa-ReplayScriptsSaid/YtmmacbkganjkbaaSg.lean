/- The contracts of all functions that are reached. -/
import Derived.Test.YtmmacbkganjkbaaCk
import Derived.Test.YtmmacbkganjkbaaWk
import Derived.Test.YtmmacbkganjkbaaHd
import Derived.Test.YtmmacbkganjkbaaHe
import Derived.Test.YtmmacbkganjkbaaHm
import Derived.Test.YtmmacbkganjkbaaAe
import Derived.Shelf.RegionOpen
set_option linter.unusedVariables false
set_option linter.unusedSimpArgs false
set_option maxRecDepth 100000
namespace Go.AM
open Go.Proofs Go.RowKit Go.Shelf
theorem mixedOrders : Try.prog.follows .mixedOrders = true := by kernel_rfl
theorem en_ref12_Few : Enters Try.prog n_ref12_Few := enters_of (f := Try.f13) (by kernel_rfl) (by kernel_rfl) (by kernel_rfl)
theorem en_undo_Do : Enters Try.prog n_undo_Do := enters_of (f := Try.f16) (by kernel_rfl) (by kernel_rfl) (by kernel_rfl)
theorem en_ref15_Do : Enters Try.prog n_ref15_Do := enters_of (f := Try.f17) (by kernel_rfl) (by kernel_rfl) (by kernel_rfl)
theorem en_ref12_Same : Enters Try.prog n_ref12_Same := enters_of (f := Try.f18) (by kernel_rfl) (by kernel_rfl) (by kernel_rfl)
theorem en_ref15_Alike : Enters Try.prog n_ref15_Alike := enters_of (f := Try.f19) (by kernel_rfl) (by kernel_rfl) (by kernel_rfl)
theorem en_undo_Undo : Enters Try.prog n_undo_Undo := enters_of (f := Try.f20) (by kernel_rfl) (by kernel_rfl) (by kernel_rfl)
theorem en_ref13_Few : Enters Try.prog n_ref13_Few := enters_of (f := Try.f22) (by kernel_rfl) (by kernel_rfl) (by kernel_rfl)
theorem en_undo_Run : Enters Try.prog n_undo_Run := enters_of (f := Try.f23) (by kernel_rfl) (by kernel_rfl) (by kernel_rfl)
theorem en_ref15_Same : Enters Try.prog n_ref15_Same := enters_of (f := Try.f25) (by kernel_rfl) (by kernel_rfl) (by kernel_rfl)
theorem en_ref13_Same : Enters Try.prog n_ref13_Same := enters_of (f := Try.f28) (by kernel_rfl) (by kernel_rfl) (by kernel_rfl)
theorem en_undo_Moves : Enters Try.prog n_undo_Moves := enters_of (f := Try.f29) (by kernel_rfl) (by kernel_rfl) (by kernel_rfl)
theorem en_ref12_May : Enters Try.prog n_ref12_May := enters_of (f := Try.f32) (by kernel_rfl) (by kernel_rfl) (by kernel_rfl)
theorem en_tree_Find : Enters Try.prog n_tree_Find := enters_of (f := Try.f33) (by kernel_rfl) (by kernel_rfl) (by kernel_rfl)
theorem en_fold_Barred : Enters Try.prog n_fold_Barred := enters_of (f := Try.f34) (by kernel_rfl) (by kernel_rfl) (by kernel_rfl)
theorem en_ref12_Alike : Enters Try.prog n_ref12_Alike := enters_of (f := Try.f35) (by kernel_rfl) (by kernel_rfl) (by kernel_rfl)
theorem en_ref13_Alike : Enters Try.prog n_ref13_Alike := enters_of (f := Try.f36) (by kernel_rfl) (by kernel_rfl) (by kernel_rfl)
theorem en_law16_live : Enters Try.prog n_law16_live := enters_of (f := Try.f37) (by kernel_rfl) (by kernel_rfl) (by kernel_rfl)
theorem en_replay_New : Enters Try.prog n_replay_New := enters_of (f := Try.f38) (by kernel_rfl) (by kernel_rfl) (by kernel_rfl)
theorem en_replay_Tree_Add : Enters Try.prog n_replay_Tree_Add := enters_of (f := Try.f39) (by kernel_rfl) (by kernel_rfl) (by kernel_rfl)
theorem en_ref16_Tree_Add : Enters Try.prog n_ref16_Tree_Add := enters_of (f := Try.f40) (by kernel_rfl) (by kernel_rfl) (by kernel_rfl)
theorem en_replay_Tree_Rows : Enters Try.prog n_replay_Tree_Rows := enters_of (f := Try.f41) (by kernel_rfl) (by kernel_rfl) (by kernel_rfl)
theorem en_ref16_Tree_Rows : Enters Try.prog n_ref16_Tree_Rows := enters_of (f := Try.f42) (by kernel_rfl) (by kernel_rfl) (by kernel_rfl)
theorem en_replay_Tree_Log : Enters Try.prog n_replay_Tree_Log := enters_of (f := Try.f43) (by kernel_rfl) (by kernel_rfl) (by kernel_rfl)
theorem en_replay_Tree_Steps : Enters Try.prog n_replay_Tree_Steps := enters_of (f := Try.f44) (by kernel_rfl) (by kernel_rfl) (by kernel_rfl)
theorem en_ref16_Tree_Steps : Enters Try.prog n_ref16_Tree_Steps := enters_of (f := Try.f45) (by kernel_rfl) (by kernel_rfl) (by kernel_rfl)
theorem en_replay_Tree_Base : Enters Try.prog n_replay_Tree_Base := enters_of (f := Try.f46) (by kernel_rfl) (by kernel_rfl) (by kernel_rfl)
theorem en_fold_All : Enters Try.prog n_fold_All := enters_of (f := Try.f47) (by kernel_rfl) (by kernel_rfl) (by kernel_rfl)
theorem en_law16_all : Enters Try.prog n_law16_all := enters_of (f := Try.f48) (by kernel_rfl) (by kernel_rfl) (by kernel_rfl)
theorem en_ref02_Before : Enters Try.prog n_ref02_Before := enters_of (f := Try.f49) (by kernel_rfl) (by kernel_rfl) (by kernel_rfl)
theorem en_ref13_May : Enters Try.prog n_ref13_May := enters_of (f := Try.f50) (by kernel_rfl) (by kernel_rfl) (by kernel_rfl)
theorem en_ref13_Since : Enters Try.prog n_ref13_Since := enters_of (f := Try.f51) (by kernel_rfl) (by kernel_rfl) (by kernel_rfl)
theorem en_ref13_One : Enters Try.prog n_ref13_One := enters_of (f := Try.f52) (by kernel_rfl) (by kernel_rfl) (by kernel_rfl)
theorem en_tree_May : Enters Try.prog n_tree_May := enters_of (f := Try.f53) (by kernel_rfl) (by kernel_rfl) (by kernel_rfl)
theorem en_fold_Do : Enters Try.prog n_fold_Do := enters_of (f := Try.f54) (by kernel_rfl) (by kernel_rfl) (by kernel_rfl)
theorem en_ref14_Do : Enters Try.prog n_ref14_Do := enters_of (f := Try.f55) (by kernel_rfl) (by kernel_rfl) (by kernel_rfl)
theorem en_ref12_Find : Enters Try.prog n_ref12_Find := enters_of (f := Try.f56) (by kernel_rfl) (by kernel_rfl) (by kernel_rfl)
theorem en_tree_Set : Enters Try.prog n_tree_Set := enters_of (f := Try.f57) (by kernel_rfl) (by kernel_rfl) (by kernel_rfl)
theorem en_tree_Drop : Enters Try.prog n_tree_Drop := enters_of (f := Try.f58) (by kernel_rfl) (by kernel_rfl) (by kernel_rfl)
theorem en_ref12_Set : Enters Try.prog n_ref12_Set := enters_of (f := Try.f59) (by kernel_rfl) (by kernel_rfl) (by kernel_rfl)
theorem en_ref12_One : Enters Try.prog n_ref12_One := enters_of (f := Try.f64) (by kernel_rfl) (by kernel_rfl) (by kernel_rfl)
theorem en_ref12_Above : Enters Try.prog n_ref12_Above := enters_of (f := Try.f65) (by kernel_rfl) (by kernel_rfl) (by kernel_rfl)
theorem en_tree_place : Enters Try.prog n_tree_place := enters_of (f := Try.f66) (by kernel_rfl) (by kernel_rfl) (by kernel_rfl)
theorem en_tree_Above : Enters Try.prog n_tree_Above := enters_of (f := Try.f67) (by kernel_rfl) (by kernel_rfl) (by kernel_rfl)
theorem en_ref01_Same : Enters Try.prog n_ref01_Same := enters_of (f := Try.f68) (by kernel_rfl) (by kernel_rfl) (by kernel_rfl)
theorem en_ref13_Row : Enters Try.prog n_ref13_Row := enters_of (f := Try.f69) (by kernel_rfl) (by kernel_rfl) (by kernel_rfl)
theorem en_law16_live_1 : Enters Try.prog n_law16_live_1 := enters_of (f := Try.f70) (by kernel_rfl) (by kernel_rfl) (by kernel_rfl)
theorem en_slices_Clone_Row : Enters Try.prog n_slices_Clone_Row := enters_of (f := Try.f71) (by kernel_rfl) (by kernel_rfl) (by kernel_rfl)
theorem en_moves_Insert : Enters Try.prog n_moves_Insert := enters_of (f := Try.f72) (by kernel_rfl) (by kernel_rfl) (by kernel_rfl)
theorem en_slices_Reverse_Move : Enters Try.prog n_slices_Reverse_Move := enters_of (f := Try.f73) (by kernel_rfl) (by kernel_rfl) (by kernel_rfl)
theorem en_ref13_Insert : Enters Try.prog n_ref13_Insert := enters_of (f := Try.f74) (by kernel_rfl) (by kernel_rfl) (by kernel_rfl)
theorem en_slices_Clone_Step : Enters Try.prog n_slices_Clone_Step := enters_of (f := Try.f75) (by kernel_rfl) (by kernel_rfl) (by kernel_rfl)
theorem en_ref13_Time : Enters Try.prog n_ref13_Time := enters_of (f := Try.f76) (by kernel_rfl) (by kernel_rfl) (by kernel_rfl)
theorem en_moves_Row : Enters Try.prog n_moves_Row := enters_of (f := Try.f80) (by kernel_rfl) (by kernel_rfl) (by kernel_rfl)
theorem en_ref14_Barred : Enters Try.prog n_ref14_Barred := enters_of (f := Try.f81) (by kernel_rfl) (by kernel_rfl) (by kernel_rfl)
theorem en_ref12_place : Enters Try.prog n_ref12_place := enters_of (f := Try.f82) (by kernel_rfl) (by kernel_rfl) (by kernel_rfl)
theorem en_slices_IndexFunc_Row : Enters Try.prog n_slices_IndexFunc_Row := enters_of (f := Try.f83) (by kernel_rfl) (by kernel_rfl) (by kernel_rfl)
theorem en_tree_Set_1 : Enters Try.prog n_tree_Set_1 := enters_of (f := Try.f84) (by kernel_rfl) (by kernel_rfl) (by kernel_rfl)
theorem en_slices_Insert_Row : Enters Try.prog n_slices_Insert_Row := enters_of (f := Try.f85) (by kernel_rfl) (by kernel_rfl) (by kernel_rfl)
theorem en_slices_Delete_Row : Enters Try.prog n_slices_Delete_Row := enters_of (f := Try.f86) (by kernel_rfl) (by kernel_rfl) (by kernel_rfl)
theorem en_ref04_Valid : Enters Try.prog n_ref04_Valid := enters_of (f := Try.f93) (by kernel_rfl) (by kernel_rfl) (by kernel_rfl)
theorem en_tree_place_1 : Enters Try.prog n_tree_place_1 := enters_of (f := Try.f94) (by kernel_rfl) (by kernel_rfl) (by kernel_rfl)
theorem en_ref01_Bits : Enters Try.prog n_ref01_Bits := enters_of (f := Try.f95) (by kernel_rfl) (by kernel_rfl) (by kernel_rfl)
theorem en_moves_seek : Enters Try.prog n_moves_seek := enters_of (f := Try.f96) (by kernel_rfl) (by kernel_rfl) (by kernel_rfl)
theorem en_moves_when_is : Enters Try.prog n_moves_when_is := enters_of (f := Try.f97) (by kernel_rfl) (by kernel_rfl) (by kernel_rfl)
theorem en_moves_when_before : Enters Try.prog n_moves_when_before := enters_of (f := Try.f98) (by kernel_rfl) (by kernel_rfl) (by kernel_rfl)
theorem en_slices_Insert_Move : Enters Try.prog n_slices_Insert_Move := enters_of (f := Try.f99) (by kernel_rfl) (by kernel_rfl) (by kernel_rfl)
theorem en_slices_Clone_Move : Enters Try.prog n_slices_Clone_Move := enters_of (f := Try.f100) (by kernel_rfl) (by kernel_rfl) (by kernel_rfl)
theorem en_word_Valid : Enters Try.prog n_word_Valid := enters_of (f := Try.f101) (by kernel_rfl) (by kernel_rfl) (by kernel_rfl)
theorem en_ref04_First : Enters Try.prog n_ref04_First := enters_of (f := Try.f106) (by kernel_rfl) (by kernel_rfl) (by kernel_rfl)
theorem en_ref01_None : Enters Try.prog n_ref01_None := enters_of (f := Try.f107) (by kernel_rfl) (by kernel_rfl) (by kernel_rfl)
theorem en_ref01_Minus : Enters Try.prog n_ref01_Minus := enters_of (f := Try.f108) (by kernel_rfl) (by kernel_rfl) (by kernel_rfl)
theorem en_ref01_top : Enters Try.prog n_ref01_top := enters_of (f := Try.f109) (by kernel_rfl) (by kernel_rfl) (by kernel_rfl)
theorem en_rank_Before : Enters Try.prog n_rank_Before := enters_of (f := Try.f110) (by kernel_rfl) (by kernel_rfl) (by kernel_rfl)
theorem en_word_signs : Enters Try.prog n_word_signs := enters_of (f := Try.f113) (by kernel_rfl) (by kernel_rfl) (by kernel_rfl)
theorem en_ref04_sign : Enters Try.prog n_ref04_sign := enters_of (f := Try.f117) (by kernel_rfl) (by kernel_rfl) (by kernel_rfl)
theorem en_rank_first : Enters Try.prog n_rank_first := enters_of (f := Try.f118) (by kernel_rfl) (by kernel_rfl) (by kernel_rfl)
theorem en_rank_Before_1 : Enters Try.prog n_rank_Before_1 := enters_of (f := Try.f119) (by kernel_rfl) (by kernel_rfl) (by kernel_rfl)
theorem en_cmp_Compare_int : Enters Try.prog n_cmp_Compare_int := enters_of (f := Try.f120) (by kernel_rfl) (by kernel_rfl) (by kernel_rfl)
theorem en_rank_Before_2 : Enters Try.prog n_rank_Before_2 := enters_of (f := Try.f121) (by kernel_rfl) (by kernel_rfl) (by kernel_rfl)
theorem en_word_head : Enters Try.prog n_word_head := enters_of (f := Try.f123) (by kernel_rfl) (by kernel_rfl) (by kernel_rfl)
theorem en_ref04_in : Enters Try.prog n_ref04_in := enters_of (f := Try.f126) (by kernel_rfl) (by kernel_rfl) (by kernel_rfl)
theorem en_cmp_isNaN_int : Enters Try.prog n_cmp_isNaN_int := enters_of (f := Try.f127) (by kernel_rfl) (by kernel_rfl) (by kernel_rfl)
theorem sig_tree_Above : SigOK Try.prog n_tree_Above ⟨.pure, true, [1], 0, fun l => match l with | [[x0], [x1], [x2]] => tree_Above_s x0 x1 x2 | _ => none⟩ :=
  sig_of_above fun w A b off cap ps ss fs hA hlt hmax hwf hat x y hy => callsIn_wide.1 (above_in 1 (Nat.le_refl _) w A b off cap ps ss fs hA hlt hmax hwf hat x y hy)
theorem G_word_head : GOK Try.prog (Γ_word_head) :=
  GOK.nil
theorem sig_word_head : SigOK Try.prog n_word_head ⟨.pure, true, [1, 1, 1, 1], 0, fun l => match l with | [[x0]] => word_head_s x0 | _ => none⟩ :=
  sig_pure (C := C0) (A := A_word_head) (G_word_head) cok_none mixedOrders (f := Try.f123) (by kernel_rfl) (by kernel_rfl) (by kernel_rfl) rfl fun bs r h => by
    split at h
    · exact (run_word_head ..).trans h
    · cases h
theorem G_word_signs : GOK Try.prog (Γ_word_signs) :=
  GOK.ite ⟨en_word_head, sig_word_head⟩ <|
  GOK.nil
theorem sig_word_signs : SigOK Try.prog n_word_signs ⟨.pure, true, [1, 1], 0, fun l => match l with | [[x0]] => word_signs_s x0 | _ => none⟩ :=
  sig_pure (C := C0) (A := A_word_signs) (G_word_signs) cok_none mixedOrders (f := Try.f113) (by kernel_rfl) (by kernel_rfl) (by kernel_rfl) rfl fun bs r h => by
    split at h
    · exact (run_word_signs ..).trans h
    · cases h
theorem G_word_Valid : GOK Try.prog (Γ_word_Valid) :=
  GOK.ite ⟨en_word_signs, sig_word_signs⟩ <|
  GOK.nil
theorem sig_word_Valid : SigOK Try.prog n_word_Valid ⟨.pure, true, [1], 0, fun l => match l with | [[x0]] => word_Valid_s x0 | _ => none⟩ :=
  sig_pure (C := C0) (A := A_word_Valid) (G_word_Valid) cok_none mixedOrders (f := Try.f101) (by kernel_rfl) (by kernel_rfl) (by kernel_rfl) rfl fun bs r h => by
    split at h
    · exact (run_word_Valid ..).trans h
    · cases h
theorem G_tree_One : GOK Try.prog (Γ_tree_One) :=
  GOK.ite ⟨en_word_Valid, sig_word_Valid⟩ <|
  GOK.nil
theorem sig_tree_One : SigOK Try.prog n_tree_One ⟨.pure, true, [1], 0, fun l => match l with | [[x0, x1, x2, x3]] => tree_One_s x0 x1 x2 x3 | _ => none⟩ :=
  sig_pure (C := C0) (A := A_tree_One) (G_tree_One) cok_none mixedOrders (f := Try.f77) (by kernel_rfl) (by kernel_rfl) (by kernel_rfl) rfl fun bs r h => by
    split at h
    · exact (run_tree_One ..).trans h
    · cases h
theorem sig_tree_May : SigOK Try.prog n_tree_May ⟨.pure, true, [1], 0, fun l => match l with | [[x0]] => tree_May_s x0 | _ => none⟩ :=
  sig_of_may (O := (fun l => match l with | [[x0, x1, x2, x3]] => tree_One_s x0 x1 x2 x3 | _ => none)) sig_tree_One fun w A b off cap ps ss fs ob hA hlt hmax hwf hat hone => callsIn_wide.1 (may_in 1 (Nat.le_refl _) w A b off cap ps ss fs ob hA hlt hmax hwf hat hone)
theorem G_slices_IndexFunc_Row {C : IV → List Nat → List (List IV) → Option (List IV)} (hC : COK Try.prog C) : GOK Try.prog (Γ_slices_IndexFunc_Row C) :=
  GOK.nil
theorem sig_slices_IndexFunc_Row {C : IV → List Nat → List (List IV) → Option (List IV)} (hC : COK Try.prog C) : SigOK Try.prog n_slices_IndexFunc_Row ⟨.pure, true, [1], 0, fun l => match l with | [[x0], [x1]] => slices_IndexFunc_Row_s C x0 x1 | _ => none⟩ :=
  sig_pure (C := C) (A := A_slices_IndexFunc_Row) (G_slices_IndexFunc_Row hC) hC mixedOrders (f := Try.f83) (by kernel_rfl) (by kernel_rfl) (by kernel_rfl) rfl fun bs r h => by
    split at h
    · exact (run_slices_IndexFunc_Row C ..).trans h
    · cases h
theorem G_tree_place_1 : GOK Try.prog (Γ_tree_place_1) :=
  GOK.nil
theorem K_tree_place : COK Try.prog (Cx_tree_place) :=
  cok_tbl en_tree_place_1 (fun caps cv w ok hcap => pure_of_run (C := C0) (A := A_tree_place_1) (G_tree_place_1) cok_none mixedOrders (f := Try.f94) (by kernel_rfl) (by kernel_rfl) hcap (by kernel_rfl) fun bs r h => by
    split at h
    · exact (run_tree_place_1 ..).trans h
    · cases h) <|
  cok_none
theorem G_tree_place : GOK Try.prog (Γ_tree_place) :=
  GOK.ite ⟨en_slices_IndexFunc_Row, sig_slices_IndexFunc_Row (K_tree_place)⟩ <|
  GOK.nil
theorem sig_tree_place : SigOK Try.prog n_tree_place ⟨.pure, true, [1, 1], 0, fun l => match l with | [[x0], [x1]] => tree_place_s x0 x1 | _ => none⟩ :=
  sig_pure (C := (Cx_tree_place)) (A := A_tree_place) (G_tree_place) (K_tree_place) mixedOrders (f := Try.f66) (by kernel_rfl) (by kernel_rfl) (by kernel_rfl) rfl fun bs r h => by
    split at h
    · exact (run_tree_place ..).trans h
    · cases h
theorem G_tree_Set_1 : GOK Try.prog (Γ_tree_Set_1) :=
  GOK.nil
theorem K_tree_Set : COK Try.prog (Cx_tree_Set) :=
  cok_tbl en_tree_Set_1 (fun caps cv w ok hcap => pure_of_run (C := C0) (A := A_tree_Set_1) (G_tree_Set_1) cok_none mixedOrders (f := Try.f84) (by kernel_rfl) (by kernel_rfl) hcap (by kernel_rfl) fun bs r h => by
    split at h
    · exact (run_tree_Set_1 ..).trans h
    · cases h) <|
  cok_none
theorem G_tree_Set : GOK Try.prog (Γ_tree_Set) :=
  GOK.ite ⟨en_slices_Clone_Row, sig_slices_Clone_Row⟩ <|
  GOK.ite ⟨en_tree_place, sig_tree_place⟩ <|
  GOK.ite ⟨en_slices_IndexFunc_Row, sig_slices_IndexFunc_Row (K_tree_Set)⟩ <|
  GOK.ite ⟨en_slices_Insert_Row, sig_slices_Insert_Row⟩ <|
  GOK.nil
theorem sig_tree_Set : SigOK Try.prog n_tree_Set ⟨.pure, false, [1], 0, fun l => match l with | [[x0], [x1, x2, x3, x4]] => tree_Set_s x0 x1 x2 x3 x4 | _ => none⟩ :=
  sig_pure (C := (Cx_tree_Set)) (A := A_tree_Set) (G_tree_Set) (K_tree_Set) mixedOrders (f := Try.f57) (by kernel_rfl) (by kernel_rfl) (by kernel_rfl) rfl fun bs r h => by
    split at h
    · exact (run_tree_Set ..).trans h
    · cases h
theorem G_tree_Drop : GOK Try.prog (Γ_tree_Drop) :=
  GOK.ite ⟨en_tree_place, sig_tree_place⟩ <|
  GOK.ite ⟨en_slices_Clone_Row, sig_slices_Clone_Row⟩ <|
  GOK.ite ⟨en_slices_Delete_Row, sig_slices_Delete_Row⟩ <|
  GOK.nil
theorem sig_tree_Drop : SigOK Try.prog n_tree_Drop ⟨.pure, false, [1], 0, fun l => match l with | [[x0], [x1]] => tree_Drop_s x0 x1 | _ => none⟩ :=
  sig_pure (C := C0) (A := A_tree_Drop) (G_tree_Drop) cok_none mixedOrders (f := Try.f58) (by kernel_rfl) (by kernel_rfl) (by kernel_rfl) rfl fun bs r h => by
    split at h
    · exact (run_tree_Drop ..).trans h
    · cases h
theorem G_undo_Undo : GOK Try.prog (Γ_undo_Undo) :=
  GOK.ite ⟨en_tree_Set, sig_tree_Set⟩ <|
  GOK.ite ⟨en_tree_Drop, sig_tree_Drop⟩ <|
  GOK.nil
theorem sig_undo_Undo : SigOK Try.prog n_undo_Undo ⟨.pure, false, [1], 0, fun l => match l with | [[x0], [x1, x2, x3, x4, x5, x6, x7, x8, x9, x10, x11, x12]] => undo_Undo_s x0 x1 x2 x3 x4 x5 x6 x7 x8 x9 x10 x11 x12 | _ => none⟩ :=
  sig_pure (C := C0) (A := A_undo_Undo) (G_undo_Undo) cok_none mixedOrders (f := Try.f20) (by kernel_rfl) (by kernel_rfl) (by kernel_rfl) rfl fun bs r h => by
    split at h
    · exact (run_undo_Undo ..).trans h
    · cases h
theorem G_ref12_place : GOK Try.prog (Γ_ref12_place) :=
  GOK.nil
theorem sig_ref12_place : SigOK Try.prog n_ref12_place ⟨.pure, true, [1], 0, fun l => match l with | [[x0], [x1]] => ref12_place_s x0 x1 | _ => none⟩ :=
  sig_pure (C := C0) (A := A_ref12_place) (G_ref12_place) cok_none mixedOrders (f := Try.f82) (by kernel_rfl) (by kernel_rfl) (by kernel_rfl) rfl fun bs r h => by
    split at h
    · exact (run_ref12_place ..).trans h
    · cases h
theorem G_ref12_Find : GOK Try.prog (Γ_ref12_Find) :=
  GOK.ite ⟨en_ref12_place, sig_ref12_place⟩ <|
  GOK.nil
theorem sig_ref12_Find : SigOK Try.prog n_ref12_Find ⟨.pure, true, [4, 1], 0, fun l => match l with | [[x0], [x1]] => ref12_Find_s x0 x1 | _ => none⟩ :=
  sig_pure (C := C0) (A := A_ref12_Find) (G_ref12_Find) cok_none mixedOrders (f := Try.f56) (by kernel_rfl) (by kernel_rfl) (by kernel_rfl) rfl fun bs r h => by
    split at h
    · exact (run_ref12_Find ..).trans h
    · cases h
theorem G_ref12_Above : GOK Try.prog (Γ_ref12_Above) :=
  GOK.ite ⟨en_ref12_Find, sig_ref12_Find⟩ <|
  GOK.nil
theorem sig_ref12_Above : SigOK Try.prog n_ref12_Above ⟨.pure, true, [1], 0, fun l => match l with | [[x0], [x1], [x2]] => ref12_Above_s x0 x1 x2 | _ => none⟩ :=
  sig_pure (C := C0) (A := A_ref12_Above) (G_ref12_Above) cok_none mixedOrders (f := Try.f65) (by kernel_rfl) (by kernel_rfl) (by kernel_rfl) rfl fun bs r h => by
    split at h
    · exact (run_ref12_Above ..).trans h
    · cases h
theorem G_ref14_Barred : GOK Try.prog (Γ_ref14_Barred) :=
  GOK.ite ⟨en_ref12_Above, sig_ref12_Above⟩ <|
  GOK.nil
theorem sig_ref14_Barred : SigOK Try.prog n_ref14_Barred ⟨.pure, true, [1], 0, fun l => match l with | [[x0], [x1, x2, x3, x4, x5, x6]] => ref14_Barred_s x0 x1 x2 x3 x4 x5 x6 | _ => none⟩ :=
  sig_pure (C := C0) (A := A_ref14_Barred) (G_ref14_Barred) cok_none mixedOrders (f := Try.f81) (by kernel_rfl) (by kernel_rfl) (by kernel_rfl) rfl fun bs r h => by
    split at h
    · exact (run_ref14_Barred ..).trans h
    · cases h
theorem G_ref13_Row : GOK Try.prog (Γ_ref13_Row) :=
  GOK.nil
theorem sig_ref13_Row : SigOK Try.prog n_ref13_Row ⟨.pure, true, [4], 0, fun l => match l with | [[x0, x1, x2, x3, x4, x5]] => ref13_Row_s x0 x1 x2 x3 x4 x5 | _ => none⟩ :=
  sig_pure (C := C0) (A := A_ref13_Row) (G_ref13_Row) cok_none mixedOrders (f := Try.f69) (by kernel_rfl) (by kernel_rfl) (by kernel_rfl) rfl fun bs r h => by
    split at h
    · exact (run_ref13_Row ..).trans h
    · cases h
theorem G_ref12_Set : GOK Try.prog (Γ_ref12_Set) :=
  GOK.ite ⟨en_ref12_place, sig_ref12_place⟩ <|
  GOK.nil
theorem sig_ref12_Set : SigOK Try.prog n_ref12_Set ⟨.pure, false, [1], 0, fun l => match l with | [[x0], [x1, x2, x3, x4]] => ref12_Set_s x0 x1 x2 x3 x4 | _ => none⟩ :=
  sig_pure (C := C0) (A := A_ref12_Set) (G_ref12_Set) cok_none mixedOrders (f := Try.f59) (by kernel_rfl) (by kernel_rfl) (by kernel_rfl) rfl fun bs r h => by
    split at h
    · exact (run_ref12_Set ..).trans h
    · cases h
theorem G_ref14_Do : GOK Try.prog (Γ_ref14_Do) :=
  GOK.ite ⟨en_ref14_Barred, sig_ref14_Barred⟩ <|
  GOK.ite ⟨en_ref13_Row, sig_ref13_Row⟩ <|
  GOK.ite ⟨en_ref12_Set, sig_ref12_Set⟩ <|
  GOK.nil
theorem sig_ref14_Do : SigOK Try.prog n_ref14_Do ⟨.pure, false, [1, 1], 0, fun l => match l with | [[x0], [x1, x2, x3, x4, x5, x6]] => ref14_Do_s x0 x1 x2 x3 x4 x5 x6 | _ => none⟩ :=
  sig_pure (C := C0) (A := A_ref14_Do) (G_ref14_Do) cok_none mixedOrders (f := Try.f55) (by kernel_rfl) (by kernel_rfl) (by kernel_rfl) rfl fun bs r h => by
    split at h
    · exact (run_ref14_Do ..).trans h
    · cases h
theorem G_ref15_Do : GOK Try.prog (Γ_ref15_Do) :=
  GOK.ite ⟨en_ref14_Do, sig_ref14_Do⟩ <|
  GOK.ite ⟨en_ref12_Find, sig_ref12_Find⟩ <|
  GOK.nil
theorem sig_ref15_Do : SigOK Try.prog n_ref15_Do ⟨.pure, false, [1, 12], 0, fun l => match l with | [[x0], [x1, x2, x3, x4, x5, x6]] => ref15_Do_s x0 x1 x2 x3 x4 x5 x6 | _ => none⟩ :=
  sig_pure (C := C0) (A := A_ref15_Do) (G_ref15_Do) cok_none mixedOrders (f := Try.f17) (by kernel_rfl) (by kernel_rfl) (by kernel_rfl) rfl fun bs r h => by
    split at h
    · exact (run_ref15_Do ..).trans h
    · cases h
theorem G_ref15_Run : GOK Try.prog (Γ_ref15_Run) :=
  GOK.ite ⟨en_ref15_Do, sig_ref15_Do⟩ <|
  GOK.nil
theorem sig_ref15_Run : SigOK Try.prog n_ref15_Run ⟨.pure, false, [1, 1], 0, fun l => match l with | [[x0], [x1]] => ref15_Run_s x0 x1 | _ => none⟩ :=
  sig_pure (C := C0) (A := A_ref15_Run) (G_ref15_Run) cok_none mixedOrders (f := Try.f24) (by kernel_rfl) (by kernel_rfl) (by kernel_rfl) rfl fun bs r h => by
    split at h
    · exact (run_ref15_Run ..).trans h
    · cases h
set_option maxHeartbeats 1000000 in
 attribute [local go_sem] Oper.semAt_some in
theorem ref16_Tree_Rows_look : SigOK Try.prog n_ref16_Tree_Rows ⟨.look 2, false, [1], 0, fun l => match l with | [[x0, x1]] => ref16_Tree_Rows_s x0 x1 | _ => none⟩ := by
  intro w ok ls vs b base c T args r hok hlen hb hsz hc hargs hr
  have hfn : ∀ f, Fence.wide.fn f := fun _ => trivial
  have hdep : Fence.wide.depth.isSome = false := rfl
  have hf : Try.prog.funcs[42]? = some Try.f42 := by kernel_rfl
  have hn : Try.f42.ntmps = 18 := by kernel_rfl
  simp only at hr
  split at hr
  · rename_i x0 x1 heq
    simp only [List.cons.injEq] at heq
    obtain ⟨rfl, rfl⟩ := heq
    have hargs0 : args = [] := List.length_eq_zero_iff.1 hargs.1.symm
    subst hargs0
    unfold ref16_Tree_Rows_s run16S at hr
    split at hr
    · rename_i es fs
      obtain ⟨u0, g0, r0⟩ := hc 0 _ rfl
      obtain ⟨u1, g1, r1⟩ := hc 1 _ rfl
      cases r0 with
      | lst _ A0 c0 z0 v0 p0 p1 p2 p3 =>
      cases r1 with
      | lst _ A1 c1 z1 v1 q0 q1 q2 q3 =>
      have d0 : w.cell? ⟨b, base, none⟩ = some (.slice A0 es.length c0) := by unfold World.cell?; rw [hb]; exact g0
      have d1 : w.cell? ⟨b, base + 1, none⟩ = some (.slice A1 fs.length c1) := by unfold World.cell?; rw [hb]; exact g1
      obtain ⟨r2, hr2, rfl⟩ := Option.map_eq_some_iff.1 hr
      have hrel : ∀ w' : World, w'.heap = w.heap → ArgsRel w' ok [[.lst es], [.lst fs]] [.slice A0 es.length c0, .slice A1 fs.length c1] := fun w' hw => by
        have hk : Keeps w ok w' ok := ⟨fun b _ => by rw [hw], fun _ h => h⟩
        refine ⟨rfl, fun i c u h1 h2 => ?_⟩
        match i with
        | 0 => cases h1; cases h2; exact .inl ⟨_, rfl, (RV.lst es A0 c0 z0 v0 p0 p1 p2 p3).keeps hk⟩
        | 1 => cases h1; cases h2; exact .inl ⟨_, rfl, (RV.lst fs A1 c1 z1 v1 q0 q1 q2 q3).keeps hk⟩
        | n + 2 => exact absurd h1 (by simp)
      have hcall := fun (w' : World) (hw : w'.heap = w.heap) => sig_ref15_Run.1 w' ok w' ok _ _ _ (.refl _ _) (by rw [hw]; exact hok) (hrel w' hw) hr2
      refine (callsIn_wide (n := 1)).1 ?_
      refine callsIn_of_wp hf rfl trivial ?_ rfl
      simp only [hn, List.size_toArray, List.length_cons, List.length_nil, Nat.reduceAdd, Nat.reduceSub, Array.replicate_succ, Array.replicate_zero, List.push_toArray, List.append_toArray, List.nil_append, List.cons_append]
      gi_wp2
      have mixed : Try.prog.follows .mixedOrders = true := by kernel_rfl
      gi_region_with_o (gi_at_call 24; refine (callsIn_wide.2 (hcall w.drew rfl)).mono ?_; rintro e w5 ⟨v5, rfl, hB5, t5, rfl, hr5⟩; obtain ⟨y0, y1, rfl⟩ := two_res hr5)
      all_goals gi_wp2
      all_goals refine bodyPost_ret (results_tmp rfl _ _ _) rfl ?_
      all_goals exact ⟨_, rfl, (Below.refl _ w).drew.trans hB5, two_res0 hr5⟩
    · cases hr
  · cases hr
theorem sig_ref16_Tree_Rows : SigOK Try.prog n_ref16_Tree_Rows ⟨.look 2, false, [1], 0, fun l => match l with | [[x0, x1]] => ref16_Tree_Rows_s x0 x1 | _ => none⟩ := ref16_Tree_Rows_look
set_option maxHeartbeats 1000000 in
 attribute [local go_sem] Oper.semAt_some in
theorem ref16_Tree_Steps_look : SigOK Try.prog n_ref16_Tree_Steps ⟨.look 2, false, [1], 0, fun l => match l with | [[x0, x1]] => ref16_Tree_Steps_s x0 x1 | _ => none⟩ := by
  intro w ok ls vs b base c T args r hok hlen hb hsz hc hargs hr
  have hfn : ∀ f, Fence.wide.fn f := fun _ => trivial
  have hdep : Fence.wide.depth.isSome = false := rfl
  have hf : Try.prog.funcs[45]? = some Try.f45 := by kernel_rfl
  have hn : Try.f45.ntmps = 18 := by kernel_rfl
  simp only at hr
  split at hr
  · rename_i x0 x1 heq
    simp only [List.cons.injEq] at heq
    obtain ⟨rfl, rfl⟩ := heq
    have hargs0 : args = [] := List.length_eq_zero_iff.1 hargs.1.symm
    subst hargs0
    unfold ref16_Tree_Steps_s run16S at hr
    split at hr
    · rename_i es fs
      obtain ⟨u0, g0, r0⟩ := hc 0 _ rfl
      obtain ⟨u1, g1, r1⟩ := hc 1 _ rfl
      cases r0 with
      | lst _ A0 c0 z0 v0 p0 p1 p2 p3 =>
      cases r1 with
      | lst _ A1 c1 z1 v1 q0 q1 q2 q3 =>
      have d0 : w.cell? ⟨b, base, none⟩ = some (.slice A0 es.length c0) := by unfold World.cell?; rw [hb]; exact g0
      have d1 : w.cell? ⟨b, base + 1, none⟩ = some (.slice A1 fs.length c1) := by unfold World.cell?; rw [hb]; exact g1
      obtain ⟨r2, hr2, rfl⟩ := Option.map_eq_some_iff.1 hr
      have hrel : ∀ w' : World, w'.heap = w.heap → ArgsRel w' ok [[.lst es], [.lst fs]] [.slice A0 es.length c0, .slice A1 fs.length c1] := fun w' hw => by
        have hk : Keeps w ok w' ok := ⟨fun b _ => by rw [hw], fun _ h => h⟩
        refine ⟨rfl, fun i c u h1 h2 => ?_⟩
        match i with
        | 0 => cases h1; cases h2; exact .inl ⟨_, rfl, (RV.lst es A0 c0 z0 v0 p0 p1 p2 p3).keeps hk⟩
        | 1 => cases h1; cases h2; exact .inl ⟨_, rfl, (RV.lst fs A1 c1 z1 v1 q0 q1 q2 q3).keeps hk⟩
        | n + 2 => exact absurd h1 (by simp)
      have hcall := fun (w' : World) (hw : w'.heap = w.heap) => sig_ref15_Run.1 w' ok w' ok _ _ _ (.refl _ _) (by rw [hw]; exact hok) (hrel w' hw) hr2
      refine (callsIn_wide (n := 1)).1 ?_
      refine callsIn_of_wp hf rfl trivial ?_ rfl
      simp only [hn, List.size_toArray, List.length_cons, List.length_nil, Nat.reduceAdd, Nat.reduceSub, Array.replicate_succ, Array.replicate_zero, List.push_toArray, List.append_toArray, List.nil_append, List.cons_append]
      gi_wp2
      have mixed : Try.prog.follows .mixedOrders = true := by kernel_rfl
      gi_region_with_o (gi_at_call 24; refine (callsIn_wide.2 (hcall w.drew rfl)).mono ?_; rintro e w5 ⟨v5, rfl, hB5, t5, rfl, hr5⟩; obtain ⟨y0, y1, rfl⟩ := two_res hr5)
      all_goals gi_wp2
      all_goals refine bodyPost_ret (results_tmp rfl _ _ _) rfl ?_
      all_goals exact ⟨_, rfl, (Below.refl _ w).drew.trans hB5, two_res1 hr5⟩
    · cases hr
  · cases hr
theorem sig_ref16_Tree_Steps : SigOK Try.prog n_ref16_Tree_Steps ⟨.look 2, false, [1], 0, fun l => match l with | [[x0, x1]] => ref16_Tree_Steps_s x0 x1 | _ => none⟩ := ref16_Tree_Steps_look
theorem G_ref12_Few : GOK Try.prog (Γ_ref12_Few) :=
  GOK.nil
theorem sig_ref12_Few : SigOK Try.prog n_ref12_Few ⟨.pure, true, [1], 0, fun l => match l with | [[x0]] => ref12_Few_s x0 | _ => none⟩ :=
  sig_pure (C := C0) (A := A_ref12_Few) (G_ref12_Few) cok_none mixedOrders (f := Try.f13) (by kernel_rfl) (by kernel_rfl) (by kernel_rfl) rfl fun bs r h => by
    split at h
    · exact (run_ref12_Few ..).trans h
    · cases h
theorem G_fold_Barred : GOK Try.prog (Γ_fold_Barred) :=
  GOK.ite ⟨en_tree_Above, sig_tree_Above⟩ <|
  GOK.nil
theorem sig_fold_Barred : SigOK Try.prog n_fold_Barred ⟨.pure, true, [1], 0, fun l => match l with | [[x0], [x1, x2, x3, x4, x5, x6]] => fold_Barred_s x0 x1 x2 x3 x4 x5 x6 | _ => none⟩ :=
  sig_pure (C := C0) (A := A_fold_Barred) (G_fold_Barred) cok_none mixedOrders (f := Try.f34) (by kernel_rfl) (by kernel_rfl) (by kernel_rfl) rfl fun bs r h => by
    split at h
    · exact (run_fold_Barred ..).trans h
    · cases h
theorem G_moves_Row : GOK Try.prog (Γ_moves_Row) :=
  GOK.nil
theorem sig_moves_Row : SigOK Try.prog n_moves_Row ⟨.pure, true, [4], 0, fun l => match l with | [[x0, x1, x2, x3, x4, x5]] => moves_Row_s x0 x1 x2 x3 x4 x5 | _ => none⟩ :=
  sig_pure (C := C0) (A := A_moves_Row) (G_moves_Row) cok_none mixedOrders (f := Try.f80) (by kernel_rfl) (by kernel_rfl) (by kernel_rfl) rfl fun bs r h => by
    split at h
    · exact (run_moves_Row ..).trans h
    · cases h
theorem G_fold_Do : GOK Try.prog (Γ_fold_Do) :=
  GOK.ite ⟨en_fold_Barred, sig_fold_Barred⟩ <|
  GOK.ite ⟨en_moves_Row, sig_moves_Row⟩ <|
  GOK.ite ⟨en_tree_Set, sig_tree_Set⟩ <|
  GOK.nil
theorem sig_fold_Do : SigOK Try.prog n_fold_Do ⟨.pure, false, [1, 1], 0, fun l => match l with | [[x0], [x1, x2, x3, x4, x5, x6]] => fold_Do_s x0 x1 x2 x3 x4 x5 x6 | _ => none⟩ :=
  sig_pure (C := C0) (A := A_fold_Do) (G_fold_Do) cok_none mixedOrders (f := Try.f54) (by kernel_rfl) (by kernel_rfl) (by kernel_rfl) rfl fun bs r h => by
    split at h
    · exact (run_fold_Do ..).trans h
    · cases h
theorem G_tree_Find : GOK Try.prog (Γ_tree_Find) :=
  GOK.ite ⟨en_tree_place, sig_tree_place⟩ <|
  GOK.nil
theorem sig_tree_Find : SigOK Try.prog n_tree_Find ⟨.pure, true, [4, 1], 0, fun l => match l with | [[x0], [x1]] => tree_Find_s x0 x1 | _ => none⟩ :=
  sig_pure (C := C0) (A := A_tree_Find) (G_tree_Find) cok_none mixedOrders (f := Try.f33) (by kernel_rfl) (by kernel_rfl) (by kernel_rfl) rfl fun bs r h => by
    split at h
    · exact (run_tree_Find ..).trans h
    · cases h
theorem G_undo_Do : GOK Try.prog (Γ_undo_Do) :=
  GOK.ite ⟨en_fold_Do, sig_fold_Do⟩ <|
  GOK.ite ⟨en_tree_Find, sig_tree_Find⟩ <|
  GOK.nil
theorem sig_undo_Do : SigOK Try.prog n_undo_Do ⟨.pure, false, [1, 12], 0, fun l => match l with | [[x0], [x1, x2, x3, x4, x5, x6]] => undo_Do_s x0 x1 x2 x3 x4 x5 x6 | _ => none⟩ :=
  sig_pure (C := C0) (A := A_undo_Do) (G_undo_Do) cok_none mixedOrders (f := Try.f16) (by kernel_rfl) (by kernel_rfl) (by kernel_rfl) rfl fun bs r h => by
    split at h
    · exact (run_undo_Do ..).trans h
    · cases h
theorem G_undo_Run : GOK Try.prog (Γ_undo_Run) :=
  GOK.ite ⟨en_undo_Do, sig_undo_Do⟩ <|
  GOK.nil
theorem sig_undo_Run : SigOK Try.prog n_undo_Run ⟨.pure, false, [1, 1], 0, fun l => match l with | [[x0], [x1]] => undo_Run_s x0 x1 | _ => none⟩ :=
  sig_pure (C := C0) (A := A_undo_Run) (G_undo_Run) cok_none mixedOrders (f := Try.f23) (by kernel_rfl) (by kernel_rfl) (by kernel_rfl) rfl fun bs r h => by
    split at h
    · exact (run_undo_Run ..).trans h
    · cases h
theorem G_undo_Moves : GOK Try.prog (Γ_undo_Moves) :=
  GOK.nil
theorem sig_undo_Moves : SigOK Try.prog n_undo_Moves ⟨.fresh, false, [1], 6, fun l => match l with | [[x0]] => undo_Moves_s x0 | _ => none⟩ :=
  sig_fresh (C := C0) (A := A_undo_Moves) (G_undo_Moves) cok_none mixedOrders (f := Try.f29) (by kernel_rfl) (by kernel_rfl) (fun bs r h => by
    split at h
    · exact (run_undo_Moves ..).trans h
    · cases h)
theorem G_ref01_None : GOK Try.prog (Γ_ref01_None) :=
  GOK.nil
theorem sig_ref01_None : SigOK Try.prog n_ref01_None ⟨.pure, true, [1], 0, fun l => match l with | [] => ref01_None_s | _ => none⟩ :=
  sig_pure (C := C0) (A := A_ref01_None) (G_ref01_None) cok_none mixedOrders (f := Try.f107) (by kernel_rfl) (by kernel_rfl) (by kernel_rfl) rfl fun bs r h => by
    split at h
    · exact (run_ref01_None ..).trans h
    · cases h
theorem G_ref01_Minus : GOK Try.prog (Γ_ref01_Minus) :=
  GOK.nil
theorem sig_ref01_Minus : SigOK Try.prog n_ref01_Minus ⟨.pure, true, [1], 0, fun l => match l with | [[x0]] => ref01_Minus_s x0 | _ => none⟩ :=
  sig_pure (C := C0) (A := A_ref01_Minus) (G_ref01_Minus) cok_none mixedOrders (f := Try.f108) (by kernel_rfl) (by kernel_rfl) (by kernel_rfl) rfl fun bs r h => by
    split at h
    · exact (run_ref01_Minus ..).trans h
    · cases h
theorem G_ref01_top : GOK Try.prog (Γ_ref01_top) :=
  GOK.nil
theorem sig_ref01_top : SigOK Try.prog n_ref01_top ⟨.pure, true, [1], 0, fun l => match l with | [] => ref01_top_s | _ => none⟩ :=
  sig_pure (C := C0) (A := A_ref01_top) (G_ref01_top) cok_none mixedOrders (f := Try.f109) (by kernel_rfl) (by kernel_rfl) (by kernel_rfl) rfl fun bs r h => by
    split at h
    · exact (run_ref01_top ..).trans h
    · cases h
theorem G_ref01_Bits : GOK Try.prog (Γ_ref01_Bits) :=
  GOK.ite ⟨en_ref01_None, sig_ref01_None⟩ <|
  GOK.ite ⟨en_ref01_Minus, sig_ref01_Minus⟩ <|
  GOK.ite ⟨en_ref01_top, sig_ref01_top⟩ <|
  GOK.nil
theorem sig_ref01_Bits : SigOK Try.prog n_ref01_Bits ⟨.pure, true, [1], 0, fun l => match l with | [[x0]] => ref01_Bits_s x0 | _ => none⟩ :=
  sig_pure (C := C0) (A := A_ref01_Bits) (G_ref01_Bits) cok_none mixedOrders (f := Try.f95) (by kernel_rfl) (by kernel_rfl) (by kernel_rfl) rfl fun bs r h => by
    split at h
    · exact (run_ref01_Bits ..).trans h
    · cases h
theorem G_ref01_Same : GOK Try.prog (Γ_ref01_Same) :=
  GOK.ite ⟨en_ref01_Bits, sig_ref01_Bits⟩ <|
  GOK.nil
theorem sig_ref01_Same : SigOK Try.prog n_ref01_Same ⟨.pure, true, [1], 0, fun l => match l with | [[x0], [x1]] => ref01_Same_s x0 x1 | _ => none⟩ :=
  sig_pure (C := C0) (A := A_ref01_Same) (G_ref01_Same) cok_none mixedOrders (f := Try.f68) (by kernel_rfl) (by kernel_rfl) (by kernel_rfl) rfl fun bs r h => by
    split at h
    · exact (run_ref01_Same ..).trans h
    · cases h
theorem G_ref12_Alike : GOK Try.prog (Γ_ref12_Alike) :=
  GOK.ite ⟨en_ref01_Same, sig_ref01_Same⟩ <|
  GOK.nil
theorem sig_ref12_Alike : SigOK Try.prog n_ref12_Alike ⟨.pure, true, [1], 0, fun l => match l with | [[x0, x1, x2, x3], [x4, x5, x6, x7]] => ref12_Alike_s x0 x1 x2 x3 x4 x5 x6 x7 | _ => none⟩ :=
  sig_pure (C := C0) (A := A_ref12_Alike) (G_ref12_Alike) cok_none mixedOrders (f := Try.f35) (by kernel_rfl) (by kernel_rfl) (by kernel_rfl) rfl fun bs r h => by
    split at h
    · exact (run_ref12_Alike ..).trans h
    · cases h
theorem G_ref12_Same : GOK Try.prog (Γ_ref12_Same) :=
  GOK.ite ⟨en_ref12_Alike, sig_ref12_Alike⟩ <|
  GOK.nil
theorem sig_ref12_Same : SigOK Try.prog n_ref12_Same ⟨.pure, true, [1], 0, fun l => match l with | [[x0], [x1]] => ref12_Same_s x0 x1 | _ => none⟩ :=
  sig_pure (C := C0) (A := A_ref12_Same) (G_ref12_Same) cok_none mixedOrders (f := Try.f18) (by kernel_rfl) (by kernel_rfl) (by kernel_rfl) rfl fun bs r h => by
    split at h
    · exact (run_ref12_Same ..).trans h
    · cases h
theorem G_ref13_Alike : GOK Try.prog (Γ_ref13_Alike) :=
  GOK.ite ⟨en_ref13_Row, sig_ref13_Row⟩ <|
  GOK.ite ⟨en_ref12_Alike, sig_ref12_Alike⟩ <|
  GOK.nil
theorem sig_ref13_Alike : SigOK Try.prog n_ref13_Alike ⟨.pure, true, [1], 0, fun l => match l with | [[x0, x1, x2, x3, x4, x5], [x6, x7, x8, x9, x10, x11]] => ref13_Alike_s x0 x1 x2 x3 x4 x5 x6 x7 x8 x9 x10 x11 | _ => none⟩ :=
  sig_pure (C := C0) (A := A_ref13_Alike) (G_ref13_Alike) cok_none mixedOrders (f := Try.f36) (by kernel_rfl) (by kernel_rfl) (by kernel_rfl) rfl fun bs r h => by
    split at h
    · exact (run_ref13_Alike ..).trans h
    · cases h
theorem G_ref15_Alike : GOK Try.prog (Γ_ref15_Alike) :=
  GOK.ite ⟨en_ref13_Alike, sig_ref13_Alike⟩ <|
  GOK.ite ⟨en_ref12_Alike, sig_ref12_Alike⟩ <|
  GOK.nil
theorem sig_ref15_Alike : SigOK Try.prog n_ref15_Alike ⟨.pure, true, [1], 0, fun l => match l with | [[x0, x1, x2, x3, x4, x5, x6, x7, x8, x9, x10, x11], [x12, x13, x14, x15, x16, x17, x18, x19, x20, x21, x22, x23]] => ref15_Alike_s x0 x1 x2 x3 x4 x5 x6 x7 x8 x9 x10 x11 x12 x13 x14 x15 x16 x17 x18 x19 x20 x21 x22 x23 | _ => none⟩ :=
  sig_pure (C := C0) (A := A_ref15_Alike) (G_ref15_Alike) cok_none mixedOrders (f := Try.f19) (by kernel_rfl) (by kernel_rfl) (by kernel_rfl) rfl fun bs r h => by
    split at h
    · exact (run_ref15_Alike ..).trans h
    · cases h
theorem G_ref13_Few : GOK Try.prog (Γ_ref13_Few) :=
  GOK.nil
theorem sig_ref13_Few : SigOK Try.prog n_ref13_Few ⟨.pure, true, [1], 0, fun l => match l with | [[x0], [x1]] => ref13_Few_s x0 x1 | _ => none⟩ :=
  sig_pure (C := C0) (A := A_ref13_Few) (G_ref13_Few) cok_none mixedOrders (f := Try.f22) (by kernel_rfl) (by kernel_rfl) (by kernel_rfl) rfl fun bs r h => by
    split at h
    · exact (run_ref13_Few ..).trans h
    · cases h
theorem G_ref15_Same : GOK Try.prog (Γ_ref15_Same) :=
  GOK.ite ⟨en_ref15_Alike, sig_ref15_Alike⟩ <|
  GOK.nil
theorem sig_ref15_Same : SigOK Try.prog n_ref15_Same ⟨.pure, true, [1], 0, fun l => match l with | [[x0], [x1]] => ref15_Same_s x0 x1 | _ => none⟩ :=
  sig_pure (C := C0) (A := A_ref15_Same) (G_ref15_Same) cok_none mixedOrders (f := Try.f25) (by kernel_rfl) (by kernel_rfl) (by kernel_rfl) rfl fun bs r h => by
    split at h
    · exact (run_ref15_Same ..).trans h
    · cases h
theorem G_ref13_Same : GOK Try.prog (Γ_ref13_Same) :=
  GOK.ite ⟨en_ref13_Alike, sig_ref13_Alike⟩ <|
  GOK.nil
theorem sig_ref13_Same : SigOK Try.prog n_ref13_Same ⟨.pure, true, [1], 0, fun l => match l with | [[x0], [x1]] => ref13_Same_s x0 x1 | _ => none⟩ :=
  sig_pure (C := C0) (A := A_ref13_Same) (G_ref13_Same) cok_none mixedOrders (f := Try.f28) (by kernel_rfl) (by kernel_rfl) (by kernel_rfl) rfl fun bs r h => by
    split at h
    · exact (run_ref13_Same ..).trans h
    · cases h
theorem G_ref04_in : GOK Try.prog (Γ_ref04_in) :=
  GOK.nil
theorem sig_ref04_in : SigOK Try.prog n_ref04_in ⟨.pure, true, [1], 0, fun l => match l with | [[x0], [x1], [x2], [x3]] => ref04_in_s x0 x1 x2 x3 | _ => none⟩ :=
  sig_pure (C := C0) (A := A_ref04_in) (G_ref04_in) cok_none mixedOrders (f := Try.f126) (by kernel_rfl) (by kernel_rfl) (by kernel_rfl) rfl fun bs r h => by
    split at h
    · exact (run_ref04_in ..).trans h
    · cases h
theorem G_ref04_sign : GOK Try.prog (Γ_ref04_sign) :=
  GOK.ite ⟨en_ref04_in, sig_ref04_in⟩ <|
  GOK.nil
theorem sig_ref04_sign : SigOK Try.prog n_ref04_sign ⟨.pure, true, [1], 0, fun l => match l with | [[x0], [x1]] => ref04_sign_s x0 x1 | _ => none⟩ :=
  sig_pure (C := C0) (A := A_ref04_sign) (G_ref04_sign) cok_none mixedOrders (f := Try.f117) (by kernel_rfl) (by kernel_rfl) (by kernel_rfl) rfl fun bs r h => by
    split at h
    · exact (run_ref04_sign ..).trans h
    · cases h
theorem G_ref04_First : GOK Try.prog (Γ_ref04_First) :=
  GOK.ite ⟨en_ref04_sign, sig_ref04_sign⟩ <|
  GOK.nil
theorem sig_ref04_First : SigOK Try.prog n_ref04_First ⟨.pure, true, [1, 1], 0, fun l => match l with | [[x0]] => ref04_First_s x0 | _ => none⟩ :=
  sig_pure (C := C0) (A := A_ref04_First) (G_ref04_First) cok_none mixedOrders (f := Try.f106) (by kernel_rfl) (by kernel_rfl) (by kernel_rfl) rfl fun bs r h => by
    split at h
    · exact (run_ref04_First ..).trans h
    · cases h
theorem G_ref04_Valid : GOK Try.prog (Γ_ref04_Valid) :=
  GOK.ite ⟨en_ref04_First, sig_ref04_First⟩ <|
  GOK.nil
theorem sig_ref04_Valid : SigOK Try.prog n_ref04_Valid ⟨.pure, true, [1], 0, fun l => match l with | [[x0]] => ref04_Valid_s x0 | _ => none⟩ :=
  sig_pure (C := C0) (A := A_ref04_Valid) (G_ref04_Valid) cok_none mixedOrders (f := Try.f93) (by kernel_rfl) (by kernel_rfl) (by kernel_rfl) rfl fun bs r h => by
    split at h
    · exact (run_ref04_Valid ..).trans h
    · cases h
theorem G_ref12_One : GOK Try.prog (Γ_ref12_One) :=
  GOK.ite ⟨en_ref04_Valid, sig_ref04_Valid⟩ <|
  GOK.nil
theorem sig_ref12_One : SigOK Try.prog n_ref12_One ⟨.pure, true, [1], 0, fun l => match l with | [[x0, x1, x2, x3]] => ref12_One_s x0 x1 x2 x3 | _ => none⟩ :=
  sig_pure (C := C0) (A := A_ref12_One) (G_ref12_One) cok_none mixedOrders (f := Try.f64) (by kernel_rfl) (by kernel_rfl) (by kernel_rfl) rfl fun bs r h => by
    split at h
    · exact (run_ref12_One ..).trans h
    · cases h
theorem G_ref12_May : GOK Try.prog (Γ_ref12_May) :=
  GOK.ite ⟨en_ref12_One, sig_ref12_One⟩ <|
  GOK.ite ⟨en_ref12_Above, sig_ref12_Above⟩ <|
  GOK.nil
theorem sig_ref12_May : SigOK Try.prog n_ref12_May ⟨.pure, true, [1], 0, fun l => match l with | [[x0]] => ref12_May_s x0 | _ => none⟩ :=
  sig_pure (C := C0) (A := A_ref12_May) (G_ref12_May) cok_none mixedOrders (f := Try.f32) (by kernel_rfl) (by kernel_rfl) (by kernel_rfl) rfl fun bs r h => by
    split at h
    · exact (run_ref12_May ..).trans h
    · cases h
theorem G_replay_New : GOK Try.prog (Γ_replay_New) :=
  GOK.ite ⟨en_slices_Clone_Row, pure_of_own sig_slices_Clone_Row fun _ _ h => h⟩ <|
  GOK.nil
theorem sig_replay_New : SigOK Try.prog n_replay_New ⟨.mko [.imm, .imm, .buf 12], false, [1], 0, fun l => match l with | [[x0]] => replay_New_s x0 | _ => none⟩ :=
  sig_mko (C := C0) (A := A_replay_New) (G_replay_New) cok_none mixedOrders (f := Try.f38) (by kernel_rfl) (by kernel_rfl) (fun bs r h => by
    split at h
    · exact (run_replay_New ..).trans h
    · cases h)
theorem G_replay_Tree_Log : GOK Try.prog (Γ_replay_Tree_Log) :=
  GOK.ite ⟨en_undo_Moves, sig_undo_Moves⟩ <|
  GOK.nil
theorem sig_replay_Tree_Log : SigOK Try.prog n_replay_Tree_Log ⟨.fresh, false, [1], 6, fun l => match l with | [[x0]] => replay_Tree_Log_s x0 | _ => none⟩ :=
  sig_fresh (C := C0) (A := A_replay_Tree_Log) (G_replay_Tree_Log) cok_none mixedOrders (f := Try.f43) (by kernel_rfl) (by kernel_rfl) (fun bs r h => by
    split at h
    · exact (run_replay_Tree_Log ..).trans h
    · cases h)
theorem G_moves_seek {C : IV → List Nat → List (List IV) → Option (List IV)} (hC : COK Try.prog C) : GOK Try.prog (Γ_moves_seek C) :=
  GOK.nil
theorem sig_moves_seek {C : IV → List Nat → List (List IV) → Option (List IV)} (hC : COK Try.prog C) : SigOK Try.prog n_moves_seek ⟨.pure, true, [1], 0, fun l => match l with | [[x0], [x1, x2], [x3]] => moves_seek_s C x0 x1 x2 x3 | _ => none⟩ :=
  sig_pure (C := C) (A := A_moves_seek) (G_moves_seek hC) hC mixedOrders (f := Try.f96) (by kernel_rfl) (by kernel_rfl) (by kernel_rfl) rfl fun bs r h => by
    split at h
    · exact (run_moves_seek C ..).trans h
    · cases h
theorem G_moves_when_is : GOK Try.prog (Γ_moves_when_is) :=
  GOK.nil
theorem G_rank_first {C : IV → List Nat → List (List IV) → Option (List IV)} (hC : COK Try.prog C) : GOK Try.prog (Γ_rank_first C) :=
  GOK.nil
theorem sig_rank_first {C : IV → List Nat → List (List IV) → Option (List IV)} (hC : COK Try.prog C) : SigOK Try.prog n_rank_first ⟨.pure, true, [1], 0, fun l => match l with | [[x0]] => rank_first_s C x0 | _ => none⟩ :=
  sig_pure (C := C) (A := A_rank_first) (G_rank_first hC) hC mixedOrders (f := Try.f118) (by kernel_rfl) (by kernel_rfl) (by kernel_rfl) rfl fun bs r h => by
    split at h
    · exact (run_rank_first C ..).trans h
    · cases h
theorem G_cmp_isNaN_int : GOK Try.prog (Γ_cmp_isNaN_int) :=
  GOK.nil
theorem sig_cmp_isNaN_int : SigOK Try.prog n_cmp_isNaN_int ⟨.pure, true, [1], 0, fun l => match l with | [[x0]] => cmp_isNaN_int_s x0 | _ => none⟩ :=
  sig_pure (C := C0) (A := A_cmp_isNaN_int) (G_cmp_isNaN_int) cok_none mixedOrders (f := Try.f127) (by kernel_rfl) (by kernel_rfl) (by kernel_rfl) rfl fun bs r h => by
    split at h
    · exact (run_cmp_isNaN_int ..).trans h
    · cases h
theorem G_cmp_Compare_int : GOK Try.prog (Γ_cmp_Compare_int) :=
  GOK.ite ⟨en_cmp_isNaN_int, sig_cmp_isNaN_int⟩ <|
  GOK.nil
theorem sig_cmp_Compare_int : SigOK Try.prog n_cmp_Compare_int ⟨.pure, true, [1], 0, fun l => match l with | [[x0], [x1]] => cmp_Compare_int_s x0 x1 | _ => none⟩ :=
  sig_pure (C := C0) (A := A_cmp_Compare_int) (G_cmp_Compare_int) cok_none mixedOrders (f := Try.f120) (by kernel_rfl) (by kernel_rfl) (by kernel_rfl) rfl fun bs r h => by
    split at h
    · exact (run_cmp_Compare_int ..).trans h
    · cases h
theorem G_rank_Before_1 : GOK Try.prog (Γ_rank_Before_1) :=
  GOK.ite ⟨en_cmp_Compare_int, sig_cmp_Compare_int⟩ <|
  GOK.nil
theorem G_rank_Before_2 : GOK Try.prog (Γ_rank_Before_2) :=
  GOK.ite ⟨en_cmp_Compare_int, sig_cmp_Compare_int⟩ <|
  GOK.nil
theorem K_rank_Before : COK Try.prog (Cx_rank_Before) :=
  cok_tbl en_rank_Before_1 (fun caps cv w ok hcap => pure_of_run (C := C0) (A := A_rank_Before_1) (G_rank_Before_1) cok_none mixedOrders (f := Try.f119) (by kernel_rfl) (by kernel_rfl) hcap (by kernel_rfl) fun bs r h => by
    split at h
    · exact (run_rank_Before_1 ..).trans h
    · cases h) <|
  cok_tbl en_rank_Before_2 (fun caps cv w ok hcap => pure_of_run (C := C0) (A := A_rank_Before_2) (G_rank_Before_2) cok_none mixedOrders (f := Try.f121) (by kernel_rfl) (by kernel_rfl) hcap (by kernel_rfl) fun bs r h => by
    split at h
    · exact (run_rank_Before_2 ..).trans h
    · cases h) <|
  cok_none
theorem G_rank_Before : GOK Try.prog (Γ_rank_Before) :=
  GOK.ite ⟨en_rank_first, sig_rank_first (K_rank_Before)⟩ <|
  GOK.nil
theorem sig_rank_Before : SigOK Try.prog n_rank_Before ⟨.pure, true, [1], 0, fun l => match l with | [[x0, x1], [x2, x3]] => rank_Before_s x0 x1 x2 x3 | _ => none⟩ :=
  sig_pure (C := (Cx_rank_Before)) (A := A_rank_Before) (G_rank_Before) (K_rank_Before) mixedOrders (f := Try.f110) (by kernel_rfl) (by kernel_rfl) (by kernel_rfl) rfl fun bs r h => by
    split at h
    · exact (run_rank_Before ..).trans h
    · cases h
theorem G_moves_when_before : GOK Try.prog (Γ_moves_when_before) :=
  GOK.ite ⟨en_rank_Before, sig_rank_Before⟩ <|
  GOK.nil
theorem K_moves_Insert : COK Try.prog (Cx_moves_Insert) :=
  cok_tbl en_moves_when_is (fun caps cv w ok hcap => pure_of_run (C := C0) (A := A_moves_when_is) (G_moves_when_is) cok_none mixedOrders (f := Try.f97) (by kernel_rfl) (by kernel_rfl) hcap (by kernel_rfl) fun bs r h => by
    split at h
    · exact (run_moves_when_is ..).trans h
    · cases h) <|
  cok_tbl en_moves_when_before (fun caps cv w ok hcap => pure_of_run (C := C0) (A := A_moves_when_before) (G_moves_when_before) cok_none mixedOrders (f := Try.f98) (by kernel_rfl) (by kernel_rfl) hcap (by kernel_rfl) fun bs r h => by
    split at h
    · exact (run_moves_when_before ..).trans h
    · cases h) <|
  cok_none
theorem G_moves_Insert : GOK Try.prog (Γ_moves_Insert) :=
  GOK.ite ⟨en_moves_seek, sig_moves_seek (K_moves_Insert)⟩ <|
  GOK.ite ⟨en_slices_Clone_Move, sig_slices_Clone_Move⟩ <|
  GOK.ite ⟨en_slices_Insert_Move, sig_slices_Insert_Move⟩ <|
  GOK.nil
theorem sig_moves_Insert : SigOK Try.prog n_moves_Insert ⟨.pure, false, [1, 1, 1], 0, fun l => match l with | [[x0], [x1, x2, x3, x4, x5, x6]] => moves_Insert_s x0 x1 x2 x3 x4 x5 x6 | _ => none⟩ :=
  sig_pure (C := (Cx_moves_Insert)) (A := A_moves_Insert) (G_moves_Insert) (K_moves_Insert) mixedOrders (f := Try.f72) (by kernel_rfl) (by kernel_rfl) (by kernel_rfl) rfl fun bs r h => by
    split at h
    · exact (run_moves_Insert ..).trans h
    · cases h
theorem G_slices_Reverse_Move : GOK Try.prog (Γ_slices_Reverse_Move) :=
  GOK.nil
theorem sig_slices_Reverse_Move : SigOK Try.prog n_slices_Reverse_Move ⟨.inpl, false, [], 6, fun l => match l with | [[x0]] => slices_Reverse_Move_s x0 | _ => none⟩ :=
  sig_inpl (C := C0) (A := A_slices_Reverse_Move) (G_slices_Reverse_Move) cok_none mixedOrders (f := Try.f73) (by kernel_rfl) (by kernel_rfl) (fun x bs r h => by
    split at h
    · rename_i heq; cases heq; exact (run_slices_Reverse_Move ..).trans h
    · cases h)
theorem G_replay_Tree_Add : GOK Try.prog (Γ_replay_Tree_Add) :=
  GOK.ite ⟨en_replay_Tree_Log, sig_replay_Tree_Log⟩ <|
  GOK.ite ⟨en_moves_Insert, sig_moves_Insert⟩ <|
  GOK.ite ⟨en_undo_Undo, sig_undo_Undo⟩ <|
  GOK.ite ⟨en_slices_Reverse_Move, sig_slices_Reverse_Move⟩ <|
  GOK.ite ⟨en_undo_Run, sig_undo_Run⟩ <|
  GOK.nil
theorem sig_replay_Tree_Add : SigOK Try.prog n_replay_Tree_Add ⟨.obj [.imm, .imm, .buf 12], false, [1, 1], 0, fun l => match l with | [[x0, x1, x2], [x3, x4, x5, x6, x7, x8]] => replay_Tree_Add_s x0 x1 x2 x3 x4 x5 x6 x7 x8 | [[x0], [x3, x4, x5, x6, x7, x8]] => onNil x0 (replay_Tree_Add_nil x3 x4 x5 x6 x7 x8) | _ => none⟩ :=
  sig_obj (C := C0) (A := A_replay_Tree_Add) (G_replay_Tree_Add) cok_none mixedOrders (f := Try.f39) (by kernel_rfl) (by kernel_rfl) (by kernel_rfl) (fun vs bs r hl h => by
    split at h
    · rename_i heq; cases heq; exact (run_replay_Tree_Add ..).trans h
    · rename_i heq; cases heq; simp at hl
    · cases h) (fun bs r h => by
    split at h
    · rename_i heq; cases heq
    · rename_i heq; cases heq; exact (run_replay_Tree_Add_nil ..).trans h
    · cases h)
theorem G_replay_Tree_Rows : GOK Try.prog (Γ_replay_Tree_Rows) :=
  GOK.ite ⟨en_slices_Clone_Row, sig_slices_Clone_Row⟩ <|
  GOK.nil
theorem sig_replay_Tree_Rows : SigOK Try.prog n_replay_Tree_Rows ⟨.fresh, false, [1], 4, fun l => match l with | [[x0]] => replay_Tree_Rows_s x0 | _ => none⟩ :=
  sig_fresh (C := C0) (A := A_replay_Tree_Rows) (G_replay_Tree_Rows) cok_none mixedOrders (f := Try.f41) (by kernel_rfl) (by kernel_rfl) (fun bs r h => by
    split at h
    · exact (run_replay_Tree_Rows ..).trans h
    · cases h)
theorem G_replay_Tree_Steps : GOK Try.prog (Γ_replay_Tree_Steps) :=
  GOK.ite ⟨en_slices_Clone_Step, sig_slices_Clone_Step⟩ <|
  GOK.nil
theorem sig_replay_Tree_Steps : SigOK Try.prog n_replay_Tree_Steps ⟨.fresh, false, [1], 12, fun l => match l with | [[x0]] => replay_Tree_Steps_s x0 | _ => none⟩ :=
  sig_fresh (C := C0) (A := A_replay_Tree_Steps) (G_replay_Tree_Steps) cok_none mixedOrders (f := Try.f44) (by kernel_rfl) (by kernel_rfl) (fun bs r h => by
    split at h
    · exact (run_replay_Tree_Steps ..).trans h
    · cases h)
theorem G_replay_Tree_Base : GOK Try.prog (Γ_replay_Tree_Base) :=
  GOK.ite ⟨en_slices_Clone_Row, sig_slices_Clone_Row⟩ <|
  GOK.nil
theorem sig_replay_Tree_Base : SigOK Try.prog n_replay_Tree_Base ⟨.fresh, false, [1], 4, fun l => match l with | [[x0]] => replay_Tree_Base_s x0 | _ => none⟩ :=
  sig_fresh (C := C0) (A := A_replay_Tree_Base) (G_replay_Tree_Base) cok_none mixedOrders (f := Try.f46) (by kernel_rfl) (by kernel_rfl) (fun bs r h => by
    split at h
    · exact (run_replay_Tree_Base ..).trans h
    · cases h)
theorem G_law16_live_1 : GOK Try.prog (Γ_law16_live_1) :=
  GOK.nil
theorem K_law16_live : COK Try.prog (Cx_law16_live) :=
  cok_tbl en_law16_live_1 (fun caps cv w ok hcap => pure_of_run (C := C0) (A := A_law16_live_1) (G_law16_live_1) cok_none mixedOrders (f := Try.f70) (by kernel_rfl) (by kernel_rfl) hcap (by kernel_rfl) fun bs r h => by
    split at h
    · exact (run_law16_live_1 ..).trans h
    · cases h) <|
  cok_none
theorem G_law16_live : GOK Try.prog (Γ_law16_live) :=
  GOK.ite ⟨en_replay_New, sig_replay_New⟩ <|
  GOK.ite ⟨en_replay_Tree_Add, sig_replay_Tree_Add⟩ <|
  GOK.ite ⟨en_replay_Tree_Rows, sig_replay_Tree_Rows⟩ <|
  GOK.ite ⟨en_replay_Tree_Steps, sig_replay_Tree_Steps⟩ <|
  GOK.ite ⟨en_replay_Tree_Log, sig_replay_Tree_Log⟩ <|
  GOK.ite ⟨en_replay_Tree_Base, sig_replay_Tree_Base⟩ <|
  GOK.nil
theorem sig_law16_live : SigOK Try.prog n_law16_live ⟨.pure, true, [1], 0, fun l => match l with | [] => law16_live_s | _ => none⟩ :=
  sig_pure (C := (Cx_law16_live)) (A := A_law16_live) (G_law16_live) (K_law16_live) mixedOrders (f := Try.f37) (by kernel_rfl) (by kernel_rfl) (by kernel_rfl) rfl fun bs r h => by
    split at h
    · exact (run_law16_live ..).trans h
    · cases h
theorem G_ref02_Before : GOK Try.prog (Γ_ref02_Before) :=
  GOK.nil
theorem sig_ref02_Before : SigOK Try.prog n_ref02_Before ⟨.pure, true, [1], 0, fun l => match l with | [[x0, x1], [x2, x3]] => ref02_Before_s x0 x1 x2 x3 | _ => none⟩ :=
  sig_pure (C := C0) (A := A_ref02_Before) (G_ref02_Before) cok_none mixedOrders (f := Try.f49) (by kernel_rfl) (by kernel_rfl) (by kernel_rfl) rfl fun bs r h => by
    split at h
    · exact (run_ref02_Before ..).trans h
    · cases h
theorem G_ref13_Insert : GOK Try.prog (Γ_ref13_Insert) :=
  GOK.ite ⟨en_ref02_Before, sig_ref02_Before⟩ <|
  GOK.nil
theorem sig_ref13_Insert : SigOK Try.prog n_ref13_Insert ⟨.pure, false, [1, 1, 1], 0, fun l => match l with | [[x0], [x1, x2, x3, x4, x5, x6]] => ref13_Insert_s x0 x1 x2 x3 x4 x5 x6 | _ => none⟩ :=
  sig_pure (C := C0) (A := A_ref13_Insert) (G_ref13_Insert) cok_none mixedOrders (f := Try.f74) (by kernel_rfl) (by kernel_rfl) (by kernel_rfl) rfl fun bs r h => by
    split at h
    · exact (run_ref13_Insert ..).trans h
    · cases h
theorem G_ref16_Tree_Add : GOK Try.prog (Γ_ref16_Tree_Add) :=
  GOK.ite ⟨en_ref13_Insert, sig_ref13_Insert⟩ <|
  GOK.nil
theorem sig_ref16_Tree_Add : SigOK Try.prog n_ref16_Tree_Add ⟨.obj [.imm, .imm], false, [1, 1], 0, fun l => match l with | [[x0, x1], [x2, x3, x4, x5, x6, x7]] => ref16_Tree_Add_s x0 x1 x2 x3 x4 x5 x6 x7 | _ => none⟩ :=
  sig_obj (C := C0) (A := A_ref16_Tree_Add) (G_ref16_Tree_Add) cok_none mixedOrders (f := Try.f40) (by kernel_rfl) (by kernel_rfl) (by kernel_rfl) (fun vs bs r hl h => by
    split at h
    · rename_i heq; cases heq; exact (run_ref16_Tree_Add ..).trans h
    · cases h) (fun bs r h => by
    split at h
    · rename_i heq; cases heq
    · cases h)
theorem G_law16_ReplayScripts : GOK Try.prog (Γ_law16_ReplayScripts) :=
  GOK.ite ⟨en_ref12_Few, sig_ref12_Few⟩ <|
  GOK.ite ⟨en_ref13_Few, sig_ref13_Few⟩ <|
  GOK.ite ⟨en_ref12_May, sig_ref12_May⟩ <|
  GOK.ite ⟨en_law16_live, sig_law16_live⟩ <|
  GOK.ite ⟨en_replay_New, sig_replay_New⟩ <|
  GOK.ite ⟨en_replay_Tree_Add, sig_replay_Tree_Add⟩ <|
  GOK.ite ⟨en_ref16_Tree_Add, sig_ref16_Tree_Add⟩ <|
  GOK.ite ⟨en_replay_Tree_Rows, sig_replay_Tree_Rows⟩ <|
  GOK.ite ⟨en_ref16_Tree_Rows, sig_ref16_Tree_Rows⟩ <|
  GOK.ite ⟨en_ref12_Same, sig_ref12_Same⟩ <|
  GOK.ite ⟨en_replay_Tree_Log, sig_replay_Tree_Log⟩ <|
  GOK.ite ⟨en_ref13_Same, sig_ref13_Same⟩ <|
  GOK.ite ⟨en_replay_Tree_Steps, sig_replay_Tree_Steps⟩ <|
  GOK.ite ⟨en_ref16_Tree_Steps, sig_ref16_Tree_Steps⟩ <|
  GOK.ite ⟨en_ref15_Same, sig_ref15_Same⟩ <|
  GOK.ite ⟨en_replay_Tree_Base, sig_replay_Tree_Base⟩ <|
  GOK.nil
theorem sig_law16_ReplayScripts : SigOK Try.prog n_law16_ReplayScripts ⟨.pure, true, [1], 0, fun l => match l with | [[x0], [x1]] => law16_ReplayScripts_s x0 x1 | _ => none⟩ :=
  sig_pure (C := C0) (A := A_law16_ReplayScripts) (G_law16_ReplayScripts) cok_none mixedOrders (f := Try.f7) (by kernel_rfl) (by kernel_rfl) (by kernel_rfl) rfl fun bs r h => by
    split at h
    · exact (run_law16_ReplayScripts ..).trans h
    · cases h
theorem G_law16_ReplayNil : GOK Try.prog (Γ_law16_ReplayNil) :=
  GOK.ite ⟨en_law16_live, sig_law16_live⟩ <|
  GOK.ite ⟨en_replay_Tree_Add, sig_replay_Tree_Add⟩ <|
  GOK.ite ⟨en_replay_Tree_Rows, sig_replay_Tree_Rows⟩ <|
  GOK.ite ⟨en_replay_Tree_Log, sig_replay_Tree_Log⟩ <|
  GOK.ite ⟨en_replay_Tree_Steps, sig_replay_Tree_Steps⟩ <|
  GOK.ite ⟨en_replay_Tree_Base, sig_replay_Tree_Base⟩ <|
  GOK.nil
theorem sig_law16_ReplayNil : SigOK Try.prog n_law16_ReplayNil ⟨.pure, true, [1], 0, fun l => match l with | [[x0, x1, x2, x3, x4, x5]] => law16_ReplayNil_s x0 x1 x2 x3 x4 x5 | _ => none⟩ :=
  sig_pure (C := C0) (A := A_law16_ReplayNil) (G_law16_ReplayNil) cok_none mixedOrders (f := Try.f8) (by kernel_rfl) (by kernel_rfl) (by kernel_rfl) rfl fun bs r h => by
    split at h
    · exact (run_law16_ReplayNil ..).trans h
    · cases h
theorem G_fold_All : GOK Try.prog (Γ_fold_All) :=
  GOK.ite ⟨en_fold_Do, sig_fold_Do⟩ <|
  GOK.nil
theorem sig_fold_All : SigOK Try.prog n_fold_All ⟨.pure, false, [1], 0, fun l => match l with | [[x0], [x1]] => fold_All_s x0 x1 | _ => none⟩ :=
  sig_pure (C := C0) (A := A_fold_All) (G_fold_All) cok_none mixedOrders (f := Try.f47) (by kernel_rfl) (by kernel_rfl) (by kernel_rfl) rfl fun bs r h => by
    split at h
    · exact (run_fold_All ..).trans h
    · cases h
theorem G_law16_all : GOK Try.prog (Γ_law16_all) :=
  GOK.ite ⟨en_replay_New, sig_replay_New⟩ <|
  GOK.ite ⟨en_replay_Tree_Add, sig_replay_Tree_Add⟩ <|
  GOK.nil
theorem sig_law16_all : SigOK Try.prog n_law16_all ⟨.mko [.imm, .imm, .buf 12], false, [1], 0, fun l => match l with | [[x0], [x1]] => law16_all_s x0 x1 | _ => none⟩ :=
  sig_mko (C := C0) (A := A_law16_all) (G_law16_all) cok_none mixedOrders (f := Try.f48) (by kernel_rfl) (by kernel_rfl) (fun bs r h => by
    split at h
    · exact (run_law16_all ..).trans h
    · cases h)
theorem G_law16_ReplayOrder : GOK Try.prog (Γ_law16_ReplayOrder) :=
  GOK.ite ⟨en_ref12_Few, sig_ref12_Few⟩ <|
  GOK.ite ⟨en_ref13_Few, sig_ref13_Few⟩ <|
  GOK.ite ⟨en_ref12_May, sig_ref12_May⟩ <|
  GOK.ite ⟨en_law16_live, sig_law16_live⟩ <|
  GOK.ite ⟨en_ref13_Alike, sig_ref13_Alike⟩ <|
  GOK.ite ⟨en_law16_all, sig_law16_all⟩ <|
  GOK.ite ⟨en_replay_Tree_Rows, sig_replay_Tree_Rows⟩ <|
  GOK.ite ⟨en_ref12_Same, sig_ref12_Same⟩ <|
  GOK.ite ⟨en_replay_Tree_Log, sig_replay_Tree_Log⟩ <|
  GOK.ite ⟨en_ref13_Same, sig_ref13_Same⟩ <|
  GOK.ite ⟨en_replay_Tree_Steps, sig_replay_Tree_Steps⟩ <|
  GOK.ite ⟨en_ref15_Same, sig_ref15_Same⟩ <|
  GOK.ite ⟨en_ref02_Before, sig_ref02_Before⟩ <|
  GOK.ite ⟨en_fold_All, sig_fold_All⟩ <|
  GOK.nil
theorem sig_law16_ReplayOrder : SigOK Try.prog n_law16_ReplayOrder ⟨.pure, true, [1], 0, fun l => match l with | [[x0], [x1], [x2]] => law16_ReplayOrder_s x0 x1 x2 | _ => none⟩ :=
  sig_pure (C := C0) (A := A_law16_ReplayOrder) (G_law16_ReplayOrder) cok_none mixedOrders (f := Try.f10) (by kernel_rfl) (by kernel_rfl) (by kernel_rfl) rfl fun bs r h => by
    split at h
    · exact (run_law16_ReplayOrder ..).trans h
    · cases h
theorem G_ref13_Time : GOK Try.prog (Γ_ref13_Time) :=
  GOK.nil
theorem sig_ref13_Time : SigOK Try.prog n_ref13_Time ⟨.pure, true, [1], 0, fun l => match l with | [[x0, x1]] => ref13_Time_s x0 x1 | _ => none⟩ :=
  sig_pure (C := C0) (A := A_ref13_Time) (G_ref13_Time) cok_none mixedOrders (f := Try.f76) (by kernel_rfl) (by kernel_rfl) (by kernel_rfl) rfl fun bs r h => by
    split at h
    · exact (run_ref13_Time ..).trans h
    · cases h
theorem G_ref13_One : GOK Try.prog (Γ_ref13_One) :=
  GOK.ite ⟨en_ref13_Time, sig_ref13_Time⟩ <|
  GOK.ite ⟨en_ref13_Row, sig_ref13_Row⟩ <|
  GOK.ite ⟨en_ref12_One, sig_ref12_One⟩ <|
  GOK.nil
theorem sig_ref13_One : SigOK Try.prog n_ref13_One ⟨.pure, true, [1], 0, fun l => match l with | [[x0, x1, x2, x3, x4, x5]] => ref13_One_s x0 x1 x2 x3 x4 x5 | _ => none⟩ :=
  sig_pure (C := C0) (A := A_ref13_One) (G_ref13_One) cok_none mixedOrders (f := Try.f52) (by kernel_rfl) (by kernel_rfl) (by kernel_rfl) rfl fun bs r h => by
    split at h
    · exact (run_ref13_One ..).trans h
    · cases h
theorem G_ref13_May : GOK Try.prog (Γ_ref13_May) :=
  GOK.ite ⟨en_ref13_One, sig_ref13_One⟩ <|
  GOK.ite ⟨en_ref02_Before, sig_ref02_Before⟩ <|
  GOK.nil
theorem sig_ref13_May : SigOK Try.prog n_ref13_May ⟨.pure, true, [1], 0, fun l => match l with | [[x0]] => ref13_May_s x0 | _ => none⟩ :=
  sig_pure (C := C0) (A := A_ref13_May) (G_ref13_May) cok_none mixedOrders (f := Try.f50) (by kernel_rfl) (by kernel_rfl) (by kernel_rfl) rfl fun bs r h => by
    split at h
    · exact (run_ref13_May ..).trans h
    · cases h
theorem G_ref13_Since : GOK Try.prog (Γ_ref13_Since) :=
  GOK.ite ⟨en_ref02_Before, sig_ref02_Before⟩ <|
  GOK.nil
theorem sig_ref13_Since : SigOK Try.prog n_ref13_Since ⟨.pure, false, [1], 0, fun l => match l with | [[x0], [x1, x2]] => ref13_Since_s x0 x1 x2 | _ => none⟩ :=
  sig_pure (C := C0) (A := A_ref13_Since) (G_ref13_Since) cok_none mixedOrders (f := Try.f51) (by kernel_rfl) (by kernel_rfl) (by kernel_rfl) rfl fun bs r h => by
    split at h
    · exact (run_ref13_Since ..).trans h
    · cases h
theorem G_law16_ReplayParts : GOK Try.prog (Γ_law16_ReplayParts) :=
  GOK.ite ⟨en_ref12_Few, sig_ref12_Few⟩ <|
  GOK.ite ⟨en_ref13_Few, sig_ref13_Few⟩ <|
  GOK.ite ⟨en_ref12_May, sig_ref12_May⟩ <|
  GOK.ite ⟨en_ref13_May, sig_ref13_May⟩ <|
  GOK.ite ⟨en_law16_live, sig_law16_live⟩ <|
  GOK.ite ⟨en_law16_all, sig_law16_all⟩ <|
  GOK.ite ⟨en_ref13_Since, sig_ref13_Since⟩ <|
  GOK.ite ⟨en_fold_All, sig_fold_All⟩ <|
  GOK.ite ⟨en_replay_New, sig_replay_New⟩ <|
  GOK.ite ⟨en_replay_Tree_Add, sig_replay_Tree_Add⟩ <|
  GOK.ite ⟨en_replay_Tree_Rows, sig_replay_Tree_Rows⟩ <|
  GOK.ite ⟨en_ref12_Same, sig_ref12_Same⟩ <|
  GOK.ite ⟨en_replay_Tree_Log, sig_replay_Tree_Log⟩ <|
  GOK.ite ⟨en_ref13_Same, sig_ref13_Same⟩ <|
  GOK.nil
theorem sig_law16_ReplayParts : SigOK Try.prog n_law16_ReplayParts ⟨.pure, true, [1], 0, fun l => match l with | [[x0], [x1], [x2, x3]] => law16_ReplayParts_s x0 x1 x2 x3 | _ => none⟩ :=
  sig_pure (C := C0) (A := A_law16_ReplayParts) (G_law16_ReplayParts) cok_none mixedOrders (f := Try.f11) (by kernel_rfl) (by kernel_rfl) (by kernel_rfl) rfl fun bs r h => by
    split at h
    · exact (run_law16_ReplayParts ..).trans h
    · cases h
theorem G_law16_ReplayTells : GOK Try.prog (Γ_law16_ReplayTells) :=
  GOK.ite ⟨en_ref12_Few, sig_ref12_Few⟩ <|
  GOK.ite ⟨en_ref13_Few, sig_ref13_Few⟩ <|
  GOK.ite ⟨en_ref12_May, sig_ref12_May⟩ <|
  GOK.ite ⟨en_ref13_One, sig_ref13_One⟩ <|
  GOK.ite ⟨en_law16_live, sig_law16_live⟩ <|
  GOK.ite ⟨en_law16_all, sig_law16_all⟩ <|
  GOK.ite ⟨en_replay_Tree_Rows, sig_replay_Tree_Rows⟩ <|
  GOK.ite ⟨en_replay_Tree_Log, sig_replay_Tree_Log⟩ <|
  GOK.ite ⟨en_ref02_Before, sig_ref02_Before⟩ <|
  GOK.ite ⟨en_replay_Tree_Add, sig_replay_Tree_Add⟩ <|
  GOK.ite ⟨en_ref12_Same, sig_ref12_Same⟩ <|
  GOK.ite ⟨en_tree_May, sig_tree_May⟩ <|
  GOK.ite ⟨en_replay_Tree_Steps, sig_replay_Tree_Steps⟩ <|
  GOK.nil
theorem sig_law16_ReplayTells : SigOK Try.prog n_law16_ReplayTells ⟨.pure, true, [1], 0, fun l => match l with | [[x0], [x1], [x2, x3, x4, x5, x6, x7]] => law16_ReplayTells_s x0 x1 x2 x3 x4 x5 x6 x7 | _ => none⟩ :=
  sig_pure (C := C0) (A := A_law16_ReplayTells) (G_law16_ReplayTells) cok_none mixedOrders (f := Try.f12) (by kernel_rfl) (by kernel_rfl) (by kernel_rfl) rfl fun bs r h => by
    split at h
    · exact (run_law16_ReplayTells ..).trans h
    · cases h
end Go.AM

/- The contracts of all functions that are reached. -/
import Derived.Test.YtcnafacmpplhbaaCk
import Derived.Test.YtcnafacmpplhbaaWk
import Derived.Test.YtcnafacmpplhbaaHd
import Derived.Test.YtcnafacmpplhbaaHm
import Derived.Test.YtcnafacmpplhbaaHn
import Derived.Test.YtcnafacmpplhbaaAe
set_option linter.unusedVariables false
set_option linter.unusedSimpArgs false
set_option maxRecDepth 100000
namespace Go.AM
open Go.Proofs
theorem mixedOrders : Try.prog.follows .mixedOrders = true := by kernel_rfl
theorem en_law14_FoldDoes : Enters Try.prog n_law14_FoldDoes := enters_of (f := Try.f3) (by kernel_rfl) (by kernel_rfl) (by kernel_rfl)
theorem en_law14_FoldAll : Enters Try.prog n_law14_FoldAll := enters_of (f := Try.f4) (by kernel_rfl) (by kernel_rfl) (by kernel_rfl)
theorem en_law14_FoldParts : Enters Try.prog n_law14_FoldParts := enters_of (f := Try.f5) (by kernel_rfl) (by kernel_rfl) (by kernel_rfl)
theorem en_law14_FoldOthers : Enters Try.prog n_law14_FoldOthers := enters_of (f := Try.f6) (by kernel_rfl) (by kernel_rfl) (by kernel_rfl)
theorem en_law14_FoldTree : Enters Try.prog n_law14_FoldTree := enters_of (f := Try.f7) (by kernel_rfl) (by kernel_rfl) (by kernel_rfl)
theorem en_ref12_Few : Enters Try.prog n_ref12_Few := enters_of (f := Try.f15) (by kernel_rfl) (by kernel_rfl) (by kernel_rfl)
theorem en_law14_live : Enters Try.prog n_law14_live := enters_of (f := Try.f16) (by kernel_rfl) (by kernel_rfl) (by kernel_rfl)
theorem en_fold_Do : Enters Try.prog n_fold_Do := enters_of (f := Try.f17) (by kernel_rfl) (by kernel_rfl) (by kernel_rfl)
theorem en_ref14_Do : Enters Try.prog n_ref14_Do := enters_of (f := Try.f18) (by kernel_rfl) (by kernel_rfl) (by kernel_rfl)
theorem en_ref12_Same : Enters Try.prog n_ref12_Same := enters_of (f := Try.f19) (by kernel_rfl) (by kernel_rfl) (by kernel_rfl)
theorem en_fold_Barred : Enters Try.prog n_fold_Barred := enters_of (f := Try.f20) (by kernel_rfl) (by kernel_rfl) (by kernel_rfl)
theorem en_ref14_Barred : Enters Try.prog n_ref14_Barred := enters_of (f := Try.f21) (by kernel_rfl) (by kernel_rfl) (by kernel_rfl)
theorem en_ref13_Few : Enters Try.prog n_ref13_Few := enters_of (f := Try.f22) (by kernel_rfl) (by kernel_rfl) (by kernel_rfl)
theorem en_fold_All : Enters Try.prog n_fold_All := enters_of (f := Try.f23) (by kernel_rfl) (by kernel_rfl) (by kernel_rfl)
theorem en_ref14_All : Enters Try.prog n_ref14_All := enters_of (f := Try.f24) (by kernel_rfl) (by kernel_rfl) (by kernel_rfl)
theorem en_ref05_Same : Enters Try.prog n_ref05_Same := enters_of (f := Try.f25) (by kernel_rfl) (by kernel_rfl) (by kernel_rfl)
theorem en_fold_Nodes : Enters Try.prog n_fold_Nodes := enters_of (f := Try.f26) (by kernel_rfl) (by kernel_rfl) (by kernel_rfl)
theorem en_ref14_Nodes : Enters Try.prog n_ref14_Nodes := enters_of (f := Try.f27) (by kernel_rfl) (by kernel_rfl) (by kernel_rfl)
theorem en_ref12_May : Enters Try.prog n_ref12_May := enters_of (f := Try.f28) (by kernel_rfl) (by kernel_rfl) (by kernel_rfl)
theorem en_ref13_One : Enters Try.prog n_ref13_One := enters_of (f := Try.f29) (by kernel_rfl) (by kernel_rfl) (by kernel_rfl)
theorem en_tree_Find : Enters Try.prog n_tree_Find := enters_of (f := Try.f30) (by kernel_rfl) (by kernel_rfl) (by kernel_rfl)
theorem en_ref12_Alike : Enters Try.prog n_ref12_Alike := enters_of (f := Try.f31) (by kernel_rfl) (by kernel_rfl) (by kernel_rfl)
theorem en_tree_Above : Enters Try.prog n_tree_Above := enters_of (f := Try.f32) (by kernel_rfl) (by kernel_rfl) (by kernel_rfl)
theorem en_ref13_Row : Enters Try.prog n_ref13_Row := enters_of (f := Try.f33) (by kernel_rfl) (by kernel_rfl) (by kernel_rfl)
theorem en_tree_May : Enters Try.prog n_tree_May := enters_of (f := Try.f34) (by kernel_rfl) (by kernel_rfl) (by kernel_rfl)
theorem en_tree_One : Enters Try.prog n_tree_One := enters_of (f := Try.f36) (by kernel_rfl) (by kernel_rfl) (by kernel_rfl)
theorem en_ref12_One : Enters Try.prog n_ref12_One := enters_of (f := Try.f37) (by kernel_rfl) (by kernel_rfl) (by kernel_rfl)
theorem en_ref12_Find : Enters Try.prog n_ref12_Find := enters_of (f := Try.f38) (by kernel_rfl) (by kernel_rfl) (by kernel_rfl)
theorem en_tree_Set : Enters Try.prog n_tree_Set := enters_of (f := Try.f44) (by kernel_rfl) (by kernel_rfl) (by kernel_rfl)
theorem en_ref12_Set : Enters Try.prog n_ref12_Set := enters_of (f := Try.f45) (by kernel_rfl) (by kernel_rfl) (by kernel_rfl)
theorem en_ref12_Above : Enters Try.prog n_ref12_Above := enters_of (f := Try.f46) (by kernel_rfl) (by kernel_rfl) (by kernel_rfl)
theorem en_moves_Row : Enters Try.prog n_moves_Row := enters_of (f := Try.f52) (by kernel_rfl) (by kernel_rfl) (by kernel_rfl)
theorem en_ref14_put : Enters Try.prog n_ref14_put := enters_of (f := Try.f55) (by kernel_rfl) (by kernel_rfl) (by kernel_rfl)
theorem en_ref13_Time : Enters Try.prog n_ref13_Time := enters_of (f := Try.f56) (by kernel_rfl) (by kernel_rfl) (by kernel_rfl)
theorem en_tree_place : Enters Try.prog n_tree_place := enters_of (f := Try.f57) (by kernel_rfl) (by kernel_rfl) (by kernel_rfl)
theorem en_ref01_Same : Enters Try.prog n_ref01_Same := enters_of (f := Try.f58) (by kernel_rfl) (by kernel_rfl) (by kernel_rfl)
theorem en_word_Valid : Enters Try.prog n_word_Valid := enters_of (f := Try.f61) (by kernel_rfl) (by kernel_rfl) (by kernel_rfl)
theorem en_ref04_Valid : Enters Try.prog n_ref04_Valid := enters_of (f := Try.f62) (by kernel_rfl) (by kernel_rfl) (by kernel_rfl)
theorem en_ref12_place : Enters Try.prog n_ref12_place := enters_of (f := Try.f63) (by kernel_rfl) (by kernel_rfl) (by kernel_rfl)
theorem en_slices_Delete_Row : Enters Try.prog n_slices_Delete_Row := enters_of (f := Try.f67) (by kernel_rfl) (by kernel_rfl) (by kernel_rfl)
theorem en_slices_Clone_Row : Enters Try.prog n_slices_Clone_Row := enters_of (f := Try.f68) (by kernel_rfl) (by kernel_rfl) (by kernel_rfl)
theorem en_slices_IndexFunc_Row : Enters Try.prog n_slices_IndexFunc_Row := enters_of (f := Try.f70) (by kernel_rfl) (by kernel_rfl) (by kernel_rfl)
theorem en_tree_Set_1 : Enters Try.prog n_tree_Set_1 := enters_of (f := Try.f71) (by kernel_rfl) (by kernel_rfl) (by kernel_rfl)
theorem en_slices_Insert_Row : Enters Try.prog n_slices_Insert_Row := enters_of (f := Try.f72) (by kernel_rfl) (by kernel_rfl) (by kernel_rfl)
theorem en_tree_place_1 : Enters Try.prog n_tree_place_1 := enters_of (f := Try.f81) (by kernel_rfl) (by kernel_rfl) (by kernel_rfl)
theorem en_ref01_Bits : Enters Try.prog n_ref01_Bits := enters_of (f := Try.f82) (by kernel_rfl) (by kernel_rfl) (by kernel_rfl)
theorem en_word_signs : Enters Try.prog n_word_signs := enters_of (f := Try.f84) (by kernel_rfl) (by kernel_rfl) (by kernel_rfl)
theorem en_ref04_First : Enters Try.prog n_ref04_First := enters_of (f := Try.f85) (by kernel_rfl) (by kernel_rfl) (by kernel_rfl)
theorem en_ref01_None : Enters Try.prog n_ref01_None := enters_of (f := Try.f101) (by kernel_rfl) (by kernel_rfl) (by kernel_rfl)
theorem en_ref01_Minus : Enters Try.prog n_ref01_Minus := enters_of (f := Try.f102) (by kernel_rfl) (by kernel_rfl) (by kernel_rfl)
theorem en_ref01_top : Enters Try.prog n_ref01_top := enters_of (f := Try.f103) (by kernel_rfl) (by kernel_rfl) (by kernel_rfl)
theorem en_word_head : Enters Try.prog n_word_head := enters_of (f := Try.f104) (by kernel_rfl) (by kernel_rfl) (by kernel_rfl)
theorem en_ref04_sign : Enters Try.prog n_ref04_sign := enters_of (f := Try.f105) (by kernel_rfl) (by kernel_rfl) (by kernel_rfl)
theorem en_ref04_in : Enters Try.prog n_ref04_in := enters_of (f := Try.f126) (by kernel_rfl) (by kernel_rfl) (by kernel_rfl)
theorem sig_tree_Above : SigOK Try.prog n_tree_Above ⟨.pure, true, [1], 0, fun l => match l with | [[x0], [x1], [x2]] => tree_Above_s x0 x1 x2 | _ => none⟩ :=
  sig_of_above fun w A b off cap ps ss fs hA hlt hmax hwf hat x y hy => callsIn_wide.1 (above_in 1 (Nat.le_refl _) w A b off cap ps ss fs hA hlt hmax hwf hat x y hy)
theorem sig_fold_Nodes : SigOK Try.prog n_fold_Nodes ⟨.pure, false, [1], 0, fun l => match l with | [[x0], [x1]] => fold_Nodes_s x0 x1 | _ => none⟩ :=
  sig_of_nodes fun w A b off cap ps ss fs hA hlt hmax hwf hat A2 b2 off2 cap2 qs hA2 hlt2 hmax2 hwf2 hat2 => callsIn_wide.1 ((nodes_in w A b off cap ps ss fs hA hlt hmax hwf hat A2 b2 off2 cap2 qs hA2 hlt2 hmax2 hwf2 hat2).mono fun e W h => by obtain ⟨v, zs, B, h1, h2, h3, h4, h5⟩ := h; exact ⟨v, zs, B, 3, h1, h2, h3, h4, h5⟩)
theorem G_word_head : GOK Try.prog (Γ_word_head) :=
  GOK.nil
theorem sig_word_head : SigOK Try.prog n_word_head ⟨.pure, true, [1, 1, 1, 1], 0, fun l => match l with | [[x0]] => word_head_s x0 | _ => none⟩ :=
  sig_pure (C := C0) (A := A_word_head) (G_word_head) cok_none mixedOrders (f := Try.f104) (by kernel_rfl) (by kernel_rfl) (by kernel_rfl) rfl fun bs r h => by
    split at h
    · exact (run_word_head ..).trans h
    · cases h
theorem G_word_signs : GOK Try.prog (Γ_word_signs) :=
  GOK.ite ⟨en_word_head, sig_word_head⟩ <|
  GOK.nil
theorem sig_word_signs : SigOK Try.prog n_word_signs ⟨.pure, true, [1, 1], 0, fun l => match l with | [[x0]] => word_signs_s x0 | _ => none⟩ :=
  sig_pure (C := C0) (A := A_word_signs) (G_word_signs) cok_none mixedOrders (f := Try.f84) (by kernel_rfl) (by kernel_rfl) (by kernel_rfl) rfl fun bs r h => by
    split at h
    · exact (run_word_signs ..).trans h
    · cases h
theorem G_word_Valid : GOK Try.prog (Γ_word_Valid) :=
  GOK.ite ⟨en_word_signs, sig_word_signs⟩ <|
  GOK.nil
theorem sig_word_Valid : SigOK Try.prog n_word_Valid ⟨.pure, true, [1], 0, fun l => match l with | [[x0]] => word_Valid_s x0 | _ => none⟩ :=
  sig_pure (C := C0) (A := A_word_Valid) (G_word_Valid) cok_none mixedOrders (f := Try.f61) (by kernel_rfl) (by kernel_rfl) (by kernel_rfl) rfl fun bs r h => by
    split at h
    · exact (run_word_Valid ..).trans h
    · cases h
theorem G_tree_One : GOK Try.prog (Γ_tree_One) :=
  GOK.ite ⟨en_word_Valid, sig_word_Valid⟩ <|
  GOK.nil
theorem sig_tree_One : SigOK Try.prog n_tree_One ⟨.pure, true, [1], 0, fun l => match l with | [[x0, x1, x2, x3]] => tree_One_s x0 x1 x2 x3 | _ => none⟩ :=
  sig_pure (C := C0) (A := A_tree_One) (G_tree_One) cok_none mixedOrders (f := Try.f36) (by kernel_rfl) (by kernel_rfl) (by kernel_rfl) rfl fun bs r h => by
    split at h
    · exact (run_tree_One ..).trans h
    · cases h
theorem sig_tree_May : SigOK Try.prog n_tree_May ⟨.pure, true, [1], 0, fun l => match l with | [[x0]] => tree_May_s x0 | _ => none⟩ :=
  sig_of_may (O := (fun l => match l with | [[x0, x1, x2, x3]] => tree_One_s x0 x1 x2 x3 | _ => none)) sig_tree_One fun w A b off cap ps ss fs ob hA hlt hmax hwf hat hone => callsIn_wide.1 (may_in 1 (Nat.le_refl _) w A b off cap ps ss fs ob hA hlt hmax hwf hat hone)
theorem G_ref12_Few : GOK Try.prog (Γ_ref12_Few) :=
  GOK.nil
theorem sig_ref12_Few : SigOK Try.prog n_ref12_Few ⟨.pure, true, [1], 0, fun l => match l with | [[x0]] => ref12_Few_s x0 | _ => none⟩ :=
  sig_pure (C := C0) (A := A_ref12_Few) (G_ref12_Few) cok_none mixedOrders (f := Try.f15) (by kernel_rfl) (by kernel_rfl) (by kernel_rfl) rfl fun bs r h => by
    split at h
    · exact (run_ref12_Few ..).trans h
    · cases h
theorem G_fold_Barred : GOK Try.prog (Γ_fold_Barred) :=
  GOK.ite ⟨en_tree_Above, sig_tree_Above⟩ <|
  GOK.nil
theorem sig_fold_Barred : SigOK Try.prog n_fold_Barred ⟨.pure, true, [1], 0, fun l => match l with | [[x0], [x1, x2, x3, x4, x5, x6]] => fold_Barred_s x0 x1 x2 x3 x4 x5 x6 | _ => none⟩ :=
  sig_pure (C := C0) (A := A_fold_Barred) (G_fold_Barred) cok_none mixedOrders (f := Try.f20) (by kernel_rfl) (by kernel_rfl) (by kernel_rfl) rfl fun bs r h => by
    split at h
    · exact (run_fold_Barred ..).trans h
    · cases h
theorem G_moves_Row : GOK Try.prog (Γ_moves_Row) :=
  GOK.nil
theorem sig_moves_Row : SigOK Try.prog n_moves_Row ⟨.pure, true, [4], 0, fun l => match l with | [[x0, x1, x2, x3, x4, x5]] => moves_Row_s x0 x1 x2 x3 x4 x5 | _ => none⟩ :=
  sig_pure (C := C0) (A := A_moves_Row) (G_moves_Row) cok_none mixedOrders (f := Try.f52) (by kernel_rfl) (by kernel_rfl) (by kernel_rfl) rfl fun bs r h => by
    split at h
    · exact (run_moves_Row ..).trans h
    · cases h
theorem G_slices_IndexFunc_Row {C : IV → List Nat → List (List IV) → Option (List IV)} (hC : COK Try.prog C) : GOK Try.prog (Γ_slices_IndexFunc_Row C) :=
  GOK.nil
theorem sig_slices_IndexFunc_Row {C : IV → List Nat → List (List IV) → Option (List IV)} (hC : COK Try.prog C) : SigOK Try.prog n_slices_IndexFunc_Row ⟨.pure, true, [1], 0, fun l => match l with | [[x0], [x1]] => slices_IndexFunc_Row_s C x0 x1 | _ => none⟩ :=
  sig_pure (C := C) (A := A_slices_IndexFunc_Row) (G_slices_IndexFunc_Row hC) hC mixedOrders (f := Try.f70) (by kernel_rfl) (by kernel_rfl) (by kernel_rfl) rfl fun bs r h => by
    split at h
    · exact (run_slices_IndexFunc_Row C ..).trans h
    · cases h
theorem G_tree_place_1 : GOK Try.prog (Γ_tree_place_1) :=
  GOK.nil
theorem sig_tree_place_1 : SigOK Try.prog n_tree_place_1 ⟨.pure, true, [1], 0, fun l => match l with | [[x0, x1, x2, x3], [x4]] => tree_place_1_s x0 x1 x2 x3 x4 | _ => none⟩ :=
  sig_pure (C := C0) (A := A_tree_place_1) (G_tree_place_1) cok_none mixedOrders (f := Try.f81) (by kernel_rfl) (by kernel_rfl) (by kernel_rfl) rfl fun bs r h => by
    split at h
    · exact (run_tree_place_1 ..).trans h
    · cases h
theorem K_tree_place : COK Try.prog (Cx_tree_place) :=
  cok_tbl en_tree_place_1 (fun caps cv w ok hcap => pure_of_run (C := C0) (A := A_tree_place_1) (G_tree_place_1) cok_none mixedOrders (f := Try.f81) (by kernel_rfl) (by kernel_rfl) hcap (by kernel_rfl) fun bs r h => by
    split at h
    · exact (run_tree_place_1 ..).trans h
    · cases h) <|
  cok_none
theorem G_tree_place : GOK Try.prog (Γ_tree_place) :=
  GOK.ite ⟨en_slices_IndexFunc_Row, sig_slices_IndexFunc_Row (K_tree_place)⟩ <|
  GOK.nil
theorem sig_tree_place : SigOK Try.prog n_tree_place ⟨.pure, true, [1, 1], 0, fun l => match l with | [[x0], [x1]] => tree_place_s x0 x1 | _ => none⟩ :=
  sig_pure (C := (Cx_tree_place)) (A := A_tree_place) (G_tree_place) (K_tree_place) mixedOrders (f := Try.f57) (by kernel_rfl) (by kernel_rfl) (by kernel_rfl) rfl fun bs r h => by
    split at h
    · exact (run_tree_place ..).trans h
    · cases h
theorem G_tree_Set_1 : GOK Try.prog (Γ_tree_Set_1) :=
  GOK.nil
theorem sig_tree_Set_1 : SigOK Try.prog n_tree_Set_1 ⟨.pure, true, [1], 0, fun l => match l with | [[x0, x1, x2, x3], [x4]] => tree_Set_1_s x0 x1 x2 x3 x4 | _ => none⟩ :=
  sig_pure (C := C0) (A := A_tree_Set_1) (G_tree_Set_1) cok_none mixedOrders (f := Try.f71) (by kernel_rfl) (by kernel_rfl) (by kernel_rfl) rfl fun bs r h => by
    split at h
    · exact (run_tree_Set_1 ..).trans h
    · cases h
theorem K_tree_Set : COK Try.prog (Cx_tree_Set) :=
  cok_tbl en_tree_Set_1 (fun caps cv w ok hcap => pure_of_run (C := C0) (A := A_tree_Set_1) (G_tree_Set_1) cok_none mixedOrders (f := Try.f71) (by kernel_rfl) (by kernel_rfl) hcap (by kernel_rfl) fun bs r h => by
    split at h
    · exact (run_tree_Set_1 ..).trans h
    · cases h) <|
  cok_none
theorem G_tree_Set : GOK Try.prog (Γ_tree_Set) :=
  GOK.ite ⟨en_slices_Clone_Row, sig_slices_Clone_Row⟩ <|
  GOK.ite ⟨en_tree_place, sig_tree_place⟩ <|
  GOK.ite ⟨en_slices_IndexFunc_Row, sig_slices_IndexFunc_Row (K_tree_Set)⟩ <|
  GOK.ite ⟨en_slices_Insert_Row, sig_slices_Insert_Row⟩ <|
  GOK.nil
theorem sig_tree_Set : SigOK Try.prog n_tree_Set ⟨.pure, false, [1], 0, fun l => match l with | [[x0], [x1, x2, x3, x4]] => tree_Set_s x0 x1 x2 x3 x4 | _ => none⟩ :=
  sig_pure (C := (Cx_tree_Set)) (A := A_tree_Set) (G_tree_Set) (K_tree_Set) mixedOrders (f := Try.f44) (by kernel_rfl) (by kernel_rfl) (by kernel_rfl) rfl fun bs r h => by
    split at h
    · exact (run_tree_Set ..).trans h
    · cases h
theorem G_fold_Do : GOK Try.prog (Γ_fold_Do) :=
  GOK.ite ⟨en_fold_Barred, sig_fold_Barred⟩ <|
  GOK.ite ⟨en_moves_Row, sig_moves_Row⟩ <|
  GOK.ite ⟨en_tree_Set, sig_tree_Set⟩ <|
  GOK.nil
theorem sig_fold_Do : SigOK Try.prog n_fold_Do ⟨.pure, false, [1, 1], 0, fun l => match l with | [[x0], [x1, x2, x3, x4, x5, x6]] => fold_Do_s x0 x1 x2 x3 x4 x5 x6 | _ => none⟩ :=
  sig_pure (C := C0) (A := A_fold_Do) (G_fold_Do) cok_none mixedOrders (f := Try.f17) (by kernel_rfl) (by kernel_rfl) (by kernel_rfl) rfl fun bs r h => by
    split at h
    · exact (run_fold_Do ..).trans h
    · cases h
theorem G_fold_All : GOK Try.prog (Γ_fold_All) :=
  GOK.ite ⟨en_fold_Do, sig_fold_Do⟩ <|
  GOK.nil
theorem sig_fold_All : SigOK Try.prog n_fold_All ⟨.pure, false, [1], 0, fun l => match l with | [[x0], [x1]] => fold_All_s x0 x1 | _ => none⟩ :=
  sig_pure (C := C0) (A := A_fold_All) (G_fold_All) cok_none mixedOrders (f := Try.f23) (by kernel_rfl) (by kernel_rfl) (by kernel_rfl) rfl fun bs r h => by
    split at h
    · exact (run_fold_All ..).trans h
    · cases h
theorem G_ref05_Same : GOK Try.prog (Γ_ref05_Same) :=
  GOK.nil
theorem sig_ref05_Same : SigOK Try.prog n_ref05_Same ⟨.pure, true, [1], 0, fun l => match l with | [[x0], [x1]] => ref05_Same_s x0 x1 | _ => none⟩ :=
  sig_pure (C := C0) (A := A_ref05_Same) (G_ref05_Same) cok_none mixedOrders (f := Try.f25) (by kernel_rfl) (by kernel_rfl) (by kernel_rfl) rfl fun bs r h => by
    split at h
    · exact (run_ref05_Same ..).trans h
    · cases h
theorem G_law14_live : GOK Try.prog (Γ_law14_live) :=
  GOK.ite ⟨en_fold_All, sig_fold_All⟩ <|
  GOK.ite ⟨en_fold_Do, sig_fold_Do⟩ <|
  GOK.ite ⟨en_fold_Barred, sig_fold_Barred⟩ <|
  GOK.ite ⟨en_fold_Nodes, sig_fold_Nodes⟩ <|
  GOK.ite ⟨en_ref05_Same, sig_ref05_Same⟩ <|
  GOK.nil
theorem sig_law14_live : SigOK Try.prog n_law14_live ⟨.pure, true, [1], 0, fun l => match l with | [] => law14_live_s | _ => none⟩ :=
  sig_pure (C := C0) (A := A_law14_live) (G_law14_live) cok_none mixedOrders (f := Try.f16) (by kernel_rfl) (by kernel_rfl) (by kernel_rfl) rfl fun bs r h => by
    split at h
    · exact (run_law14_live ..).trans h
    · cases h
theorem G_ref12_place : GOK Try.prog (Γ_ref12_place) :=
  GOK.nil
theorem sig_ref12_place : SigOK Try.prog n_ref12_place ⟨.pure, true, [1], 0, fun l => match l with | [[x0], [x1]] => ref12_place_s x0 x1 | _ => none⟩ :=
  sig_pure (C := C0) (A := A_ref12_place) (G_ref12_place) cok_none mixedOrders (f := Try.f63) (by kernel_rfl) (by kernel_rfl) (by kernel_rfl) rfl fun bs r h => by
    split at h
    · exact (run_ref12_place ..).trans h
    · cases h
theorem G_ref12_Find : GOK Try.prog (Γ_ref12_Find) :=
  GOK.ite ⟨en_ref12_place, sig_ref12_place⟩ <|
  GOK.nil
theorem sig_ref12_Find : SigOK Try.prog n_ref12_Find ⟨.pure, true, [4, 1], 0, fun l => match l with | [[x0], [x1]] => ref12_Find_s x0 x1 | _ => none⟩ :=
  sig_pure (C := C0) (A := A_ref12_Find) (G_ref12_Find) cok_none mixedOrders (f := Try.f38) (by kernel_rfl) (by kernel_rfl) (by kernel_rfl) rfl fun bs r h => by
    split at h
    · exact (run_ref12_Find ..).trans h
    · cases h
theorem G_ref12_Above : GOK Try.prog (Γ_ref12_Above) :=
  GOK.ite ⟨en_ref12_Find, sig_ref12_Find⟩ <|
  GOK.nil
theorem sig_ref12_Above : SigOK Try.prog n_ref12_Above ⟨.pure, true, [1], 0, fun l => match l with | [[x0], [x1], [x2]] => ref12_Above_s x0 x1 x2 | _ => none⟩ :=
  sig_pure (C := C0) (A := A_ref12_Above) (G_ref12_Above) cok_none mixedOrders (f := Try.f46) (by kernel_rfl) (by kernel_rfl) (by kernel_rfl) rfl fun bs r h => by
    split at h
    · exact (run_ref12_Above ..).trans h
    · cases h
theorem G_ref14_Barred : GOK Try.prog (Γ_ref14_Barred) :=
  GOK.ite ⟨en_ref12_Above, sig_ref12_Above⟩ <|
  GOK.nil
theorem sig_ref14_Barred : SigOK Try.prog n_ref14_Barred ⟨.pure, true, [1], 0, fun l => match l with | [[x0], [x1, x2, x3, x4, x5, x6]] => ref14_Barred_s x0 x1 x2 x3 x4 x5 x6 | _ => none⟩ :=
  sig_pure (C := C0) (A := A_ref14_Barred) (G_ref14_Barred) cok_none mixedOrders (f := Try.f21) (by kernel_rfl) (by kernel_rfl) (by kernel_rfl) rfl fun bs r h => by
    split at h
    · exact (run_ref14_Barred ..).trans h
    · cases h
theorem G_ref13_Row : GOK Try.prog (Γ_ref13_Row) :=
  GOK.nil
theorem sig_ref13_Row : SigOK Try.prog n_ref13_Row ⟨.pure, true, [4], 0, fun l => match l with | [[x0, x1, x2, x3, x4, x5]] => ref13_Row_s x0 x1 x2 x3 x4 x5 | _ => none⟩ :=
  sig_pure (C := C0) (A := A_ref13_Row) (G_ref13_Row) cok_none mixedOrders (f := Try.f33) (by kernel_rfl) (by kernel_rfl) (by kernel_rfl) rfl fun bs r h => by
    split at h
    · exact (run_ref13_Row ..).trans h
    · cases h
theorem G_ref12_Set : GOK Try.prog (Γ_ref12_Set) :=
  GOK.ite ⟨en_ref12_place, sig_ref12_place⟩ <|
  GOK.nil
theorem sig_ref12_Set : SigOK Try.prog n_ref12_Set ⟨.pure, false, [1], 0, fun l => match l with | [[x0], [x1, x2, x3, x4]] => ref12_Set_s x0 x1 x2 x3 x4 | _ => none⟩ :=
  sig_pure (C := C0) (A := A_ref12_Set) (G_ref12_Set) cok_none mixedOrders (f := Try.f45) (by kernel_rfl) (by kernel_rfl) (by kernel_rfl) rfl fun bs r h => by
    split at h
    · exact (run_ref12_Set ..).trans h
    · cases h
theorem G_ref14_Do : GOK Try.prog (Γ_ref14_Do) :=
  GOK.ite ⟨en_ref14_Barred, sig_ref14_Barred⟩ <|
  GOK.ite ⟨en_ref13_Row, sig_ref13_Row⟩ <|
  GOK.ite ⟨en_ref12_Set, sig_ref12_Set⟩ <|
  GOK.nil
theorem sig_ref14_Do : SigOK Try.prog n_ref14_Do ⟨.pure, false, [1, 1], 0, fun l => match l with | [[x0], [x1, x2, x3, x4, x5, x6]] => ref14_Do_s x0 x1 x2 x3 x4 x5 x6 | _ => none⟩ :=
  sig_pure (C := C0) (A := A_ref14_Do) (G_ref14_Do) cok_none mixedOrders (f := Try.f18) (by kernel_rfl) (by kernel_rfl) (by kernel_rfl) rfl fun bs r h => by
    split at h
    · exact (run_ref14_Do ..).trans h
    · cases h
theorem G_ref01_None : GOK Try.prog (Γ_ref01_None) :=
  GOK.nil
theorem sig_ref01_None : SigOK Try.prog n_ref01_None ⟨.pure, true, [1], 0, fun l => match l with | [] => ref01_None_s | _ => none⟩ :=
  sig_pure (C := C0) (A := A_ref01_None) (G_ref01_None) cok_none mixedOrders (f := Try.f101) (by kernel_rfl) (by kernel_rfl) (by kernel_rfl) rfl fun bs r h => by
    split at h
    · exact (run_ref01_None ..).trans h
    · cases h
theorem G_ref01_Minus : GOK Try.prog (Γ_ref01_Minus) :=
  GOK.nil
theorem sig_ref01_Minus : SigOK Try.prog n_ref01_Minus ⟨.pure, true, [1], 0, fun l => match l with | [[x0]] => ref01_Minus_s x0 | _ => none⟩ :=
  sig_pure (C := C0) (A := A_ref01_Minus) (G_ref01_Minus) cok_none mixedOrders (f := Try.f102) (by kernel_rfl) (by kernel_rfl) (by kernel_rfl) rfl fun bs r h => by
    split at h
    · exact (run_ref01_Minus ..).trans h
    · cases h
theorem G_ref01_top : GOK Try.prog (Γ_ref01_top) :=
  GOK.nil
theorem sig_ref01_top : SigOK Try.prog n_ref01_top ⟨.pure, true, [1], 0, fun l => match l with | [] => ref01_top_s | _ => none⟩ :=
  sig_pure (C := C0) (A := A_ref01_top) (G_ref01_top) cok_none mixedOrders (f := Try.f103) (by kernel_rfl) (by kernel_rfl) (by kernel_rfl) rfl fun bs r h => by
    split at h
    · exact (run_ref01_top ..).trans h
    · cases h
theorem G_ref01_Bits : GOK Try.prog (Γ_ref01_Bits) :=
  GOK.ite ⟨en_ref01_None, sig_ref01_None⟩ <|
  GOK.ite ⟨en_ref01_Minus, sig_ref01_Minus⟩ <|
  GOK.ite ⟨en_ref01_top, sig_ref01_top⟩ <|
  GOK.nil
theorem sig_ref01_Bits : SigOK Try.prog n_ref01_Bits ⟨.pure, true, [1], 0, fun l => match l with | [[x0]] => ref01_Bits_s x0 | _ => none⟩ :=
  sig_pure (C := C0) (A := A_ref01_Bits) (G_ref01_Bits) cok_none mixedOrders (f := Try.f82) (by kernel_rfl) (by kernel_rfl) (by kernel_rfl) rfl fun bs r h => by
    split at h
    · exact (run_ref01_Bits ..).trans h
    · cases h
theorem G_ref01_Same : GOK Try.prog (Γ_ref01_Same) :=
  GOK.ite ⟨en_ref01_Bits, sig_ref01_Bits⟩ <|
  GOK.nil
theorem sig_ref01_Same : SigOK Try.prog n_ref01_Same ⟨.pure, true, [1], 0, fun l => match l with | [[x0], [x1]] => ref01_Same_s x0 x1 | _ => none⟩ :=
  sig_pure (C := C0) (A := A_ref01_Same) (G_ref01_Same) cok_none mixedOrders (f := Try.f58) (by kernel_rfl) (by kernel_rfl) (by kernel_rfl) rfl fun bs r h => by
    split at h
    · exact (run_ref01_Same ..).trans h
    · cases h
theorem G_ref12_Alike : GOK Try.prog (Γ_ref12_Alike) :=
  GOK.ite ⟨en_ref01_Same, sig_ref01_Same⟩ <|
  GOK.nil
theorem sig_ref12_Alike : SigOK Try.prog n_ref12_Alike ⟨.pure, true, [1], 0, fun l => match l with | [[x0, x1, x2, x3], [x4, x5, x6, x7]] => ref12_Alike_s x0 x1 x2 x3 x4 x5 x6 x7 | _ => none⟩ :=
  sig_pure (C := C0) (A := A_ref12_Alike) (G_ref12_Alike) cok_none mixedOrders (f := Try.f31) (by kernel_rfl) (by kernel_rfl) (by kernel_rfl) rfl fun bs r h => by
    split at h
    · exact (run_ref12_Alike ..).trans h
    · cases h
theorem G_ref12_Same : GOK Try.prog (Γ_ref12_Same) :=
  GOK.ite ⟨en_ref12_Alike, sig_ref12_Alike⟩ <|
  GOK.nil
theorem sig_ref12_Same : SigOK Try.prog n_ref12_Same ⟨.pure, true, [1], 0, fun l => match l with | [[x0], [x1]] => ref12_Same_s x0 x1 | _ => none⟩ :=
  sig_pure (C := C0) (A := A_ref12_Same) (G_ref12_Same) cok_none mixedOrders (f := Try.f19) (by kernel_rfl) (by kernel_rfl) (by kernel_rfl) rfl fun bs r h => by
    split at h
    · exact (run_ref12_Same ..).trans h
    · cases h
theorem G_law14_FoldDoes : GOK Try.prog (Γ_law14_FoldDoes) :=
  GOK.ite ⟨en_ref12_Few, sig_ref12_Few⟩ <|
  GOK.ite ⟨en_law14_live, sig_law14_live⟩ <|
  GOK.ite ⟨en_fold_Do, sig_fold_Do⟩ <|
  GOK.ite ⟨en_ref14_Do, sig_ref14_Do⟩ <|
  GOK.ite ⟨en_ref12_Same, sig_ref12_Same⟩ <|
  GOK.ite ⟨en_fold_Barred, sig_fold_Barred⟩ <|
  GOK.ite ⟨en_ref14_Barred, sig_ref14_Barred⟩ <|
  GOK.nil
theorem sig_law14_FoldDoes : SigOK Try.prog n_law14_FoldDoes ⟨.pure, true, [1], 0, fun l => match l with | [[x0], [x1, x2, x3, x4, x5, x6]] => law14_FoldDoes_s x0 x1 x2 x3 x4 x5 x6 | _ => none⟩ :=
  sig_pure (C := C0) (A := A_law14_FoldDoes) (G_law14_FoldDoes) cok_none mixedOrders (f := Try.f3) (by kernel_rfl) (by kernel_rfl) (by kernel_rfl) rfl fun bs r h => by
    split at h
    · exact (run_law14_FoldDoes ..).trans h
    · cases h
theorem G_ref13_Few : GOK Try.prog (Γ_ref13_Few) :=
  GOK.nil
theorem sig_ref13_Few : SigOK Try.prog n_ref13_Few ⟨.pure, true, [1], 0, fun l => match l with | [[x0], [x1]] => ref13_Few_s x0 x1 | _ => none⟩ :=
  sig_pure (C := C0) (A := A_ref13_Few) (G_ref13_Few) cok_none mixedOrders (f := Try.f22) (by kernel_rfl) (by kernel_rfl) (by kernel_rfl) rfl fun bs r h => by
    split at h
    · exact (run_ref13_Few ..).trans h
    · cases h
theorem G_ref14_All : GOK Try.prog (Γ_ref14_All) :=
  GOK.ite ⟨en_ref14_Do, sig_ref14_Do⟩ <|
  GOK.nil
theorem sig_ref14_All : SigOK Try.prog n_ref14_All ⟨.pure, false, [1], 0, fun l => match l with | [[x0], [x1]] => ref14_All_s x0 x1 | _ => none⟩ :=
  sig_pure (C := C0) (A := A_ref14_All) (G_ref14_All) cok_none mixedOrders (f := Try.f24) (by kernel_rfl) (by kernel_rfl) (by kernel_rfl) rfl fun bs r h => by
    split at h
    · exact (run_ref14_All ..).trans h
    · cases h
theorem G_ref14_put : GOK Try.prog (Γ_ref14_put) :=
  GOK.nil
theorem sig_ref14_put : SigOK Try.prog n_ref14_put ⟨.pure, false, [1], 0, fun l => match l with | [[x0], [x1]] => ref14_put_s x0 x1 | _ => none⟩ :=
  sig_pure (C := C0) (A := A_ref14_put) (G_ref14_put) cok_none mixedOrders (f := Try.f55) (by kernel_rfl) (by kernel_rfl) (by kernel_rfl) rfl fun bs r h => by
    split at h
    · exact (run_ref14_put ..).trans h
    · cases h
theorem G_ref14_Nodes : GOK Try.prog (Γ_ref14_Nodes) :=
  GOK.ite ⟨en_ref14_put, sig_ref14_put⟩ <|
  GOK.nil
theorem sig_ref14_Nodes : SigOK Try.prog n_ref14_Nodes ⟨.pure, false, [1], 0, fun l => match l with | [[x0], [x1]] => ref14_Nodes_s x0 x1 | _ => none⟩ :=
  sig_pure (C := C0) (A := A_ref14_Nodes) (G_ref14_Nodes) cok_none mixedOrders (f := Try.f27) (by kernel_rfl) (by kernel_rfl) (by kernel_rfl) rfl fun bs r h => by
    split at h
    · exact (run_ref14_Nodes ..).trans h
    · cases h
theorem G_law14_FoldAll : GOK Try.prog (Γ_law14_FoldAll) :=
  GOK.ite ⟨en_ref12_Few, sig_ref12_Few⟩ <|
  GOK.ite ⟨en_ref13_Few, sig_ref13_Few⟩ <|
  GOK.ite ⟨en_law14_live, sig_law14_live⟩ <|
  GOK.ite ⟨en_fold_All, sig_fold_All⟩ <|
  GOK.ite ⟨en_ref14_All, sig_ref14_All⟩ <|
  GOK.ite ⟨en_ref12_Same, sig_ref12_Same⟩ <|
  GOK.ite ⟨en_fold_Nodes, sig_fold_Nodes⟩ <|
  GOK.ite ⟨en_ref14_Nodes, sig_ref14_Nodes⟩ <|
  GOK.ite ⟨en_ref05_Same, sig_ref05_Same⟩ <|
  GOK.nil
theorem sig_law14_FoldAll : SigOK Try.prog n_law14_FoldAll ⟨.pure, true, [1], 0, fun l => match l with | [[x0], [x1]] => law14_FoldAll_s x0 x1 | _ => none⟩ :=
  sig_pure (C := C0) (A := A_law14_FoldAll) (G_law14_FoldAll) cok_none mixedOrders (f := Try.f4) (by kernel_rfl) (by kernel_rfl) (by kernel_rfl) rfl fun bs r h => by
    split at h
    · exact (run_law14_FoldAll ..).trans h
    · cases h
theorem G_law14_FoldParts : GOK Try.prog (Γ_law14_FoldParts) :=
  GOK.ite ⟨en_ref12_Few, sig_ref12_Few⟩ <|
  GOK.ite ⟨en_ref13_Few, sig_ref13_Few⟩ <|
  GOK.ite ⟨en_law14_live, sig_law14_live⟩ <|
  GOK.ite ⟨en_fold_All, sig_fold_All⟩ <|
  GOK.ite ⟨en_ref12_Same, sig_ref12_Same⟩ <|
  GOK.ite ⟨en_fold_Barred, sig_fold_Barred⟩ <|
  GOK.ite ⟨en_fold_Do, sig_fold_Do⟩ <|
  GOK.nil
theorem sig_law14_FoldParts : SigOK Try.prog n_law14_FoldParts ⟨.pure, true, [1], 0, fun l => match l with | [[x0], [x1], [x2]] => law14_FoldParts_s x0 x1 x2 | _ => none⟩ :=
  sig_pure (C := C0) (A := A_law14_FoldParts) (G_law14_FoldParts) cok_none mixedOrders (f := Try.f5) (by kernel_rfl) (by kernel_rfl) (by kernel_rfl) rfl fun bs r h => by
    split at h
    · exact (run_law14_FoldParts ..).trans h
    · cases h
theorem G_ref04_in : GOK Try.prog (Γ_ref04_in) :=
  GOK.nil
theorem sig_ref04_in : SigOK Try.prog n_ref04_in ⟨.pure, true, [1], 0, fun l => match l with | [[x0], [x1], [x2], [x3]] => ref04_in_s x0 x1 x2 x3 | _ => none⟩ :=
  sig_pure (C := C0) (A := A_ref04_in) (G_ref04_in) cok_none mixedOrders (f := Try.f126) (by kernel_rfl) (by kernel_rfl) (by kernel_rfl) rfl fun bs r h => by
    split at h
    · exact (run_ref04_in ..).trans h
    · cases h
theorem G_ref04_sign : GOK Try.prog (Γ_ref04_sign) :=
  GOK.ite ⟨en_ref04_in, sig_ref04_in⟩ <|
  GOK.nil
theorem sig_ref04_sign : SigOK Try.prog n_ref04_sign ⟨.pure, true, [1], 0, fun l => match l with | [[x0], [x1]] => ref04_sign_s x0 x1 | _ => none⟩ :=
  sig_pure (C := C0) (A := A_ref04_sign) (G_ref04_sign) cok_none mixedOrders (f := Try.f105) (by kernel_rfl) (by kernel_rfl) (by kernel_rfl) rfl fun bs r h => by
    split at h
    · exact (run_ref04_sign ..).trans h
    · cases h
theorem G_ref04_First : GOK Try.prog (Γ_ref04_First) :=
  GOK.ite ⟨en_ref04_sign, sig_ref04_sign⟩ <|
  GOK.nil
theorem sig_ref04_First : SigOK Try.prog n_ref04_First ⟨.pure, true, [1, 1], 0, fun l => match l with | [[x0]] => ref04_First_s x0 | _ => none⟩ :=
  sig_pure (C := C0) (A := A_ref04_First) (G_ref04_First) cok_none mixedOrders (f := Try.f85) (by kernel_rfl) (by kernel_rfl) (by kernel_rfl) rfl fun bs r h => by
    split at h
    · exact (run_ref04_First ..).trans h
    · cases h
theorem G_ref04_Valid : GOK Try.prog (Γ_ref04_Valid) :=
  GOK.ite ⟨en_ref04_First, sig_ref04_First⟩ <|
  GOK.nil
theorem sig_ref04_Valid : SigOK Try.prog n_ref04_Valid ⟨.pure, true, [1], 0, fun l => match l with | [[x0]] => ref04_Valid_s x0 | _ => none⟩ :=
  sig_pure (C := C0) (A := A_ref04_Valid) (G_ref04_Valid) cok_none mixedOrders (f := Try.f62) (by kernel_rfl) (by kernel_rfl) (by kernel_rfl) rfl fun bs r h => by
    split at h
    · exact (run_ref04_Valid ..).trans h
    · cases h
theorem G_ref12_One : GOK Try.prog (Γ_ref12_One) :=
  GOK.ite ⟨en_ref04_Valid, sig_ref04_Valid⟩ <|
  GOK.nil
theorem sig_ref12_One : SigOK Try.prog n_ref12_One ⟨.pure, true, [1], 0, fun l => match l with | [[x0, x1, x2, x3]] => ref12_One_s x0 x1 x2 x3 | _ => none⟩ :=
  sig_pure (C := C0) (A := A_ref12_One) (G_ref12_One) cok_none mixedOrders (f := Try.f37) (by kernel_rfl) (by kernel_rfl) (by kernel_rfl) rfl fun bs r h => by
    split at h
    · exact (run_ref12_One ..).trans h
    · cases h
theorem G_ref12_May : GOK Try.prog (Γ_ref12_May) :=
  GOK.ite ⟨en_ref12_One, sig_ref12_One⟩ <|
  GOK.ite ⟨en_ref12_Above, sig_ref12_Above⟩ <|
  GOK.nil
theorem sig_ref12_May : SigOK Try.prog n_ref12_May ⟨.pure, true, [1], 0, fun l => match l with | [[x0]] => ref12_May_s x0 | _ => none⟩ :=
  sig_pure (C := C0) (A := A_ref12_May) (G_ref12_May) cok_none mixedOrders (f := Try.f28) (by kernel_rfl) (by kernel_rfl) (by kernel_rfl) rfl fun bs r h => by
    split at h
    · exact (run_ref12_May ..).trans h
    · cases h
theorem G_ref13_Time : GOK Try.prog (Γ_ref13_Time) :=
  GOK.nil
theorem sig_ref13_Time : SigOK Try.prog n_ref13_Time ⟨.pure, true, [1], 0, fun l => match l with | [[x0, x1]] => ref13_Time_s x0 x1 | _ => none⟩ :=
  sig_pure (C := C0) (A := A_ref13_Time) (G_ref13_Time) cok_none mixedOrders (f := Try.f56) (by kernel_rfl) (by kernel_rfl) (by kernel_rfl) rfl fun bs r h => by
    split at h
    · exact (run_ref13_Time ..).trans h
    · cases h
theorem G_ref13_One : GOK Try.prog (Γ_ref13_One) :=
  GOK.ite ⟨en_ref13_Time, sig_ref13_Time⟩ <|
  GOK.ite ⟨en_ref13_Row, sig_ref13_Row⟩ <|
  GOK.ite ⟨en_ref12_One, sig_ref12_One⟩ <|
  GOK.nil
theorem sig_ref13_One : SigOK Try.prog n_ref13_One ⟨.pure, true, [1], 0, fun l => match l with | [[x0, x1, x2, x3, x4, x5]] => ref13_One_s x0 x1 x2 x3 x4 x5 | _ => none⟩ :=
  sig_pure (C := C0) (A := A_ref13_One) (G_ref13_One) cok_none mixedOrders (f := Try.f29) (by kernel_rfl) (by kernel_rfl) (by kernel_rfl) rfl fun bs r h => by
    split at h
    · exact (run_ref13_One ..).trans h
    · cases h
theorem G_tree_Find : GOK Try.prog (Γ_tree_Find) :=
  GOK.ite ⟨en_tree_place, sig_tree_place⟩ <|
  GOK.nil
theorem sig_tree_Find : SigOK Try.prog n_tree_Find ⟨.pure, true, [4, 1], 0, fun l => match l with | [[x0], [x1]] => tree_Find_s x0 x1 | _ => none⟩ :=
  sig_pure (C := C0) (A := A_tree_Find) (G_tree_Find) cok_none mixedOrders (f := Try.f30) (by kernel_rfl) (by kernel_rfl) (by kernel_rfl) rfl fun bs r h => by
    split at h
    · exact (run_tree_Find ..).trans h
    · cases h
theorem G_law14_FoldOthers : GOK Try.prog (Γ_law14_FoldOthers) :=
  GOK.ite ⟨en_ref12_Few, sig_ref12_Few⟩ <|
  GOK.ite ⟨en_ref12_May, sig_ref12_May⟩ <|
  GOK.ite ⟨en_ref13_One, sig_ref13_One⟩ <|
  GOK.ite ⟨en_law14_live, sig_law14_live⟩ <|
  GOK.ite ⟨en_fold_Do, sig_fold_Do⟩ <|
  GOK.ite ⟨en_tree_Find, sig_tree_Find⟩ <|
  GOK.ite ⟨en_ref12_Alike, sig_ref12_Alike⟩ <|
  GOK.ite ⟨en_tree_Above, sig_tree_Above⟩ <|
  GOK.nil
theorem sig_law14_FoldOthers : SigOK Try.prog n_law14_FoldOthers ⟨.pure, true, [1], 0, fun l => match l with | [[x0], [x1, x2, x3, x4, x5, x6], [x7, x8]] => law14_FoldOthers_s x0 x1 x2 x3 x4 x5 x6 x7 x8 | _ => none⟩ :=
  sig_pure (C := C0) (A := A_law14_FoldOthers) (G_law14_FoldOthers) cok_none mixedOrders (f := Try.f6) (by kernel_rfl) (by kernel_rfl) (by kernel_rfl) rfl fun bs r h => by
    split at h
    · exact (run_law14_FoldOthers ..).trans h
    · cases h
theorem G_law14_FoldTree : GOK Try.prog (Γ_law14_FoldTree) :=
  GOK.ite ⟨en_ref12_Few, sig_ref12_Few⟩ <|
  GOK.ite ⟨en_ref13_Few, sig_ref13_Few⟩ <|
  GOK.ite ⟨en_ref12_May, sig_ref12_May⟩ <|
  GOK.ite ⟨en_law14_live, sig_law14_live⟩ <|
  GOK.ite ⟨en_ref13_One, sig_ref13_One⟩ <|
  GOK.ite ⟨en_fold_Do, sig_fold_Do⟩ <|
  GOK.ite ⟨en_tree_Find, sig_tree_Find⟩ <|
  GOK.ite ⟨en_ref13_Row, sig_ref13_Row⟩ <|
  GOK.ite ⟨en_ref12_Alike, sig_ref12_Alike⟩ <|
  GOK.ite ⟨en_ref12_Same, sig_ref12_Same⟩ <|
  GOK.ite ⟨en_tree_May, sig_tree_May⟩ <|
  GOK.ite ⟨en_fold_All, sig_fold_All⟩ <|
  GOK.nil
theorem sig_law14_FoldTree : SigOK Try.prog n_law14_FoldTree ⟨.pure, true, [1], 0, fun l => match l with | [[x0], [x1]] => law14_FoldTree_s x0 x1 | _ => none⟩ :=
  sig_pure (C := C0) (A := A_law14_FoldTree) (G_law14_FoldTree) cok_none mixedOrders (f := Try.f7) (by kernel_rfl) (by kernel_rfl) (by kernel_rfl) rfl fun bs r h => by
    split at h
    · exact (run_law14_FoldTree ..).trans h
    · cases h
end Go.AM

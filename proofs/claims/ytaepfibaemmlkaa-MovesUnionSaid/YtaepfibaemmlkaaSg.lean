/- The contracts of all functions that are reached. -/
import Derived.Test.YtaepfibaemmlkaaCk
import Derived.Test.YtaepfibaemmlkaaWk
set_option linter.unusedVariables false
set_option linter.unusedSimpArgs false
set_option maxRecDepth 100000
namespace Go.AM
open Go.Proofs
theorem mixedOrders : Try.prog.follows .mixedOrders = true := by kernel_rfl
theorem en_law17_MarksTells : Enters Try.prog n_law17_MarksTells := enters_of (f := Try.f3) (by kernel_rfl) (by kernel_rfl) (by kernel_rfl)
theorem en_law17_MarksOf : Enters Try.prog n_law17_MarksOf := enters_of (f := Try.f4) (by kernel_rfl) (by kernel_rfl) (by kernel_rfl)
theorem en_law17_MarksJoin : Enters Try.prog n_law17_MarksJoin := enters_of (f := Try.f5) (by kernel_rfl) (by kernel_rfl) (by kernel_rfl)
theorem en_law17_MarksMoves : Enters Try.prog n_law17_MarksMoves := enters_of (f := Try.f6) (by kernel_rfl) (by kernel_rfl) (by kernel_rfl)
theorem en_law17_MarksNext : Enters Try.prog n_law17_MarksNext := enters_of (f := Try.f7) (by kernel_rfl) (by kernel_rfl) (by kernel_rfl)
theorem en_law17_MarksOrder : Enters Try.prog n_law17_MarksOrder := enters_of (f := Try.f8) (by kernel_rfl) (by kernel_rfl) (by kernel_rfl)
theorem en_law13_MovesTells : Enters Try.prog n_law13_MovesTells := enters_of (f := Try.f9) (by kernel_rfl) (by kernel_rfl) (by kernel_rfl)
theorem en_law13_MovesInserts : Enters Try.prog n_law13_MovesInserts := enters_of (f := Try.f10) (by kernel_rfl) (by kernel_rfl) (by kernel_rfl)
theorem en_law13_MovesMay : Enters Try.prog n_law13_MovesMay := enters_of (f := Try.f11) (by kernel_rfl) (by kernel_rfl) (by kernel_rfl)
theorem en_law13_MovesOrder : Enters Try.prog n_law13_MovesOrder := enters_of (f := Try.f12) (by kernel_rfl) (by kernel_rfl) (by kernel_rfl)
theorem en_law13_MovesSince : Enters Try.prog n_law13_MovesSince := enters_of (f := Try.f13) (by kernel_rfl) (by kernel_rfl) (by kernel_rfl)
theorem en_law13_MovesUnion : Enters Try.prog n_law13_MovesUnion := enters_of (f := Try.f14) (by kernel_rfl) (by kernel_rfl) (by kernel_rfl)
theorem en_law17_live : Enters Try.prog n_law17_live := enters_of (f := Try.f15) (by kernel_rfl) (by kernel_rfl) (by kernel_rfl)
theorem en_marks_Next : Enters Try.prog n_marks_Next := enters_of (f := Try.f16) (by kernel_rfl) (by kernel_rfl) (by kernel_rfl)
theorem en_ref17_Next : Enters Try.prog n_ref17_Next := enters_of (f := Try.f17) (by kernel_rfl) (by kernel_rfl) (by kernel_rfl)
theorem en_marks_May : Enters Try.prog n_marks_May := enters_of (f := Try.f18) (by kernel_rfl) (by kernel_rfl) (by kernel_rfl)
theorem en_ref17_May : Enters Try.prog n_ref17_May := enters_of (f := Try.f19) (by kernel_rfl) (by kernel_rfl) (by kernel_rfl)
theorem en_marks_Get : Enters Try.prog n_marks_Get := enters_of (f := Try.f20) (by kernel_rfl) (by kernel_rfl) (by kernel_rfl)
theorem en_ref17_Get : Enters Try.prog n_ref17_Get := enters_of (f := Try.f21) (by kernel_rfl) (by kernel_rfl) (by kernel_rfl)
theorem en_ref17_Same : Enters Try.prog n_ref17_Same := enters_of (f := Try.f22) (by kernel_rfl) (by kernel_rfl) (by kernel_rfl)
theorem en_marks_Raise : Enters Try.prog n_marks_Raise := enters_of (f := Try.f23) (by kernel_rfl) (by kernel_rfl) (by kernel_rfl)
theorem en_ref17_Raise : Enters Try.prog n_ref17_Raise := enters_of (f := Try.f24) (by kernel_rfl) (by kernel_rfl) (by kernel_rfl)
theorem en_marks_Join : Enters Try.prog n_marks_Join := enters_of (f := Try.f25) (by kernel_rfl) (by kernel_rfl) (by kernel_rfl)
theorem en_ref17_Join : Enters Try.prog n_ref17_Join := enters_of (f := Try.f26) (by kernel_rfl) (by kernel_rfl) (by kernel_rfl)
theorem en_marks_Below : Enters Try.prog n_marks_Below := enters_of (f := Try.f27) (by kernel_rfl) (by kernel_rfl) (by kernel_rfl)
theorem en_ref17_Below : Enters Try.prog n_ref17_Below := enters_of (f := Try.f28) (by kernel_rfl) (by kernel_rfl) (by kernel_rfl)
theorem en_ref13_Few : Enters Try.prog n_ref13_Few := enters_of (f := Try.f29) (by kernel_rfl) (by kernel_rfl) (by kernel_rfl)
theorem en_marks_Of : Enters Try.prog n_marks_Of := enters_of (f := Try.f30) (by kernel_rfl) (by kernel_rfl) (by kernel_rfl)
theorem en_ref17_Of : Enters Try.prog n_ref17_Of := enters_of (f := Try.f31) (by kernel_rfl) (by kernel_rfl) (by kernel_rfl)
theorem en_ref13_May : Enters Try.prog n_ref13_May := enters_of (f := Try.f32) (by kernel_rfl) (by kernel_rfl) (by kernel_rfl)
theorem en_ref13_Time : Enters Try.prog n_ref13_Time := enters_of (f := Try.f33) (by kernel_rfl) (by kernel_rfl) (by kernel_rfl)
theorem en_ref02_Before : Enters Try.prog n_ref02_Before := enters_of (f := Try.f34) (by kernel_rfl) (by kernel_rfl) (by kernel_rfl)
theorem en_law13_live : Enters Try.prog n_law13_live := enters_of (f := Try.f35) (by kernel_rfl) (by kernel_rfl) (by kernel_rfl)
theorem en_moves_One : Enters Try.prog n_moves_One := enters_of (f := Try.f36) (by kernel_rfl) (by kernel_rfl) (by kernel_rfl)
theorem en_ref13_One : Enters Try.prog n_ref13_One := enters_of (f := Try.f37) (by kernel_rfl) (by kernel_rfl) (by kernel_rfl)
theorem en_ref12_Alike : Enters Try.prog n_ref12_Alike := enters_of (f := Try.f38) (by kernel_rfl) (by kernel_rfl) (by kernel_rfl)
theorem en_moves_Row : Enters Try.prog n_moves_Row := enters_of (f := Try.f39) (by kernel_rfl) (by kernel_rfl) (by kernel_rfl)
theorem en_ref13_Row : Enters Try.prog n_ref13_Row := enters_of (f := Try.f40) (by kernel_rfl) (by kernel_rfl) (by kernel_rfl)
theorem en_moves_May : Enters Try.prog n_moves_May := enters_of (f := Try.f41) (by kernel_rfl) (by kernel_rfl) (by kernel_rfl)
theorem en_moves_Same : Enters Try.prog n_moves_Same := enters_of (f := Try.f42) (by kernel_rfl) (by kernel_rfl) (by kernel_rfl)
theorem en_ref13_Same : Enters Try.prog n_ref13_Same := enters_of (f := Try.f43) (by kernel_rfl) (by kernel_rfl) (by kernel_rfl)
theorem en_moves_Since : Enters Try.prog n_moves_Since := enters_of (f := Try.f44) (by kernel_rfl) (by kernel_rfl) (by kernel_rfl)
theorem en_ref13_Since : Enters Try.prog n_ref13_Since := enters_of (f := Try.f45) (by kernel_rfl) (by kernel_rfl) (by kernel_rfl)
theorem en_moves_Union : Enters Try.prog n_moves_Union := enters_of (f := Try.f46) (by kernel_rfl) (by kernel_rfl) (by kernel_rfl)
theorem en_ref13_Union : Enters Try.prog n_ref13_Union := enters_of (f := Try.f47) (by kernel_rfl) (by kernel_rfl) (by kernel_rfl)
theorem en_moves_Insert : Enters Try.prog n_moves_Insert := enters_of (f := Try.f48) (by kernel_rfl) (by kernel_rfl) (by kernel_rfl)
theorem en_ref13_Insert : Enters Try.prog n_ref13_Insert := enters_of (f := Try.f49) (by kernel_rfl) (by kernel_rfl) (by kernel_rfl)
theorem en_ref13_Alike : Enters Try.prog n_ref13_Alike := enters_of (f := Try.f50) (by kernel_rfl) (by kernel_rfl) (by kernel_rfl)
theorem en_marks_greatest : Enters Try.prog n_marks_greatest := enters_of (f := Try.f51) (by kernel_rfl) (by kernel_rfl) (by kernel_rfl)
theorem en_marks_place : Enters Try.prog n_marks_place := enters_of (f := Try.f52) (by kernel_rfl) (by kernel_rfl) (by kernel_rfl)
theorem en_slices_Clone_Mark : Enters Try.prog n_slices_Clone_Mark := enters_of (f := Try.f53) (by kernel_rfl) (by kernel_rfl) (by kernel_rfl)
theorem en_slices_IndexFunc_Mark : Enters Try.prog n_slices_IndexFunc_Mark := enters_of (f := Try.f54) (by kernel_rfl) (by kernel_rfl) (by kernel_rfl)
theorem en_marks_Raise_1 : Enters Try.prog n_marks_Raise_1 := enters_of (f := Try.f55) (by kernel_rfl) (by kernel_rfl) (by kernel_rfl)
theorem en_slices_Insert_Mark : Enters Try.prog n_slices_Insert_Mark := enters_of (f := Try.f56) (by kernel_rfl) (by kernel_rfl) (by kernel_rfl)
theorem en_slices_ContainsFunc_Mark : Enters Try.prog n_slices_ContainsFunc_Mark := enters_of (f := Try.f57) (by kernel_rfl) (by kernel_rfl) (by kernel_rfl)
theorem en_marks_Below_1 : Enters Try.prog n_marks_Below_1 := enters_of (f := Try.f58) (by kernel_rfl) (by kernel_rfl) (by kernel_rfl)
theorem en_law13_live_1 : Enters Try.prog n_law13_live_1 := enters_of (f := Try.f59) (by kernel_rfl) (by kernel_rfl) (by kernel_rfl)
theorem en_tree_One : Enters Try.prog n_tree_One := enters_of (f := Try.f60) (by kernel_rfl) (by kernel_rfl) (by kernel_rfl)
theorem en_ref12_One : Enters Try.prog n_ref12_One := enters_of (f := Try.f61) (by kernel_rfl) (by kernel_rfl) (by kernel_rfl)
theorem en_ref01_Same : Enters Try.prog n_ref01_Same := enters_of (f := Try.f62) (by kernel_rfl) (by kernel_rfl) (by kernel_rfl)
theorem en_rank_Before : Enters Try.prog n_rank_Before := enters_of (f := Try.f63) (by kernel_rfl) (by kernel_rfl) (by kernel_rfl)
theorem en_slices_ContainsFunc_Move : Enters Try.prog n_slices_ContainsFunc_Move := enters_of (f := Try.f64) (by kernel_rfl) (by kernel_rfl) (by kernel_rfl)
theorem en_moves_May_1 : Enters Try.prog n_moves_May_1 := enters_of (f := Try.f65) (by kernel_rfl) (by kernel_rfl) (by kernel_rfl)
theorem en_slices_EqualFunc_Move_Move : Enters Try.prog n_slices_EqualFunc_Move_Move := enters_of (f := Try.f66) (by kernel_rfl) (by kernel_rfl) (by kernel_rfl)
theorem en_moves_Same_1 : Enters Try.prog n_moves_Same_1 := enters_of (f := Try.f67) (by kernel_rfl) (by kernel_rfl) (by kernel_rfl)
theorem en_bits_Same : Enters Try.prog n_bits_Same := enters_of (f := Try.f68) (by kernel_rfl) (by kernel_rfl) (by kernel_rfl)
theorem en_moves_when_before : Enters Try.prog n_moves_when_before := enters_of (f := Try.f69) (by kernel_rfl) (by kernel_rfl) (by kernel_rfl)
theorem en_moves_seek : Enters Try.prog n_moves_seek := enters_of (f := Try.f70) (by kernel_rfl) (by kernel_rfl) (by kernel_rfl)
theorem en_moves_when_is : Enters Try.prog n_moves_when_is := enters_of (f := Try.f71) (by kernel_rfl) (by kernel_rfl) (by kernel_rfl)
theorem en_slices_Insert_Move : Enters Try.prog n_slices_Insert_Move := enters_of (f := Try.f72) (by kernel_rfl) (by kernel_rfl) (by kernel_rfl)
theorem en_slices_Clone_Move : Enters Try.prog n_slices_Clone_Move := enters_of (f := Try.f73) (by kernel_rfl) (by kernel_rfl) (by kernel_rfl)
theorem en_marks_place_1 : Enters Try.prog n_marks_place_1 := enters_of (f := Try.f74) (by kernel_rfl) (by kernel_rfl) (by kernel_rfl)
theorem en_word_Valid : Enters Try.prog n_word_Valid := enters_of (f := Try.f77) (by kernel_rfl) (by kernel_rfl) (by kernel_rfl)
theorem en_ref04_Valid : Enters Try.prog n_ref04_Valid := enters_of (f := Try.f78) (by kernel_rfl) (by kernel_rfl) (by kernel_rfl)
theorem en_ref01_Bits : Enters Try.prog n_ref01_Bits := enters_of (f := Try.f79) (by kernel_rfl) (by kernel_rfl) (by kernel_rfl)
theorem en_rank_first : Enters Try.prog n_rank_first := enters_of (f := Try.f80) (by kernel_rfl) (by kernel_rfl) (by kernel_rfl)
theorem en_rank_Before_1 : Enters Try.prog n_rank_Before_1 := enters_of (f := Try.f81) (by kernel_rfl) (by kernel_rfl) (by kernel_rfl)
theorem en_cmp_Compare_int : Enters Try.prog n_cmp_Compare_int := enters_of (f := Try.f82) (by kernel_rfl) (by kernel_rfl) (by kernel_rfl)
theorem en_rank_Before_2 : Enters Try.prog n_rank_Before_2 := enters_of (f := Try.f83) (by kernel_rfl) (by kernel_rfl) (by kernel_rfl)
theorem en_slices_IndexFunc_Move : Enters Try.prog n_slices_IndexFunc_Move := enters_of (f := Try.f84) (by kernel_rfl) (by kernel_rfl) (by kernel_rfl)
theorem en_bits_Bits : Enters Try.prog n_bits_Bits := enters_of (f := Try.f85) (by kernel_rfl) (by kernel_rfl) (by kernel_rfl)
theorem en_word_signs : Enters Try.prog n_word_signs := enters_of (f := Try.f89) (by kernel_rfl) (by kernel_rfl) (by kernel_rfl)
theorem en_ref04_First : Enters Try.prog n_ref04_First := enters_of (f := Try.f90) (by kernel_rfl) (by kernel_rfl) (by kernel_rfl)
theorem en_ref01_None : Enters Try.prog n_ref01_None := enters_of (f := Try.f91) (by kernel_rfl) (by kernel_rfl) (by kernel_rfl)
theorem en_ref01_Minus : Enters Try.prog n_ref01_Minus := enters_of (f := Try.f92) (by kernel_rfl) (by kernel_rfl) (by kernel_rfl)
theorem en_ref01_top : Enters Try.prog n_ref01_top := enters_of (f := Try.f93) (by kernel_rfl) (by kernel_rfl) (by kernel_rfl)
theorem en_cmp_isNaN_int : Enters Try.prog n_cmp_isNaN_int := enters_of (f := Try.f94) (by kernel_rfl) (by kernel_rfl) (by kernel_rfl)
theorem en_bits_Minus : Enters Try.prog n_bits_Minus := enters_of (f := Try.f95) (by kernel_rfl) (by kernel_rfl) (by kernel_rfl)
theorem en_bits_split : Enters Try.prog n_bits_split := enters_of (f := Try.f96) (by kernel_rfl) (by kernel_rfl) (by kernel_rfl)
theorem en_word_head : Enters Try.prog n_word_head := enters_of (f := Try.f99) (by kernel_rfl) (by kernel_rfl) (by kernel_rfl)
theorem en_ref04_sign : Enters Try.prog n_ref04_sign := enters_of (f := Try.f100) (by kernel_rfl) (by kernel_rfl) (by kernel_rfl)
theorem en_bits_powers : Enters Try.prog n_bits_powers := enters_of (f := Try.f101) (by kernel_rfl) (by kernel_rfl) (by kernel_rfl)
theorem en_ref04_in : Enters Try.prog n_ref04_in := enters_of (f := Try.f103) (by kernel_rfl) (by kernel_rfl) (by kernel_rfl)
theorem G_slices_IndexFunc_Mark {C : IV → List Nat → List (List IV) → Option (List IV)} (hC : COK Try.prog C) : GOK Try.prog (Γ_slices_IndexFunc_Mark C) :=
  GOK.nil
theorem sig_slices_IndexFunc_Mark {C : IV → List Nat → List (List IV) → Option (List IV)} (hC : COK Try.prog C) : SigOK Try.prog n_slices_IndexFunc_Mark ⟨.pure, true, [1], 0, fun l => match l with | [[x0], [x1]] => slices_IndexFunc_Mark_s C x0 x1 | _ => none⟩ :=
  sig_pure (C := C) (A := A_slices_IndexFunc_Mark) (G_slices_IndexFunc_Mark hC) hC mixedOrders (f := Try.f54) (by kernel_rfl) (by kernel_rfl) (by kernel_rfl) rfl fun bs r h => by
    split at h
    · exact (run_slices_IndexFunc_Mark C ..).trans h
    · cases h
theorem G_marks_place_1 : GOK Try.prog (Γ_marks_place_1) :=
  GOK.nil
theorem sig_marks_place_1 : SigOK Try.prog n_marks_place_1 ⟨.pure, true, [1], 0, fun l => match l with | [[x0, x1], [x2]] => marks_place_1_s x0 x1 x2 | _ => none⟩ :=
  sig_pure (C := C0) (A := A_marks_place_1) (G_marks_place_1) cok_none mixedOrders (f := Try.f74) (by kernel_rfl) (by kernel_rfl) (by kernel_rfl) rfl fun bs r h => by
    split at h
    · exact (run_marks_place_1 ..).trans h
    · cases h
theorem K_marks_place : COK Try.prog (Cx_marks_place) :=
  cok_tbl en_marks_place_1 (fun caps cv w ok hcap => pure_of_run (C := C0) (A := A_marks_place_1) (G_marks_place_1) cok_none mixedOrders (f := Try.f74) (by kernel_rfl) (by kernel_rfl) hcap (by kernel_rfl) fun bs r h => by
    split at h
    · exact (run_marks_place_1 ..).trans h
    · cases h) <|
  cok_none
theorem G_marks_place : GOK Try.prog (Γ_marks_place) :=
  GOK.ite ⟨en_slices_IndexFunc_Mark, sig_slices_IndexFunc_Mark (K_marks_place)⟩ <|
  GOK.nil
theorem sig_marks_place : SigOK Try.prog n_marks_place ⟨.pure, true, [1, 1], 0, fun l => match l with | [[x0], [x1]] => marks_place_s x0 x1 | _ => none⟩ :=
  sig_pure (C := (Cx_marks_place)) (A := A_marks_place) (G_marks_place) (K_marks_place) mixedOrders (f := Try.f52) (by kernel_rfl) (by kernel_rfl) (by kernel_rfl) rfl fun bs r h => by
    split at h
    · exact (run_marks_place ..).trans h
    · cases h
theorem G_marks_greatest : GOK Try.prog (Γ_marks_greatest) :=
  GOK.nil
theorem sig_marks_greatest : SigOK Try.prog n_marks_greatest ⟨.pure, true, [1], 0, fun l => match l with | [[x0], [x1]] => marks_greatest_s x0 x1 | _ => none⟩ :=
  sig_pure (C := C0) (A := A_marks_greatest) (G_marks_greatest) cok_none mixedOrders (f := Try.f51) (by kernel_rfl) (by kernel_rfl) (by kernel_rfl) rfl fun bs r h => by
    split at h
    · exact (run_marks_greatest ..).trans h
    · cases h
theorem G_marks_Raise_1 : GOK Try.prog (Γ_marks_Raise_1) :=
  GOK.nil
theorem sig_marks_Raise_1 : SigOK Try.prog n_marks_Raise_1 ⟨.pure, true, [1], 0, fun l => match l with | [[x0, x1], [x2]] => marks_Raise_1_s x0 x1 x2 | _ => none⟩ :=
  sig_pure (C := C0) (A := A_marks_Raise_1) (G_marks_Raise_1) cok_none mixedOrders (f := Try.f55) (by kernel_rfl) (by kernel_rfl) (by kernel_rfl) rfl fun bs r h => by
    split at h
    · exact (run_marks_Raise_1 ..).trans h
    · cases h
theorem K_marks_Raise : COK Try.prog (Cx_marks_Raise) :=
  cok_tbl en_marks_Raise_1 (fun caps cv w ok hcap => pure_of_run (C := C0) (A := A_marks_Raise_1) (G_marks_Raise_1) cok_none mixedOrders (f := Try.f55) (by kernel_rfl) (by kernel_rfl) hcap (by kernel_rfl) fun bs r h => by
    split at h
    · exact (run_marks_Raise_1 ..).trans h
    · cases h) <|
  cok_none
theorem G_marks_Raise : GOK Try.prog (Γ_marks_Raise) :=
  GOK.ite ⟨en_slices_Clone_Mark, sig_slices_Clone_Mark⟩ <|
  GOK.ite ⟨en_marks_place, sig_marks_place⟩ <|
  GOK.ite ⟨en_marks_greatest, sig_marks_greatest⟩ <|
  GOK.ite ⟨en_slices_IndexFunc_Mark, sig_slices_IndexFunc_Mark (K_marks_Raise)⟩ <|
  GOK.ite ⟨en_slices_Insert_Mark, sig_slices_Insert_Mark⟩ <|
  GOK.nil
theorem sig_marks_Raise : SigOK Try.prog n_marks_Raise ⟨.pure, false, [1], 0, fun l => match l with | [[x0], [x1, x2]] => marks_Raise_s x0 x1 x2 | _ => none⟩ :=
  sig_pure (C := (Cx_marks_Raise)) (A := A_marks_Raise) (G_marks_Raise) (K_marks_Raise) mixedOrders (f := Try.f23) (by kernel_rfl) (by kernel_rfl) (by kernel_rfl) rfl fun bs r h => by
    split at h
    · exact (run_marks_Raise ..).trans h
    · cases h
theorem G_marks_Join : GOK Try.prog (Γ_marks_Join) :=
  GOK.ite ⟨en_marks_Raise, sig_marks_Raise⟩ <|
  GOK.nil
theorem sig_marks_Join : SigOK Try.prog n_marks_Join ⟨.pure, false, [1], 0, fun l => match l with | [[x0], [x1]] => marks_Join_s x0 x1 | _ => none⟩ :=
  sig_pure (C := C0) (A := A_marks_Join) (G_marks_Join) cok_none mixedOrders (f := Try.f25) (by kernel_rfl) (by kernel_rfl) (by kernel_rfl) rfl fun bs r h => by
    split at h
    · exact (run_marks_Join ..).trans h
    · cases h
theorem G_marks_Next : GOK Try.prog (Γ_marks_Next) :=
  GOK.ite ⟨en_marks_greatest, sig_marks_greatest⟩ <|
  GOK.nil
theorem sig_marks_Next : SigOK Try.prog n_marks_Next ⟨.pure, true, [2, 1], 0, fun l => match l with | [[x0], [x1, x2], [x3]] => marks_Next_s x0 x1 x2 x3 | _ => none⟩ :=
  sig_pure (C := C0) (A := A_marks_Next) (G_marks_Next) cok_none mixedOrders (f := Try.f16) (by kernel_rfl) (by kernel_rfl) (by kernel_rfl) rfl fun bs r h => by
    split at h
    · exact (run_marks_Next ..).trans h
    · cases h
theorem G_ref17_Same : GOK Try.prog (Γ_ref17_Same) :=
  GOK.nil
theorem sig_ref17_Same : SigOK Try.prog n_ref17_Same ⟨.pure, true, [1], 0, fun l => match l with | [[x0], [x1]] => ref17_Same_s x0 x1 | _ => none⟩ :=
  sig_pure (C := C0) (A := A_ref17_Same) (G_ref17_Same) cok_none mixedOrders (f := Try.f22) (by kernel_rfl) (by kernel_rfl) (by kernel_rfl) rfl fun bs r h => by
    split at h
    · exact (run_ref17_Same ..).trans h
    · cases h
theorem G_marks_Get : GOK Try.prog (Γ_marks_Get) :=
  GOK.ite ⟨en_marks_place, sig_marks_place⟩ <|
  GOK.nil
theorem sig_marks_Get : SigOK Try.prog n_marks_Get ⟨.pure, true, [1], 0, fun l => match l with | [[x0], [x1]] => marks_Get_s x0 x1 | _ => none⟩ :=
  sig_pure (C := C0) (A := A_marks_Get) (G_marks_Get) cok_none mixedOrders (f := Try.f20) (by kernel_rfl) (by kernel_rfl) (by kernel_rfl) rfl fun bs r h => by
    split at h
    · exact (run_marks_Get ..).trans h
    · cases h
theorem G_slices_ContainsFunc_Mark {C : IV → List Nat → List (List IV) → Option (List IV)} (hC : COK Try.prog C) : GOK Try.prog (Γ_slices_ContainsFunc_Mark C) :=
  GOK.ite ⟨en_slices_IndexFunc_Mark, sig_slices_IndexFunc_Mark hC⟩ <|
  GOK.nil
theorem sig_slices_ContainsFunc_Mark {C : IV → List Nat → List (List IV) → Option (List IV)} (hC : COK Try.prog C) : SigOK Try.prog n_slices_ContainsFunc_Mark ⟨.pure, true, [1], 0, fun l => match l with | [[x0], [x1]] => slices_ContainsFunc_Mark_s C x0 x1 | _ => none⟩ :=
  sig_pure (C := C) (A := A_slices_ContainsFunc_Mark) (G_slices_ContainsFunc_Mark hC) hC mixedOrders (f := Try.f57) (by kernel_rfl) (by kernel_rfl) (by kernel_rfl) rfl fun bs r h => by
    split at h
    · exact (run_slices_ContainsFunc_Mark C ..).trans h
    · cases h
theorem G_marks_Below_1 : GOK Try.prog (Γ_marks_Below_1) :=
  GOK.ite ⟨en_marks_Get, sig_marks_Get⟩ <|
  GOK.nil
theorem sig_marks_Below_1 : SigOK Try.prog n_marks_Below_1 ⟨.pure, true, [1], 0, fun l => match l with | [[x0, x1], [x2], [x3]] => marks_Below_1_s x0 x1 x2 x3 | _ => none⟩ :=
  sig_pure (C := C0) (A := A_marks_Below_1) (G_marks_Below_1) cok_none mixedOrders (f := Try.f58) (by kernel_rfl) (by kernel_rfl) (by kernel_rfl) rfl fun bs r h => by
    split at h
    · exact (run_marks_Below_1 ..).trans h
    · cases h
theorem K_marks_Below : COK Try.prog (Cx_marks_Below) :=
  cok_tbl en_marks_Below_1 (fun caps cv w ok hcap => pure_of_run (C := C0) (A := A_marks_Below_1) (G_marks_Below_1) cok_none mixedOrders (f := Try.f58) (by kernel_rfl) (by kernel_rfl) hcap (by kernel_rfl) fun bs r h => by
    split at h
    · exact (run_marks_Below_1 ..).trans h
    · cases h) <|
  cok_none
theorem G_marks_Below : GOK Try.prog (Γ_marks_Below) :=
  GOK.ite ⟨en_slices_ContainsFunc_Mark, sig_slices_ContainsFunc_Mark (K_marks_Below)⟩ <|
  GOK.nil
theorem sig_marks_Below : SigOK Try.prog n_marks_Below ⟨.pure, true, [1], 0, fun l => match l with | [[x0], [x1]] => marks_Below_s x0 x1 | _ => none⟩ :=
  sig_pure (C := (Cx_marks_Below)) (A := A_marks_Below) (G_marks_Below) (K_marks_Below) mixedOrders (f := Try.f27) (by kernel_rfl) (by kernel_rfl) (by kernel_rfl) rfl fun bs r h => by
    split at h
    · exact (run_marks_Below ..).trans h
    · cases h
theorem G_marks_May : GOK Try.prog (Γ_marks_May) :=
  GOK.nil
theorem sig_marks_May : SigOK Try.prog n_marks_May ⟨.pure, true, [1], 0, fun l => match l with | [[x0]] => marks_May_s x0 | _ => none⟩ :=
  sig_pure (C := C0) (A := A_marks_May) (G_marks_May) cok_none mixedOrders (f := Try.f18) (by kernel_rfl) (by kernel_rfl) (by kernel_rfl) rfl fun bs r h => by
    split at h
    · exact (run_marks_May ..).trans h
    · cases h
theorem G_marks_Of : GOK Try.prog (Γ_marks_Of) :=
  GOK.ite ⟨en_marks_Raise, sig_marks_Raise⟩ <|
  GOK.nil
theorem sig_marks_Of : SigOK Try.prog n_marks_Of ⟨.pure, false, [1], 0, fun l => match l with | [[x0]] => marks_Of_s x0 | _ => none⟩ :=
  sig_pure (C := C0) (A := A_marks_Of) (G_marks_Of) cok_none mixedOrders (f := Try.f30) (by kernel_rfl) (by kernel_rfl) (by kernel_rfl) rfl fun bs r h => by
    split at h
    · exact (run_marks_Of ..).trans h
    · cases h
theorem G_law17_live : GOK Try.prog (Γ_law17_live) :=
  GOK.ite ⟨en_marks_Raise, sig_marks_Raise⟩ <|
  GOK.ite ⟨en_marks_Join, sig_marks_Join⟩ <|
  GOK.ite ⟨en_marks_Next, sig_marks_Next⟩ <|
  GOK.ite ⟨en_ref17_Same, sig_ref17_Same⟩ <|
  GOK.ite ⟨en_marks_Get, sig_marks_Get⟩ <|
  GOK.ite ⟨en_marks_Below, sig_marks_Below⟩ <|
  GOK.ite ⟨en_marks_May, sig_marks_May⟩ <|
  GOK.ite ⟨en_marks_Of, sig_marks_Of⟩ <|
  GOK.nil
theorem sig_law17_live : SigOK Try.prog n_law17_live ⟨.pure, true, [1], 0, fun l => match l with | [] => law17_live_s | _ => none⟩ :=
  sig_pure (C := C0) (A := A_law17_live) (G_law17_live) cok_none mixedOrders (f := Try.f15) (by kernel_rfl) (by kernel_rfl) (by kernel_rfl) rfl fun bs r h => by
    split at h
    · exact (run_law17_live ..).trans h
    · cases h
theorem G_ref17_Next : GOK Try.prog (Γ_ref17_Next) :=
  GOK.nil
theorem sig_ref17_Next : SigOK Try.prog n_ref17_Next ⟨.pure, true, [2, 1], 0, fun l => match l with | [[x0], [x1, x2], [x3]] => ref17_Next_s x0 x1 x2 x3 | _ => none⟩ :=
  sig_pure (C := C0) (A := A_ref17_Next) (G_ref17_Next) cok_none mixedOrders (f := Try.f17) (by kernel_rfl) (by kernel_rfl) (by kernel_rfl) rfl fun bs r h => by
    split at h
    · exact (run_ref17_Next ..).trans h
    · cases h
theorem G_ref17_May : GOK Try.prog (Γ_ref17_May) :=
  GOK.nil
theorem sig_ref17_May : SigOK Try.prog n_ref17_May ⟨.pure, true, [1], 0, fun l => match l with | [[x0]] => ref17_May_s x0 | _ => none⟩ :=
  sig_pure (C := C0) (A := A_ref17_May) (G_ref17_May) cok_none mixedOrders (f := Try.f19) (by kernel_rfl) (by kernel_rfl) (by kernel_rfl) rfl fun bs r h => by
    split at h
    · exact (run_ref17_May ..).trans h
    · cases h
theorem G_ref17_Get : GOK Try.prog (Γ_ref17_Get) :=
  GOK.nil
theorem sig_ref17_Get : SigOK Try.prog n_ref17_Get ⟨.pure, true, [1], 0, fun l => match l with | [[x0], [x1]] => ref17_Get_s x0 x1 | _ => none⟩ :=
  sig_pure (C := C0) (A := A_ref17_Get) (G_ref17_Get) cok_none mixedOrders (f := Try.f21) (by kernel_rfl) (by kernel_rfl) (by kernel_rfl) rfl fun bs r h => by
    split at h
    · exact (run_ref17_Get ..).trans h
    · cases h
theorem G_ref17_Raise : GOK Try.prog (Γ_ref17_Raise) :=
  GOK.nil
theorem sig_ref17_Raise : SigOK Try.prog n_ref17_Raise ⟨.pure, false, [1], 0, fun l => match l with | [[x0], [x1, x2]] => ref17_Raise_s x0 x1 x2 | _ => none⟩ :=
  sig_pure (C := C0) (A := A_ref17_Raise) (G_ref17_Raise) cok_none mixedOrders (f := Try.f24) (by kernel_rfl) (by kernel_rfl) (by kernel_rfl) rfl fun bs r h => by
    split at h
    · exact (run_ref17_Raise ..).trans h
    · cases h
theorem G_ref17_Join : GOK Try.prog (Γ_ref17_Join) :=
  GOK.ite ⟨en_ref17_Raise, sig_ref17_Raise⟩ <|
  GOK.nil
theorem sig_ref17_Join : SigOK Try.prog n_ref17_Join ⟨.pure, false, [1], 0, fun l => match l with | [[x0], [x1]] => ref17_Join_s x0 x1 | _ => none⟩ :=
  sig_pure (C := C0) (A := A_ref17_Join) (G_ref17_Join) cok_none mixedOrders (f := Try.f26) (by kernel_rfl) (by kernel_rfl) (by kernel_rfl) rfl fun bs r h => by
    split at h
    · exact (run_ref17_Join ..).trans h
    · cases h
theorem G_ref17_Below : GOK Try.prog (Γ_ref17_Below) :=
  GOK.ite ⟨en_ref17_Get, sig_ref17_Get⟩ <|
  GOK.nil
theorem sig_ref17_Below : SigOK Try.prog n_ref17_Below ⟨.pure, true, [1], 0, fun l => match l with | [[x0], [x1]] => ref17_Below_s x0 x1 | _ => none⟩ :=
  sig_pure (C := C0) (A := A_ref17_Below) (G_ref17_Below) cok_none mixedOrders (f := Try.f28) (by kernel_rfl) (by kernel_rfl) (by kernel_rfl) rfl fun bs r h => by
    split at h
    · exact (run_ref17_Below ..).trans h
    · cases h
theorem G_law17_MarksTells : GOK Try.prog (Γ_law17_MarksTells) :=
  GOK.ite ⟨en_law17_live, sig_law17_live⟩ <|
  GOK.ite ⟨en_marks_Next, sig_marks_Next⟩ <|
  GOK.ite ⟨en_ref17_Next, sig_ref17_Next⟩ <|
  GOK.ite ⟨en_marks_May, sig_marks_May⟩ <|
  GOK.ite ⟨en_ref17_May, sig_ref17_May⟩ <|
  GOK.ite ⟨en_marks_Get, sig_marks_Get⟩ <|
  GOK.ite ⟨en_ref17_Get, sig_ref17_Get⟩ <|
  GOK.ite ⟨en_marks_Raise, sig_marks_Raise⟩ <|
  GOK.ite ⟨en_ref17_Raise, sig_ref17_Raise⟩ <|
  GOK.ite ⟨en_ref17_Same, sig_ref17_Same⟩ <|
  GOK.ite ⟨en_marks_Join, sig_marks_Join⟩ <|
  GOK.ite ⟨en_ref17_Join, sig_ref17_Join⟩ <|
  GOK.ite ⟨en_marks_Below, sig_marks_Below⟩ <|
  GOK.ite ⟨en_ref17_Below, sig_ref17_Below⟩ <|
  GOK.nil
theorem sig_law17_MarksTells : SigOK Try.prog n_law17_MarksTells ⟨.pure, true, [1], 0, fun l => match l with | [[x0], [x1], [x2, x3]] => law17_MarksTells_s x0 x1 x2 x3 | _ => none⟩ :=
  sig_pure (C := C0) (A := A_law17_MarksTells) (G_law17_MarksTells) cok_none mixedOrders (f := Try.f3) (by kernel_rfl) (by kernel_rfl) (by kernel_rfl) rfl fun bs r h => by
    split at h
    · exact (run_law17_MarksTells ..).trans h
    · cases h
theorem G_ref13_Few : GOK Try.prog (Γ_ref13_Few) :=
  GOK.nil
theorem sig_ref13_Few : SigOK Try.prog n_ref13_Few ⟨.pure, true, [1], 0, fun l => match l with | [[x0], [x1]] => ref13_Few_s x0 x1 | _ => none⟩ :=
  sig_pure (C := C0) (A := A_ref13_Few) (G_ref13_Few) cok_none mixedOrders (f := Try.f29) (by kernel_rfl) (by kernel_rfl) (by kernel_rfl) rfl fun bs r h => by
    split at h
    · exact (run_ref13_Few ..).trans h
    · cases h
theorem G_ref17_Of : GOK Try.prog (Γ_ref17_Of) :=
  GOK.ite ⟨en_ref17_Raise, sig_ref17_Raise⟩ <|
  GOK.nil
theorem sig_ref17_Of : SigOK Try.prog n_ref17_Of ⟨.pure, false, [1], 0, fun l => match l with | [[x0]] => ref17_Of_s x0 | _ => none⟩ :=
  sig_pure (C := C0) (A := A_ref17_Of) (G_ref17_Of) cok_none mixedOrders (f := Try.f31) (by kernel_rfl) (by kernel_rfl) (by kernel_rfl) rfl fun bs r h => by
    split at h
    · exact (run_ref17_Of ..).trans h
    · cases h
theorem G_law17_MarksOf : GOK Try.prog (Γ_law17_MarksOf) :=
  GOK.ite ⟨en_ref13_Few, sig_ref13_Few⟩ <|
  GOK.ite ⟨en_law17_live, sig_law17_live⟩ <|
  GOK.ite ⟨en_marks_Of, sig_marks_Of⟩ <|
  GOK.ite ⟨en_ref17_Of, sig_ref17_Of⟩ <|
  GOK.ite ⟨en_ref17_Same, sig_ref17_Same⟩ <|
  GOK.nil
theorem sig_law17_MarksOf : SigOK Try.prog n_law17_MarksOf ⟨.pure, true, [1], 0, fun l => match l with | [[x0]] => law17_MarksOf_s x0 | _ => none⟩ :=
  sig_pure (C := C0) (A := A_law17_MarksOf) (G_law17_MarksOf) cok_none mixedOrders (f := Try.f4) (by kernel_rfl) (by kernel_rfl) (by kernel_rfl) rfl fun bs r h => by
    split at h
    · exact (run_law17_MarksOf ..).trans h
    · cases h
theorem G_law17_MarksJoin : GOK Try.prog (Γ_law17_MarksJoin) :=
  GOK.ite ⟨en_ref17_May, sig_ref17_May⟩ <|
  GOK.ite ⟨en_law17_live, sig_law17_live⟩ <|
  GOK.ite ⟨en_marks_Join, sig_marks_Join⟩ <|
  GOK.ite ⟨en_marks_May, sig_marks_May⟩ <|
  GOK.ite ⟨en_marks_Below, sig_marks_Below⟩ <|
  GOK.ite ⟨en_ref17_Same, sig_ref17_Same⟩ <|
  GOK.nil
theorem sig_law17_MarksJoin : SigOK Try.prog n_law17_MarksJoin ⟨.pure, true, [1], 0, fun l => match l with | [[x0], [x1], [x2]] => law17_MarksJoin_s x0 x1 x2 | _ => none⟩ :=
  sig_pure (C := C0) (A := A_law17_MarksJoin) (G_law17_MarksJoin) cok_none mixedOrders (f := Try.f5) (by kernel_rfl) (by kernel_rfl) (by kernel_rfl) rfl fun bs r h => by
    split at h
    · exact (run_law17_MarksJoin ..).trans h
    · cases h
theorem G_ref13_Time : GOK Try.prog (Γ_ref13_Time) :=
  GOK.nil
theorem sig_ref13_Time : SigOK Try.prog n_ref13_Time ⟨.pure, true, [1], 0, fun l => match l with | [[x0, x1]] => ref13_Time_s x0 x1 | _ => none⟩ :=
  sig_pure (C := C0) (A := A_ref13_Time) (G_ref13_Time) cok_none mixedOrders (f := Try.f33) (by kernel_rfl) (by kernel_rfl) (by kernel_rfl) rfl fun bs r h => by
    split at h
    · exact (run_ref13_Time ..).trans h
    · cases h
theorem G_ref13_Row : GOK Try.prog (Γ_ref13_Row) :=
  GOK.nil
theorem sig_ref13_Row : SigOK Try.prog n_ref13_Row ⟨.pure, true, [4], 0, fun l => match l with | [[x0, x1, x2, x3, x4, x5]] => ref13_Row_s x0 x1 x2 x3 x4 x5 | _ => none⟩ :=
  sig_pure (C := C0) (A := A_ref13_Row) (G_ref13_Row) cok_none mixedOrders (f := Try.f40) (by kernel_rfl) (by kernel_rfl) (by kernel_rfl) rfl fun bs r h => by
    split at h
    · exact (run_ref13_Row ..).trans h
    · cases h
theorem G_ref04_in : GOK Try.prog (Γ_ref04_in) :=
  GOK.nil
theorem sig_ref04_in : SigOK Try.prog n_ref04_in ⟨.pure, true, [1], 0, fun l => match l with | [[x0], [x1], [x2], [x3]] => ref04_in_s x0 x1 x2 x3 | _ => none⟩ :=
  sig_pure (C := C0) (A := A_ref04_in) (G_ref04_in) cok_none mixedOrders (f := Try.f103) (by kernel_rfl) (by kernel_rfl) (by kernel_rfl) rfl fun bs r h => by
    split at h
    · exact (run_ref04_in ..).trans h
    · cases h
theorem G_ref04_sign : GOK Try.prog (Γ_ref04_sign) :=
  GOK.ite ⟨en_ref04_in, sig_ref04_in⟩ <|
  GOK.nil
theorem sig_ref04_sign : SigOK Try.prog n_ref04_sign ⟨.pure, true, [1], 0, fun l => match l with | [[x0], [x1]] => ref04_sign_s x0 x1 | _ => none⟩ :=
  sig_pure (C := C0) (A := A_ref04_sign) (G_ref04_sign) cok_none mixedOrders (f := Try.f100) (by kernel_rfl) (by kernel_rfl) (by kernel_rfl) rfl fun bs r h => by
    split at h
    · exact (run_ref04_sign ..).trans h
    · cases h
theorem G_ref04_First : GOK Try.prog (Γ_ref04_First) :=
  GOK.ite ⟨en_ref04_sign, sig_ref04_sign⟩ <|
  GOK.nil
theorem sig_ref04_First : SigOK Try.prog n_ref04_First ⟨.pure, true, [1, 1], 0, fun l => match l with | [[x0]] => ref04_First_s x0 | _ => none⟩ :=
  sig_pure (C := C0) (A := A_ref04_First) (G_ref04_First) cok_none mixedOrders (f := Try.f90) (by kernel_rfl) (by kernel_rfl) (by kernel_rfl) rfl fun bs r h => by
    split at h
    · exact (run_ref04_First ..).trans h
    · cases h
theorem G_ref04_Valid : GOK Try.prog (Γ_ref04_Valid) :=
  GOK.ite ⟨en_ref04_First, sig_ref04_First⟩ <|
  GOK.nil
theorem sig_ref04_Valid : SigOK Try.prog n_ref04_Valid ⟨.pure, true, [1], 0, fun l => match l with | [[x0]] => ref04_Valid_s x0 | _ => none⟩ :=
  sig_pure (C := C0) (A := A_ref04_Valid) (G_ref04_Valid) cok_none mixedOrders (f := Try.f78) (by kernel_rfl) (by kernel_rfl) (by kernel_rfl) rfl fun bs r h => by
    split at h
    · exact (run_ref04_Valid ..).trans h
    · cases h
theorem G_ref12_One : GOK Try.prog (Γ_ref12_One) :=
  GOK.ite ⟨en_ref04_Valid, sig_ref04_Valid⟩ <|
  GOK.nil
theorem sig_ref12_One : SigOK Try.prog n_ref12_One ⟨.pure, true, [1], 0, fun l => match l with | [[x0, x1, x2, x3]] => ref12_One_s x0 x1 x2 x3 | _ => none⟩ :=
  sig_pure (C := C0) (A := A_ref12_One) (G_ref12_One) cok_none mixedOrders (f := Try.f61) (by kernel_rfl) (by kernel_rfl) (by kernel_rfl) rfl fun bs r h => by
    split at h
    · exact (run_ref12_One ..).trans h
    · cases h
theorem G_ref13_One : GOK Try.prog (Γ_ref13_One) :=
  GOK.ite ⟨en_ref13_Time, sig_ref13_Time⟩ <|
  GOK.ite ⟨en_ref13_Row, sig_ref13_Row⟩ <|
  GOK.ite ⟨en_ref12_One, sig_ref12_One⟩ <|
  GOK.nil
theorem sig_ref13_One : SigOK Try.prog n_ref13_One ⟨.pure, true, [1], 0, fun l => match l with | [[x0, x1, x2, x3, x4, x5]] => ref13_One_s x0 x1 x2 x3 x4 x5 | _ => none⟩ :=
  sig_pure (C := C0) (A := A_ref13_One) (G_ref13_One) cok_none mixedOrders (f := Try.f37) (by kernel_rfl) (by kernel_rfl) (by kernel_rfl) rfl fun bs r h => by
    split at h
    · exact (run_ref13_One ..).trans h
    · cases h
theorem G_ref02_Before : GOK Try.prog (Γ_ref02_Before) :=
  GOK.nil
theorem sig_ref02_Before : SigOK Try.prog n_ref02_Before ⟨.pure, true, [1], 0, fun l => match l with | [[x0, x1], [x2, x3]] => ref02_Before_s x0 x1 x2 x3 | _ => none⟩ :=
  sig_pure (C := C0) (A := A_ref02_Before) (G_ref02_Before) cok_none mixedOrders (f := Try.f34) (by kernel_rfl) (by kernel_rfl) (by kernel_rfl) rfl fun bs r h => by
    split at h
    · exact (run_ref02_Before ..).trans h
    · cases h
theorem G_ref13_May : GOK Try.prog (Γ_ref13_May) :=
  GOK.ite ⟨en_ref13_One, sig_ref13_One⟩ <|
  GOK.ite ⟨en_ref02_Before, sig_ref02_Before⟩ <|
  GOK.nil
theorem sig_ref13_May : SigOK Try.prog n_ref13_May ⟨.pure, true, [1], 0, fun l => match l with | [[x0]] => ref13_May_s x0 | _ => none⟩ :=
  sig_pure (C := C0) (A := A_ref13_May) (G_ref13_May) cok_none mixedOrders (f := Try.f32) (by kernel_rfl) (by kernel_rfl) (by kernel_rfl) rfl fun bs r h => by
    split at h
    · exact (run_ref13_May ..).trans h
    · cases h
theorem G_law17_MarksMoves : GOK Try.prog (Γ_law17_MarksMoves) :=
  GOK.ite ⟨en_ref13_Few, sig_ref13_Few⟩ <|
  GOK.ite ⟨en_ref13_May, sig_ref13_May⟩ <|
  GOK.ite ⟨en_law17_live, sig_law17_live⟩ <|
  GOK.ite ⟨en_marks_Of, sig_marks_Of⟩ <|
  GOK.ite ⟨en_marks_May, sig_marks_May⟩ <|
  GOK.ite ⟨en_marks_Get, sig_marks_Get⟩ <|
  GOK.ite ⟨en_marks_Join, sig_marks_Join⟩ <|
  GOK.ite ⟨en_ref17_Same, sig_ref17_Same⟩ <|
  GOK.nil
theorem sig_law17_MarksMoves : SigOK Try.prog n_law17_MarksMoves ⟨.pure, true, [1], 0, fun l => match l with | [[x0], [x1]] => law17_MarksMoves_s x0 x1 | _ => none⟩ :=
  sig_pure (C := C0) (A := A_law17_MarksMoves) (G_law17_MarksMoves) cok_none mixedOrders (f := Try.f6) (by kernel_rfl) (by kernel_rfl) (by kernel_rfl) rfl fun bs r h => by
    split at h
    · exact (run_law17_MarksMoves ..).trans h
    · cases h
theorem G_law17_MarksNext : GOK Try.prog (Γ_law17_MarksNext) :=
  GOK.ite ⟨en_ref13_Few, sig_ref13_Few⟩ <|
  GOK.ite ⟨en_ref13_May, sig_ref13_May⟩ <|
  GOK.ite ⟨en_ref13_Time, sig_ref13_Time⟩ <|
  GOK.ite ⟨en_law17_live, sig_law17_live⟩ <|
  GOK.ite ⟨en_marks_Of, sig_marks_Of⟩ <|
  GOK.ite ⟨en_marks_Next, sig_marks_Next⟩ <|
  GOK.ite ⟨en_ref02_Before, sig_ref02_Before⟩ <|
  GOK.ite ⟨en_marks_Raise, sig_marks_Raise⟩ <|
  GOK.ite ⟨en_marks_Get, sig_marks_Get⟩ <|
  GOK.nil
theorem sig_law17_MarksNext : SigOK Try.prog n_law17_MarksNext ⟨.pure, true, [1], 0, fun l => match l with | [[x0], [x1, x2], [x3]] => law17_MarksNext_s x0 x1 x2 x3 | _ => none⟩ :=
  sig_pure (C := C0) (A := A_law17_MarksNext) (G_law17_MarksNext) cok_none mixedOrders (f := Try.f7) (by kernel_rfl) (by kernel_rfl) (by kernel_rfl) rfl fun bs r h => by
    split at h
    · exact (run_law17_MarksNext ..).trans h
    · cases h
theorem G_law17_MarksOrder : GOK Try.prog (Γ_law17_MarksOrder) :=
  GOK.ite ⟨en_ref17_May, sig_ref17_May⟩ <|
  GOK.ite ⟨en_ref13_Time, sig_ref13_Time⟩ <|
  GOK.ite ⟨en_law17_live, sig_law17_live⟩ <|
  GOK.ite ⟨en_marks_Raise, sig_marks_Raise⟩ <|
  GOK.ite ⟨en_marks_Below, sig_marks_Below⟩ <|
  GOK.ite ⟨en_ref17_Same, sig_ref17_Same⟩ <|
  GOK.ite ⟨en_marks_Get, sig_marks_Get⟩ <|
  GOK.nil
theorem sig_law17_MarksOrder : SigOK Try.prog n_law17_MarksOrder ⟨.pure, true, [1], 0, fun l => match l with | [[x0], [x1], [x2, x3]] => law17_MarksOrder_s x0 x1 x2 x3 | _ => none⟩ :=
  sig_pure (C := C0) (A := A_law17_MarksOrder) (G_law17_MarksOrder) cok_none mixedOrders (f := Try.f8) (by kernel_rfl) (by kernel_rfl) (by kernel_rfl) rfl fun bs r h => by
    split at h
    · exact (run_law17_MarksOrder ..).trans h
    · cases h
theorem G_moves_seek {C : IV → List Nat → List (List IV) → Option (List IV)} (hC : COK Try.prog C) : GOK Try.prog (Γ_moves_seek C) :=
  GOK.nil
theorem sig_moves_seek {C : IV → List Nat → List (List IV) → Option (List IV)} (hC : COK Try.prog C) : SigOK Try.prog n_moves_seek ⟨.pure, true, [1], 0, fun l => match l with | [[x0], [x1, x2], [x3]] => moves_seek_s C x0 x1 x2 x3 | _ => none⟩ :=
  sig_pure (C := C) (A := A_moves_seek) (G_moves_seek hC) hC mixedOrders (f := Try.f70) (by kernel_rfl) (by kernel_rfl) (by kernel_rfl) rfl fun bs r h => by
    split at h
    · exact (run_moves_seek C ..).trans h
    · cases h
theorem G_moves_when_is : GOK Try.prog (Γ_moves_when_is) :=
  GOK.nil
theorem sig_moves_when_is : SigOK Try.prog n_moves_when_is ⟨.pure, true, [1], 0, fun l => match l with | [[x0, x1], [x2, x3, x4, x5, x6, x7]] => moves_when_is_s x0 x1 x2 x3 x4 x5 x6 x7 | _ => none⟩ :=
  sig_pure (C := C0) (A := A_moves_when_is) (G_moves_when_is) cok_none mixedOrders (f := Try.f71) (by kernel_rfl) (by kernel_rfl) (by kernel_rfl) rfl fun bs r h => by
    split at h
    · exact (run_moves_when_is ..).trans h
    · cases h
theorem G_rank_first {C : IV → List Nat → List (List IV) → Option (List IV)} (hC : COK Try.prog C) : GOK Try.prog (Γ_rank_first C) :=
  GOK.nil
theorem sig_rank_first {C : IV → List Nat → List (List IV) → Option (List IV)} (hC : COK Try.prog C) : SigOK Try.prog n_rank_first ⟨.pure, true, [1], 0, fun l => match l with | [[x0]] => rank_first_s C x0 | _ => none⟩ :=
  sig_pure (C := C) (A := A_rank_first) (G_rank_first hC) hC mixedOrders (f := Try.f80) (by kernel_rfl) (by kernel_rfl) (by kernel_rfl) rfl fun bs r h => by
    split at h
    · exact (run_rank_first C ..).trans h
    · cases h
theorem G_cmp_isNaN_int : GOK Try.prog (Γ_cmp_isNaN_int) :=
  GOK.nil
theorem sig_cmp_isNaN_int : SigOK Try.prog n_cmp_isNaN_int ⟨.pure, true, [1], 0, fun l => match l with | [[x0]] => cmp_isNaN_int_s x0 | _ => none⟩ :=
  sig_pure (C := C0) (A := A_cmp_isNaN_int) (G_cmp_isNaN_int) cok_none mixedOrders (f := Try.f94) (by kernel_rfl) (by kernel_rfl) (by kernel_rfl) rfl fun bs r h => by
    split at h
    · exact (run_cmp_isNaN_int ..).trans h
    · cases h
theorem G_cmp_Compare_int : GOK Try.prog (Γ_cmp_Compare_int) :=
  GOK.ite ⟨en_cmp_isNaN_int, sig_cmp_isNaN_int⟩ <|
  GOK.nil
theorem sig_cmp_Compare_int : SigOK Try.prog n_cmp_Compare_int ⟨.pure, true, [1], 0, fun l => match l with | [[x0], [x1]] => cmp_Compare_int_s x0 x1 | _ => none⟩ :=
  sig_pure (C := C0) (A := A_cmp_Compare_int) (G_cmp_Compare_int) cok_none mixedOrders (f := Try.f82) (by kernel_rfl) (by kernel_rfl) (by kernel_rfl) rfl fun bs r h => by
    split at h
    · exact (run_cmp_Compare_int ..).trans h
    · cases h
theorem G_rank_Before_1 : GOK Try.prog (Γ_rank_Before_1) :=
  GOK.ite ⟨en_cmp_Compare_int, sig_cmp_Compare_int⟩ <|
  GOK.nil
theorem sig_rank_Before_1 : SigOK Try.prog n_rank_Before_1 ⟨.pure, true, [1], 0, fun l => match l with | [[x0], [x1]] => rank_Before_1_s x0 x1 | _ => none⟩ :=
  sig_pure (C := C0) (A := A_rank_Before_1) (G_rank_Before_1) cok_none mixedOrders (f := Try.f81) (by kernel_rfl) (by kernel_rfl) (by kernel_rfl) rfl fun bs r h => by
    split at h
    · exact (run_rank_Before_1 ..).trans h
    · cases h
theorem G_rank_Before_2 : GOK Try.prog (Γ_rank_Before_2) :=
  GOK.ite ⟨en_cmp_Compare_int, sig_cmp_Compare_int⟩ <|
  GOK.nil
theorem sig_rank_Before_2 : SigOK Try.prog n_rank_Before_2 ⟨.pure, true, [1], 0, fun l => match l with | [[x0], [x1]] => rank_Before_2_s x0 x1 | _ => none⟩ :=
  sig_pure (C := C0) (A := A_rank_Before_2) (G_rank_Before_2) cok_none mixedOrders (f := Try.f83) (by kernel_rfl) (by kernel_rfl) (by kernel_rfl) rfl fun bs r h => by
    split at h
    · exact (run_rank_Before_2 ..).trans h
    · cases h
theorem K_rank_Before : COK Try.prog (Cx_rank_Before) :=
  cok_tbl en_rank_Before_1 (fun caps cv w ok hcap => pure_of_run (C := C0) (A := A_rank_Before_1) (G_rank_Before_1) cok_none mixedOrders (f := Try.f81) (by kernel_rfl) (by kernel_rfl) hcap (by kernel_rfl) fun bs r h => by
    split at h
    · exact (run_rank_Before_1 ..).trans h
    · cases h) <|
  cok_tbl en_rank_Before_2 (fun caps cv w ok hcap => pure_of_run (C := C0) (A := A_rank_Before_2) (G_rank_Before_2) cok_none mixedOrders (f := Try.f83) (by kernel_rfl) (by kernel_rfl) hcap (by kernel_rfl) fun bs r h => by
    split at h
    · exact (run_rank_Before_2 ..).trans h
    · cases h) <|
  cok_none
theorem G_rank_Before : GOK Try.prog (Γ_rank_Before) :=
  GOK.ite ⟨en_rank_first, sig_rank_first (K_rank_Before)⟩ <|
  GOK.nil
theorem sig_rank_Before : SigOK Try.prog n_rank_Before ⟨.pure, true, [1], 0, fun l => match l with | [[x0, x1], [x2, x3]] => rank_Before_s x0 x1 x2 x3 | _ => none⟩ :=
  sig_pure (C := (Cx_rank_Before)) (A := A_rank_Before) (G_rank_Before) (K_rank_Before) mixedOrders (f := Try.f63) (by kernel_rfl) (by kernel_rfl) (by kernel_rfl) rfl fun bs r h => by
    split at h
    · exact (run_rank_Before ..).trans h
    · cases h
theorem G_moves_when_before : GOK Try.prog (Γ_moves_when_before) :=
  GOK.ite ⟨en_rank_Before, sig_rank_Before⟩ <|
  GOK.nil
theorem sig_moves_when_before : SigOK Try.prog n_moves_when_before ⟨.pure, true, [1], 0, fun l => match l with | [[x0, x1], [x2, x3, x4, x5, x6, x7]] => moves_when_before_s x0 x1 x2 x3 x4 x5 x6 x7 | _ => none⟩ :=
  sig_pure (C := C0) (A := A_moves_when_before) (G_moves_when_before) cok_none mixedOrders (f := Try.f69) (by kernel_rfl) (by kernel_rfl) (by kernel_rfl) rfl fun bs r h => by
    split at h
    · exact (run_moves_when_before ..).trans h
    · cases h
theorem K_moves_Insert : COK Try.prog (Cx_moves_Insert) :=
  cok_tbl en_moves_when_is (fun caps cv w ok hcap => pure_of_run (C := C0) (A := A_moves_when_is) (G_moves_when_is) cok_none mixedOrders (f := Try.f71) (by kernel_rfl) (by kernel_rfl) hcap (by kernel_rfl) fun bs r h => by
    split at h
    · exact (run_moves_when_is ..).trans h
    · cases h) <|
  cok_tbl en_moves_when_before (fun caps cv w ok hcap => pure_of_run (C := C0) (A := A_moves_when_before) (G_moves_when_before) cok_none mixedOrders (f := Try.f69) (by kernel_rfl) (by kernel_rfl) hcap (by kernel_rfl) fun bs r h => by
    split at h
    · exact (run_moves_when_before ..).trans h
    · cases h) <|
  cok_none
theorem G_moves_Insert : GOK Try.prog (Γ_moves_Insert) :=
  GOK.ite ⟨en_moves_seek, sig_moves_seek (K_moves_Insert)⟩ <|
  GOK.ite ⟨en_slices_Clone_Move, sig_slices_Clone_Move⟩ <|
  GOK.ite ⟨en_slices_Insert_Move, sig_slices_Insert_Move⟩ <|
  GOK.nil
theorem sig_moves_Insert : SigOK Try.prog n_moves_Insert ⟨.pure, false, [1, 1, 1], 0, fun l => match l with | [[x0], [x1, x2, x3, x4, x5, x6]] => moves_Insert_s x0 x1 x2 x3 x4 x5 x6 | _ => none⟩ :=
  sig_pure (C := (Cx_moves_Insert)) (A := A_moves_Insert) (G_moves_Insert) (K_moves_Insert) mixedOrders (f := Try.f48) (by kernel_rfl) (by kernel_rfl) (by kernel_rfl) rfl fun bs r h => by
    split at h
    · exact (run_moves_Insert ..).trans h
    · cases h
theorem G_moves_Since : GOK Try.prog (Γ_moves_Since) :=
  GOK.ite ⟨en_moves_when_before, sig_moves_when_before⟩ <|
  GOK.nil
theorem sig_moves_Since : SigOK Try.prog n_moves_Since ⟨.pure, false, [1], 0, fun l => match l with | [[x0], [x1, x2]] => moves_Since_s x0 x1 x2 | _ => none⟩ :=
  sig_pure (C := C0) (A := A_moves_Since) (G_moves_Since) cok_none mixedOrders (f := Try.f44) (by kernel_rfl) (by kernel_rfl) (by kernel_rfl) rfl fun bs r h => by
    split at h
    · exact (run_moves_Since ..).trans h
    · cases h
theorem G_moves_Union : GOK Try.prog (Γ_moves_Union) :=
  GOK.ite ⟨en_moves_Insert, sig_moves_Insert⟩ <|
  GOK.nil
theorem sig_moves_Union : SigOK Try.prog n_moves_Union ⟨.pure, false, [1], 0, fun l => match l with | [[x0], [x1]] => moves_Union_s x0 x1 | _ => none⟩ :=
  sig_pure (C := C0) (A := A_moves_Union) (G_moves_Union) cok_none mixedOrders (f := Try.f46) (by kernel_rfl) (by kernel_rfl) (by kernel_rfl) rfl fun bs r h => by
    split at h
    · exact (run_moves_Union ..).trans h
    · cases h
theorem G_slices_IndexFunc_Move {C : IV → List Nat → List (List IV) → Option (List IV)} (hC : COK Try.prog C) : GOK Try.prog (Γ_slices_IndexFunc_Move C) :=
  GOK.nil
theorem sig_slices_IndexFunc_Move {C : IV → List Nat → List (List IV) → Option (List IV)} (hC : COK Try.prog C) : SigOK Try.prog n_slices_IndexFunc_Move ⟨.pure, true, [1], 0, fun l => match l with | [[x0], [x1]] => slices_IndexFunc_Move_s C x0 x1 | _ => none⟩ :=
  sig_pure (C := C) (A := A_slices_IndexFunc_Move) (G_slices_IndexFunc_Move hC) hC mixedOrders (f := Try.f84) (by kernel_rfl) (by kernel_rfl) (by kernel_rfl) rfl fun bs r h => by
    split at h
    · exact (run_slices_IndexFunc_Move C ..).trans h
    · cases h
theorem G_slices_ContainsFunc_Move {C : IV → List Nat → List (List IV) → Option (List IV)} (hC : COK Try.prog C) : GOK Try.prog (Γ_slices_ContainsFunc_Move C) :=
  GOK.ite ⟨en_slices_IndexFunc_Move, sig_slices_IndexFunc_Move hC⟩ <|
  GOK.nil
theorem sig_slices_ContainsFunc_Move {C : IV → List Nat → List (List IV) → Option (List IV)} (hC : COK Try.prog C) : SigOK Try.prog n_slices_ContainsFunc_Move ⟨.pure, true, [1], 0, fun l => match l with | [[x0], [x1]] => slices_ContainsFunc_Move_s C x0 x1 | _ => none⟩ :=
  sig_pure (C := C) (A := A_slices_ContainsFunc_Move) (G_slices_ContainsFunc_Move hC) hC mixedOrders (f := Try.f64) (by kernel_rfl) (by kernel_rfl) (by kernel_rfl) rfl fun bs r h => by
    split at h
    · exact (run_slices_ContainsFunc_Move C ..).trans h
    · cases h
theorem G_moves_Row : GOK Try.prog (Γ_moves_Row) :=
  GOK.nil
theorem sig_moves_Row : SigOK Try.prog n_moves_Row ⟨.pure, true, [4], 0, fun l => match l with | [[x0, x1, x2, x3, x4, x5]] => moves_Row_s x0 x1 x2 x3 x4 x5 | _ => none⟩ :=
  sig_pure (C := C0) (A := A_moves_Row) (G_moves_Row) cok_none mixedOrders (f := Try.f39) (by kernel_rfl) (by kernel_rfl) (by kernel_rfl) rfl fun bs r h => by
    split at h
    · exact (run_moves_Row ..).trans h
    · cases h
theorem G_word_head : GOK Try.prog (Γ_word_head) :=
  GOK.nil
theorem sig_word_head : SigOK Try.prog n_word_head ⟨.pure, true, [1, 1, 1, 1], 0, fun l => match l with | [[x0]] => word_head_s x0 | _ => none⟩ :=
  sig_pure (C := C0) (A := A_word_head) (G_word_head) cok_none mixedOrders (f := Try.f99) (by kernel_rfl) (by kernel_rfl) (by kernel_rfl) rfl fun bs r h => by
    split at h
    · exact (run_word_head ..).trans h
    · cases h
theorem G_word_signs : GOK Try.prog (Γ_word_signs) :=
  GOK.ite ⟨en_word_head, sig_word_head⟩ <|
  GOK.nil
theorem sig_word_signs : SigOK Try.prog n_word_signs ⟨.pure, true, [1, 1], 0, fun l => match l with | [[x0]] => word_signs_s x0 | _ => none⟩ :=
  sig_pure (C := C0) (A := A_word_signs) (G_word_signs) cok_none mixedOrders (f := Try.f89) (by kernel_rfl) (by kernel_rfl) (by kernel_rfl) rfl fun bs r h => by
    split at h
    · exact (run_word_signs ..).trans h
    · cases h
theorem G_word_Valid : GOK Try.prog (Γ_word_Valid) :=
  GOK.ite ⟨en_word_signs, sig_word_signs⟩ <|
  GOK.nil
theorem sig_word_Valid : SigOK Try.prog n_word_Valid ⟨.pure, true, [1], 0, fun l => match l with | [[x0]] => word_Valid_s x0 | _ => none⟩ :=
  sig_pure (C := C0) (A := A_word_Valid) (G_word_Valid) cok_none mixedOrders (f := Try.f77) (by kernel_rfl) (by kernel_rfl) (by kernel_rfl) rfl fun bs r h => by
    split at h
    · exact (run_word_Valid ..).trans h
    · cases h
theorem G_tree_One : GOK Try.prog (Γ_tree_One) :=
  GOK.ite ⟨en_word_Valid, sig_word_Valid⟩ <|
  GOK.nil
theorem sig_tree_One : SigOK Try.prog n_tree_One ⟨.pure, true, [1], 0, fun l => match l with | [[x0, x1, x2, x3]] => tree_One_s x0 x1 x2 x3 | _ => none⟩ :=
  sig_pure (C := C0) (A := A_tree_One) (G_tree_One) cok_none mixedOrders (f := Try.f60) (by kernel_rfl) (by kernel_rfl) (by kernel_rfl) rfl fun bs r h => by
    split at h
    · exact (run_tree_One ..).trans h
    · cases h
theorem G_moves_One : GOK Try.prog (Γ_moves_One) :=
  GOK.ite ⟨en_moves_Row, sig_moves_Row⟩ <|
  GOK.ite ⟨en_tree_One, sig_tree_One⟩ <|
  GOK.nil
theorem sig_moves_One : SigOK Try.prog n_moves_One ⟨.pure, true, [1], 0, fun l => match l with | [[x0, x1, x2, x3, x4, x5]] => moves_One_s x0 x1 x2 x3 x4 x5 | _ => none⟩ :=
  sig_pure (C := C0) (A := A_moves_One) (G_moves_One) cok_none mixedOrders (f := Try.f36) (by kernel_rfl) (by kernel_rfl) (by kernel_rfl) rfl fun bs r h => by
    split at h
    · exact (run_moves_One ..).trans h
    · cases h
theorem G_moves_May_1 : GOK Try.prog (Γ_moves_May_1) :=
  GOK.ite ⟨en_moves_One, sig_moves_One⟩ <|
  GOK.nil
theorem sig_moves_May_1 : SigOK Try.prog n_moves_May_1 ⟨.pure, true, [1], 0, fun l => match l with | [[x0, x1, x2, x3, x4, x5]] => moves_May_1_s x0 x1 x2 x3 x4 x5 | _ => none⟩ :=
  sig_pure (C := C0) (A := A_moves_May_1) (G_moves_May_1) cok_none mixedOrders (f := Try.f65) (by kernel_rfl) (by kernel_rfl) (by kernel_rfl) rfl fun bs r h => by
    split at h
    · exact (run_moves_May_1 ..).trans h
    · cases h
theorem K_moves_May : COK Try.prog (Cx_moves_May) :=
  cok_tbl en_moves_May_1 (fun caps cv w ok hcap => pure_of_run (C := C0) (A := A_moves_May_1) (G_moves_May_1) cok_none mixedOrders (f := Try.f65) (by kernel_rfl) (by kernel_rfl) hcap (by kernel_rfl) fun bs r h => by
    split at h
    · exact (run_moves_May_1 ..).trans h
    · cases h) <|
  cok_none
theorem G_moves_May : GOK Try.prog (Γ_moves_May) :=
  GOK.ite ⟨en_rank_Before, sig_rank_Before⟩ <|
  GOK.ite ⟨en_slices_ContainsFunc_Move, sig_slices_ContainsFunc_Move (K_moves_May)⟩ <|
  GOK.nil
theorem sig_moves_May : SigOK Try.prog n_moves_May ⟨.pure, true, [1], 0, fun l => match l with | [[x0]] => moves_May_s x0 | _ => none⟩ :=
  sig_pure (C := (Cx_moves_May)) (A := A_moves_May) (G_moves_May) (K_moves_May) mixedOrders (f := Try.f41) (by kernel_rfl) (by kernel_rfl) (by kernel_rfl) rfl fun bs r h => by
    split at h
    · exact (run_moves_May ..).trans h
    · cases h
theorem G_slices_EqualFunc_Move_Move {C : IV → List Nat → List (List IV) → Option (List IV)} (hC : COK Try.prog C) : GOK Try.prog (Γ_slices_EqualFunc_Move_Move C) :=
  GOK.nil
theorem sig_slices_EqualFunc_Move_Move {C : IV → List Nat → List (List IV) → Option (List IV)} (hC : COK Try.prog C) : SigOK Try.prog n_slices_EqualFunc_Move_Move ⟨.pure, true, [1], 0, fun l => match l with | [[x0], [x1], [x2]] => slices_EqualFunc_Move_Move_s C x0 x1 x2 | _ => none⟩ :=
  sig_pure (C := C) (A := A_slices_EqualFunc_Move_Move) (G_slices_EqualFunc_Move_Move hC) hC mixedOrders (f := Try.f66) (by kernel_rfl) (by kernel_rfl) (by kernel_rfl) rfl fun bs r h => by
    split at h
    · exact (run_slices_EqualFunc_Move_Move C ..).trans h
    · cases h
theorem G_bits_Minus : GOK Try.prog (Γ_bits_Minus) :=
  GOK.nil
theorem sig_bits_Minus : SigOK Try.prog n_bits_Minus ⟨.pure, true, [1], 0, fun l => match l with | [[x0]] => bits_Minus_s x0 | _ => none⟩ :=
  sig_pure (C := C0) (A := A_bits_Minus) (G_bits_Minus) cok_none mixedOrders (f := Try.f95) (by kernel_rfl) (by kernel_rfl) (by kernel_rfl) rfl fun bs r h => by
    split at h
    · exact (run_bits_Minus ..).trans h
    · cases h
theorem G_bits_powers : GOK Try.prog (Γ_bits_powers) :=
  GOK.nil
theorem sig_bits_powers : SigOK Try.prog n_bits_powers ⟨.pure, true, [30], 0, fun l => match l with | [] => bits_powers_s | _ => none⟩ :=
  sig_pure (C := C0) (A := A_bits_powers) (G_bits_powers) cok_none mixedOrders (f := Try.f101) (by kernel_rfl) (by kernel_rfl) (by kernel_rfl) rfl fun bs r h => by
    split at h
    · exact (run_bits_powers ..).trans h
    · cases h
theorem G_bits_split : GOK Try.prog (Γ_bits_split) :=
  GOK.ite ⟨en_bits_powers, sig_bits_powers⟩ <|
  GOK.nil
theorem sig_bits_split : SigOK Try.prog n_bits_split ⟨.pure, true, [1, 1], 0, fun l => match l with | [[x0]] => bits_split_s x0 | _ => none⟩ :=
  sig_pure (C := C0) (A := A_bits_split) (G_bits_split) cok_none mixedOrders (f := Try.f96) (by kernel_rfl) (by kernel_rfl) (by kernel_rfl) rfl fun bs r h => by
    split at h
    · exact (run_bits_split ..).trans h
    · cases h
theorem G_bits_Bits : GOK Try.prog (Γ_bits_Bits) :=
  GOK.ite ⟨en_bits_Minus, sig_bits_Minus⟩ <|
  GOK.ite ⟨en_bits_split, sig_bits_split⟩ <|
  GOK.nil
theorem sig_bits_Bits : SigOK Try.prog n_bits_Bits ⟨.pure, true, [1], 0, fun l => match l with | [[x0]] => bits_Bits_s x0 | _ => none⟩ :=
  sig_pure (C := C0) (A := A_bits_Bits) (G_bits_Bits) cok_none mixedOrders (f := Try.f85) (by kernel_rfl) (by kernel_rfl) (by kernel_rfl) rfl fun bs r h => by
    split at h
    · exact (run_bits_Bits ..).trans h
    · cases h
theorem G_bits_Same : GOK Try.prog (Γ_bits_Same) :=
  GOK.ite ⟨en_bits_Bits, sig_bits_Bits⟩ <|
  GOK.nil
theorem sig_bits_Same : SigOK Try.prog n_bits_Same ⟨.pure, true, [1], 0, fun l => match l with | [[x0], [x1]] => bits_Same_s x0 x1 | _ => none⟩ :=
  sig_pure (C := C0) (A := A_bits_Same) (G_bits_Same) cok_none mixedOrders (f := Try.f68) (by kernel_rfl) (by kernel_rfl) (by kernel_rfl) rfl fun bs r h => by
    split at h
    · exact (run_bits_Same ..).trans h
    · cases h
theorem G_moves_Same_1 : GOK Try.prog (Γ_moves_Same_1) :=
  GOK.ite ⟨en_bits_Same, sig_bits_Same⟩ <|
  GOK.nil
theorem sig_moves_Same_1 : SigOK Try.prog n_moves_Same_1 ⟨.pure, true, [1], 0, fun l => match l with | [[x0, x1, x2, x3, x4, x5], [x6, x7, x8, x9, x10, x11]] => moves_Same_1_s x0 x1 x2 x3 x4 x5 x6 x7 x8 x9 x10 x11 | _ => none⟩ :=
  sig_pure (C := C0) (A := A_moves_Same_1) (G_moves_Same_1) cok_none mixedOrders (f := Try.f67) (by kernel_rfl) (by kernel_rfl) (by kernel_rfl) rfl fun bs r h => by
    split at h
    · exact (run_moves_Same_1 ..).trans h
    · cases h
theorem K_moves_Same : COK Try.prog (Cx_moves_Same) :=
  cok_tbl en_moves_Same_1 (fun caps cv w ok hcap => pure_of_run (C := C0) (A := A_moves_Same_1) (G_moves_Same_1) cok_none mixedOrders (f := Try.f67) (by kernel_rfl) (by kernel_rfl) hcap (by kernel_rfl) fun bs r h => by
    split at h
    · exact (run_moves_Same_1 ..).trans h
    · cases h) <|
  cok_none
theorem G_moves_Same : GOK Try.prog (Γ_moves_Same) :=
  GOK.ite ⟨en_slices_EqualFunc_Move_Move, sig_slices_EqualFunc_Move_Move (K_moves_Same)⟩ <|
  GOK.nil
theorem sig_moves_Same : SigOK Try.prog n_moves_Same ⟨.pure, true, [1], 0, fun l => match l with | [[x0], [x1]] => moves_Same_s x0 x1 | _ => none⟩ :=
  sig_pure (C := (Cx_moves_Same)) (A := A_moves_Same) (G_moves_Same) (K_moves_Same) mixedOrders (f := Try.f42) (by kernel_rfl) (by kernel_rfl) (by kernel_rfl) rfl fun bs r h => by
    split at h
    · exact (run_moves_Same ..).trans h
    · cases h
theorem G_law13_live_1 : GOK Try.prog (Γ_law13_live_1) :=
  GOK.nil
theorem sig_law13_live_1 : SigOK Try.prog n_law13_live_1 ⟨.pure, true, [6], 0, fun l => match l with | [[x0], [x1]] => law13_live_1_s x0 x1 | _ => none⟩ :=
  sig_pure (C := C0) (A := A_law13_live_1) (G_law13_live_1) cok_none mixedOrders (f := Try.f59) (by kernel_rfl) (by kernel_rfl) (by kernel_rfl) rfl fun bs r h => by
    split at h
    · exact (run_law13_live_1 ..).trans h
    · cases h
theorem K_law13_live : COK Try.prog (Cx_law13_live) :=
  cok_tbl en_law13_live_1 (fun caps cv w ok hcap => pure_of_run (C := C0) (A := A_law13_live_1) (G_law13_live_1) cok_none mixedOrders (f := Try.f59) (by kernel_rfl) (by kernel_rfl) hcap (by kernel_rfl) fun bs r h => by
    split at h
    · exact (run_law13_live_1 ..).trans h
    · cases h) <|
  cok_none
theorem G_law13_live : GOK Try.prog (Γ_law13_live) :=
  GOK.ite ⟨en_moves_Insert, sig_moves_Insert⟩ <|
  GOK.ite ⟨en_moves_Since, sig_moves_Since⟩ <|
  GOK.ite ⟨en_moves_Union, sig_moves_Union⟩ <|
  GOK.ite ⟨en_moves_May, sig_moves_May⟩ <|
  GOK.ite ⟨en_moves_One, sig_moves_One⟩ <|
  GOK.ite ⟨en_moves_Row, sig_moves_Row⟩ <|
  GOK.ite ⟨en_moves_Same, sig_moves_Same⟩ <|
  GOK.nil
theorem sig_law13_live : SigOK Try.prog n_law13_live ⟨.pure, true, [1], 0, fun l => match l with | [] => law13_live_s | _ => none⟩ :=
  sig_pure (C := (Cx_law13_live)) (A := A_law13_live) (G_law13_live) (K_law13_live) mixedOrders (f := Try.f35) (by kernel_rfl) (by kernel_rfl) (by kernel_rfl) rfl fun bs r h => by
    split at h
    · exact (run_law13_live ..).trans h
    · cases h
theorem G_ref01_None : GOK Try.prog (Γ_ref01_None) :=
  GOK.nil
theorem sig_ref01_None : SigOK Try.prog n_ref01_None ⟨.pure, true, [1], 0, fun l => match l with | [] => ref01_None_s | _ => none⟩ :=
  sig_pure (C := C0) (A := A_ref01_None) (G_ref01_None) cok_none mixedOrders (f := Try.f91) (by kernel_rfl) (by kernel_rfl) (by kernel_rfl) rfl fun bs r h => by
    split at h
    · exact (run_ref01_None ..).trans h
    · cases h
theorem G_ref01_Minus : GOK Try.prog (Γ_ref01_Minus) :=
  GOK.nil
theorem sig_ref01_Minus : SigOK Try.prog n_ref01_Minus ⟨.pure, true, [1], 0, fun l => match l with | [[x0]] => ref01_Minus_s x0 | _ => none⟩ :=
  sig_pure (C := C0) (A := A_ref01_Minus) (G_ref01_Minus) cok_none mixedOrders (f := Try.f92) (by kernel_rfl) (by kernel_rfl) (by kernel_rfl) rfl fun bs r h => by
    split at h
    · exact (run_ref01_Minus ..).trans h
    · cases h
theorem G_ref01_top : GOK Try.prog (Γ_ref01_top) :=
  GOK.nil
theorem sig_ref01_top : SigOK Try.prog n_ref01_top ⟨.pure, true, [1], 0, fun l => match l with | [] => ref01_top_s | _ => none⟩ :=
  sig_pure (C := C0) (A := A_ref01_top) (G_ref01_top) cok_none mixedOrders (f := Try.f93) (by kernel_rfl) (by kernel_rfl) (by kernel_rfl) rfl fun bs r h => by
    split at h
    · exact (run_ref01_top ..).trans h
    · cases h
theorem G_ref01_Bits : GOK Try.prog (Γ_ref01_Bits) :=
  GOK.ite ⟨en_ref01_None, sig_ref01_None⟩ <|
  GOK.ite ⟨en_ref01_Minus, sig_ref01_Minus⟩ <|
  GOK.ite ⟨en_ref01_top, sig_ref01_top⟩ <|
  GOK.nil
theorem sig_ref01_Bits : SigOK Try.prog n_ref01_Bits ⟨.pure, true, [1], 0, fun l => match l with | [[x0]] => ref01_Bits_s x0 | _ => none⟩ :=
  sig_pure (C := C0) (A := A_ref01_Bits) (G_ref01_Bits) cok_none mixedOrders (f := Try.f79) (by kernel_rfl) (by kernel_rfl) (by kernel_rfl) rfl fun bs r h => by
    split at h
    · exact (run_ref01_Bits ..).trans h
    · cases h
theorem G_ref01_Same : GOK Try.prog (Γ_ref01_Same) :=
  GOK.ite ⟨en_ref01_Bits, sig_ref01_Bits⟩ <|
  GOK.nil
theorem sig_ref01_Same : SigOK Try.prog n_ref01_Same ⟨.pure, true, [1], 0, fun l => match l with | [[x0], [x1]] => ref01_Same_s x0 x1 | _ => none⟩ :=
  sig_pure (C := C0) (A := A_ref01_Same) (G_ref01_Same) cok_none mixedOrders (f := Try.f62) (by kernel_rfl) (by kernel_rfl) (by kernel_rfl) rfl fun bs r h => by
    split at h
    · exact (run_ref01_Same ..).trans h
    · cases h
theorem G_ref12_Alike : GOK Try.prog (Γ_ref12_Alike) :=
  GOK.ite ⟨en_ref01_Same, sig_ref01_Same⟩ <|
  GOK.nil
theorem sig_ref12_Alike : SigOK Try.prog n_ref12_Alike ⟨.pure, true, [1], 0, fun l => match l with | [[x0, x1, x2, x3], [x4, x5, x6, x7]] => ref12_Alike_s x0 x1 x2 x3 x4 x5 x6 x7 | _ => none⟩ :=
  sig_pure (C := C0) (A := A_ref12_Alike) (G_ref12_Alike) cok_none mixedOrders (f := Try.f38) (by kernel_rfl) (by kernel_rfl) (by kernel_rfl) rfl fun bs r h => by
    split at h
    · exact (run_ref12_Alike ..).trans h
    · cases h
theorem G_ref13_Alike : GOK Try.prog (Γ_ref13_Alike) :=
  GOK.ite ⟨en_ref13_Row, sig_ref13_Row⟩ <|
  GOK.ite ⟨en_ref12_Alike, sig_ref12_Alike⟩ <|
  GOK.nil
theorem sig_ref13_Alike : SigOK Try.prog n_ref13_Alike ⟨.pure, true, [1], 0, fun l => match l with | [[x0, x1, x2, x3, x4, x5], [x6, x7, x8, x9, x10, x11]] => ref13_Alike_s x0 x1 x2 x3 x4 x5 x6 x7 x8 x9 x10 x11 | _ => none⟩ :=
  sig_pure (C := C0) (A := A_ref13_Alike) (G_ref13_Alike) cok_none mixedOrders (f := Try.f50) (by kernel_rfl) (by kernel_rfl) (by kernel_rfl) rfl fun bs r h => by
    split at h
    · exact (run_ref13_Alike ..).trans h
    · cases h
theorem G_ref13_Same : GOK Try.prog (Γ_ref13_Same) :=
  GOK.ite ⟨en_ref13_Alike, sig_ref13_Alike⟩ <|
  GOK.nil
theorem sig_ref13_Same : SigOK Try.prog n_ref13_Same ⟨.pure, true, [1], 0, fun l => match l with | [[x0], [x1]] => ref13_Same_s x0 x1 | _ => none⟩ :=
  sig_pure (C := C0) (A := A_ref13_Same) (G_ref13_Same) cok_none mixedOrders (f := Try.f43) (by kernel_rfl) (by kernel_rfl) (by kernel_rfl) rfl fun bs r h => by
    split at h
    · exact (run_ref13_Same ..).trans h
    · cases h
theorem G_ref13_Since : GOK Try.prog (Γ_ref13_Since) :=
  GOK.ite ⟨en_ref02_Before, sig_ref02_Before⟩ <|
  GOK.nil
theorem sig_ref13_Since : SigOK Try.prog n_ref13_Since ⟨.pure, false, [1], 0, fun l => match l with | [[x0], [x1, x2]] => ref13_Since_s x0 x1 x2 | _ => none⟩ :=
  sig_pure (C := C0) (A := A_ref13_Since) (G_ref13_Since) cok_none mixedOrders (f := Try.f45) (by kernel_rfl) (by kernel_rfl) (by kernel_rfl) rfl fun bs r h => by
    split at h
    · exact (run_ref13_Since ..).trans h
    · cases h
theorem G_ref13_Insert : GOK Try.prog (Γ_ref13_Insert) :=
  GOK.ite ⟨en_ref02_Before, sig_ref02_Before⟩ <|
  GOK.nil
theorem sig_ref13_Insert : SigOK Try.prog n_ref13_Insert ⟨.pure, false, [1, 1, 1], 0, fun l => match l with | [[x0], [x1, x2, x3, x4, x5, x6]] => ref13_Insert_s x0 x1 x2 x3 x4 x5 x6 | _ => none⟩ :=
  sig_pure (C := C0) (A := A_ref13_Insert) (G_ref13_Insert) cok_none mixedOrders (f := Try.f49) (by kernel_rfl) (by kernel_rfl) (by kernel_rfl) rfl fun bs r h => by
    split at h
    · exact (run_ref13_Insert ..).trans h
    · cases h
theorem G_ref13_Union : GOK Try.prog (Γ_ref13_Union) :=
  GOK.ite ⟨en_ref13_Insert, sig_ref13_Insert⟩ <|
  GOK.nil
theorem sig_ref13_Union : SigOK Try.prog n_ref13_Union ⟨.pure, false, [1], 0, fun l => match l with | [[x0], [x1]] => ref13_Union_s x0 x1 | _ => none⟩ :=
  sig_pure (C := C0) (A := A_ref13_Union) (G_ref13_Union) cok_none mixedOrders (f := Try.f47) (by kernel_rfl) (by kernel_rfl) (by kernel_rfl) rfl fun bs r h => by
    split at h
    · exact (run_ref13_Union ..).trans h
    · cases h
theorem G_law13_MovesTells : GOK Try.prog (Γ_law13_MovesTells) :=
  GOK.ite ⟨en_ref13_Few, sig_ref13_Few⟩ <|
  GOK.ite ⟨en_law13_live, sig_law13_live⟩ <|
  GOK.ite ⟨en_moves_One, sig_moves_One⟩ <|
  GOK.ite ⟨en_ref13_One, sig_ref13_One⟩ <|
  GOK.ite ⟨en_moves_Row, sig_moves_Row⟩ <|
  GOK.ite ⟨en_ref13_Row, sig_ref13_Row⟩ <|
  GOK.ite ⟨en_ref12_Alike, sig_ref12_Alike⟩ <|
  GOK.ite ⟨en_moves_May, sig_moves_May⟩ <|
  GOK.ite ⟨en_ref13_May, sig_ref13_May⟩ <|
  GOK.ite ⟨en_moves_Same, sig_moves_Same⟩ <|
  GOK.ite ⟨en_ref13_Same, sig_ref13_Same⟩ <|
  GOK.ite ⟨en_moves_Since, sig_moves_Since⟩ <|
  GOK.ite ⟨en_ref13_Since, sig_ref13_Since⟩ <|
  GOK.ite ⟨en_moves_Union, sig_moves_Union⟩ <|
  GOK.ite ⟨en_ref13_Union, sig_ref13_Union⟩ <|
  GOK.nil
theorem sig_law13_MovesTells : SigOK Try.prog n_law13_MovesTells ⟨.pure, true, [1], 0, fun l => match l with | [[x0], [x1], [x2, x3]] => law13_MovesTells_s x0 x1 x2 x3 | _ => none⟩ :=
  sig_pure (C := C0) (A := A_law13_MovesTells) (G_law13_MovesTells) cok_none mixedOrders (f := Try.f9) (by kernel_rfl) (by kernel_rfl) (by kernel_rfl) rfl fun bs r h => by
    split at h
    · exact (run_law13_MovesTells ..).trans h
    · cases h
theorem G_law13_MovesInserts : GOK Try.prog (Γ_law13_MovesInserts) :=
  GOK.ite ⟨en_ref13_Few, sig_ref13_Few⟩ <|
  GOK.ite ⟨en_law13_live, sig_law13_live⟩ <|
  GOK.ite ⟨en_moves_Insert, sig_moves_Insert⟩ <|
  GOK.ite ⟨en_ref13_Insert, sig_ref13_Insert⟩ <|
  GOK.ite ⟨en_ref13_Same, sig_ref13_Same⟩ <|
  GOK.nil
theorem sig_law13_MovesInserts : SigOK Try.prog n_law13_MovesInserts ⟨.pure, true, [1], 0, fun l => match l with | [[x0], [x1, x2, x3, x4, x5, x6]] => law13_MovesInserts_s x0 x1 x2 x3 x4 x5 x6 | _ => none⟩ :=
  sig_pure (C := C0) (A := A_law13_MovesInserts) (G_law13_MovesInserts) cok_none mixedOrders (f := Try.f10) (by kernel_rfl) (by kernel_rfl) (by kernel_rfl) rfl fun bs r h => by
    split at h
    · exact (run_law13_MovesInserts ..).trans h
    · cases h
theorem G_law13_MovesMay : GOK Try.prog (Γ_law13_MovesMay) :=
  GOK.ite ⟨en_ref13_Few, sig_ref13_Few⟩ <|
  GOK.ite ⟨en_ref13_May, sig_ref13_May⟩ <|
  GOK.ite ⟨en_ref13_One, sig_ref13_One⟩ <|
  GOK.ite ⟨en_law13_live, sig_law13_live⟩ <|
  GOK.ite ⟨en_moves_Insert, sig_moves_Insert⟩ <|
  GOK.ite ⟨en_moves_May, sig_moves_May⟩ <|
  GOK.ite ⟨en_ref13_Same, sig_ref13_Same⟩ <|
  GOK.ite ⟨en_ref13_Alike, sig_ref13_Alike⟩ <|
  GOK.nil
theorem sig_law13_MovesMay : SigOK Try.prog n_law13_MovesMay ⟨.pure, true, [1], 0, fun l => match l with | [[x0], [x1, x2, x3, x4, x5, x6]] => law13_MovesMay_s x0 x1 x2 x3 x4 x5 x6 | _ => none⟩ :=
  sig_pure (C := C0) (A := A_law13_MovesMay) (G_law13_MovesMay) cok_none mixedOrders (f := Try.f11) (by kernel_rfl) (by kernel_rfl) (by kernel_rfl) rfl fun bs r h => by
    split at h
    · exact (run_law13_MovesMay ..).trans h
    · cases h
theorem G_law13_MovesOrder : GOK Try.prog (Γ_law13_MovesOrder) :=
  GOK.ite ⟨en_ref13_Few, sig_ref13_Few⟩ <|
  GOK.ite ⟨en_law13_live, sig_law13_live⟩ <|
  GOK.ite ⟨en_ref13_Alike, sig_ref13_Alike⟩ <|
  GOK.ite ⟨en_moves_Insert, sig_moves_Insert⟩ <|
  GOK.ite ⟨en_moves_Union, sig_moves_Union⟩ <|
  GOK.ite ⟨en_ref02_Before, sig_ref02_Before⟩ <|
  GOK.ite ⟨en_ref13_Same, sig_ref13_Same⟩ <|
  GOK.nil
theorem sig_law13_MovesOrder : SigOK Try.prog n_law13_MovesOrder ⟨.pure, true, [1], 0, fun l => match l with | [[x0], [x1]] => law13_MovesOrder_s x0 x1 | _ => none⟩ :=
  sig_pure (C := C0) (A := A_law13_MovesOrder) (G_law13_MovesOrder) cok_none mixedOrders (f := Try.f12) (by kernel_rfl) (by kernel_rfl) (by kernel_rfl) rfl fun bs r h => by
    split at h
    · exact (run_law13_MovesOrder ..).trans h
    · cases h
theorem G_law13_MovesSince : GOK Try.prog (Γ_law13_MovesSince) :=
  GOK.ite ⟨en_ref13_Few, sig_ref13_Few⟩ <|
  GOK.ite ⟨en_ref13_May, sig_ref13_May⟩ <|
  GOK.ite ⟨en_law13_live, sig_law13_live⟩ <|
  GOK.ite ⟨en_moves_Since, sig_moves_Since⟩ <|
  GOK.ite ⟨en_ref13_Same, sig_ref13_Same⟩ <|
  GOK.ite ⟨en_ref02_Before, sig_ref02_Before⟩ <|
  GOK.ite ⟨en_moves_Union, sig_moves_Union⟩ <|
  GOK.nil
theorem sig_law13_MovesSince : SigOK Try.prog n_law13_MovesSince ⟨.pure, true, [1], 0, fun l => match l with | [[x0], [x1, x2]] => law13_MovesSince_s x0 x1 x2 | _ => none⟩ :=
  sig_pure (C := C0) (A := A_law13_MovesSince) (G_law13_MovesSince) cok_none mixedOrders (f := Try.f13) (by kernel_rfl) (by kernel_rfl) (by kernel_rfl) rfl fun bs r h => by
    split at h
    · exact (run_law13_MovesSince ..).trans h
    · cases h
theorem G_law13_MovesUnion : GOK Try.prog (Γ_law13_MovesUnion) :=
  GOK.ite ⟨en_ref13_Few, sig_ref13_Few⟩ <|
  GOK.ite ⟨en_ref13_May, sig_ref13_May⟩ <|
  GOK.ite ⟨en_law13_live, sig_law13_live⟩ <|
  GOK.ite ⟨en_ref13_Alike, sig_ref13_Alike⟩ <|
  GOK.ite ⟨en_moves_Union, sig_moves_Union⟩ <|
  GOK.ite ⟨en_moves_Insert, sig_moves_Insert⟩ <|
  GOK.ite ⟨en_moves_May, sig_moves_May⟩ <|
  GOK.ite ⟨en_ref13_Same, sig_ref13_Same⟩ <|
  GOK.nil
theorem sig_law13_MovesUnion : SigOK Try.prog n_law13_MovesUnion ⟨.pure, true, [1], 0, fun l => match l with | [[x0], [x1], [x2]] => law13_MovesUnion_s x0 x1 x2 | _ => none⟩ :=
  sig_pure (C := C0) (A := A_law13_MovesUnion) (G_law13_MovesUnion) cok_none mixedOrders (f := Try.f14) (by kernel_rfl) (by kernel_rfl) (by kernel_rfl) rfl fun bs r h => by
    split at h
    · exact (run_law13_MovesUnion ..).trans h
    · cases h
end Go.AM

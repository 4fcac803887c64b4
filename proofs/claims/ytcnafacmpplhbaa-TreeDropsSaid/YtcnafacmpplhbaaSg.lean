/- The contracts of all functions that are reached. -/
import Derived.Test.YtcnafacmpplhbaaCk
import Derived.Test.YtcnafacmpplhbaaWk
import Derived.Test.YtcnafacmpplhbaaHd
import Derived.Test.YtcnafacmpplhbaaHm
import Derived.Test.YtcnafacmpplhbaaKh
import Derived.Test.YtcnafacmpplhbaaHr
import Derived.Test.YtcnafacmpplhbaaTk
import Derived.Test.YtcnafacmpplhbaaAh
import Derived.Test.YtcnafacmpplhbaaAg
import Derived.Test.YtcnafacmpplhbaaAe
set_option linter.unusedVariables false
set_option linter.unusedSimpArgs false
set_option maxRecDepth 100000
namespace Go.AM
open Go.Proofs
theorem mixedOrders : Try.prog.follows .mixedOrders = true := by kernel_rfl
theorem en_ref12_Few : Enters Try.prog n_ref12_Few := enters_of (f := Try.f15) (by kernel_rfl) (by kernel_rfl) (by kernel_rfl)
theorem en_ref12_Same : Enters Try.prog n_ref12_Same := enters_of (f := Try.f19) (by kernel_rfl) (by kernel_rfl) (by kernel_rfl)
theorem en_ref05_Same : Enters Try.prog n_ref05_Same := enters_of (f := Try.f25) (by kernel_rfl) (by kernel_rfl) (by kernel_rfl)
theorem en_ref12_May : Enters Try.prog n_ref12_May := enters_of (f := Try.f28) (by kernel_rfl) (by kernel_rfl) (by kernel_rfl)
theorem en_tree_Find : Enters Try.prog n_tree_Find := enters_of (f := Try.f30) (by kernel_rfl) (by kernel_rfl) (by kernel_rfl)
theorem en_ref12_Alike : Enters Try.prog n_ref12_Alike := enters_of (f := Try.f31) (by kernel_rfl) (by kernel_rfl) (by kernel_rfl)
theorem en_tree_Above : Enters Try.prog n_tree_Above := enters_of (f := Try.f32) (by kernel_rfl) (by kernel_rfl) (by kernel_rfl)
theorem en_tree_May : Enters Try.prog n_tree_May := enters_of (f := Try.f34) (by kernel_rfl) (by kernel_rfl) (by kernel_rfl)
theorem en_law12_live : Enters Try.prog n_law12_live := enters_of (f := Try.f35) (by kernel_rfl) (by kernel_rfl) (by kernel_rfl)
theorem en_tree_One : Enters Try.prog n_tree_One := enters_of (f := Try.f36) (by kernel_rfl) (by kernel_rfl) (by kernel_rfl)
theorem en_ref12_One : Enters Try.prog n_ref12_One := enters_of (f := Try.f37) (by kernel_rfl) (by kernel_rfl) (by kernel_rfl)
theorem en_ref12_Find : Enters Try.prog n_ref12_Find := enters_of (f := Try.f38) (by kernel_rfl) (by kernel_rfl) (by kernel_rfl)
theorem en_tree_Same : Enters Try.prog n_tree_Same := enters_of (f := Try.f39) (by kernel_rfl) (by kernel_rfl) (by kernel_rfl)
theorem en_tree_Drop : Enters Try.prog n_tree_Drop := enters_of (f := Try.f40) (by kernel_rfl) (by kernel_rfl) (by kernel_rfl)
theorem en_ref12_Drop : Enters Try.prog n_ref12_Drop := enters_of (f := Try.f41) (by kernel_rfl) (by kernel_rfl) (by kernel_rfl)
theorem en_tree_Path : Enters Try.prog n_tree_Path := enters_of (f := Try.f42) (by kernel_rfl) (by kernel_rfl) (by kernel_rfl)
theorem en_ref12_Path : Enters Try.prog n_ref12_Path := enters_of (f := Try.f43) (by kernel_rfl) (by kernel_rfl) (by kernel_rfl)
theorem en_tree_Set : Enters Try.prog n_tree_Set := enters_of (f := Try.f44) (by kernel_rfl) (by kernel_rfl) (by kernel_rfl)
theorem en_ref12_Set : Enters Try.prog n_ref12_Set := enters_of (f := Try.f45) (by kernel_rfl) (by kernel_rfl) (by kernel_rfl)
theorem en_ref12_Above : Enters Try.prog n_ref12_Above := enters_of (f := Try.f46) (by kernel_rfl) (by kernel_rfl) (by kernel_rfl)
theorem en_tree_Kids : Enters Try.prog n_tree_Kids := enters_of (f := Try.f47) (by kernel_rfl) (by kernel_rfl) (by kernel_rfl)
theorem en_ref12_Kids : Enters Try.prog n_ref12_Kids := enters_of (f := Try.f48) (by kernel_rfl) (by kernel_rfl) (by kernel_rfl)
theorem en_tree_Reached : Enters Try.prog n_tree_Reached := enters_of (f := Try.f49) (by kernel_rfl) (by kernel_rfl) (by kernel_rfl)
theorem en_ref12_Reached : Enters Try.prog n_ref12_Reached := enters_of (f := Try.f50) (by kernel_rfl) (by kernel_rfl) (by kernel_rfl)
theorem en_ref02_Less : Enters Try.prog n_ref02_Less := enters_of (f := Try.f51) (by kernel_rfl) (by kernel_rfl) (by kernel_rfl)
theorem en_tree_place : Enters Try.prog n_tree_place := enters_of (f := Try.f57) (by kernel_rfl) (by kernel_rfl) (by kernel_rfl)
theorem en_ref01_Same : Enters Try.prog n_ref01_Same := enters_of (f := Try.f58) (by kernel_rfl) (by kernel_rfl) (by kernel_rfl)
theorem en_word_Valid : Enters Try.prog n_word_Valid := enters_of (f := Try.f61) (by kernel_rfl) (by kernel_rfl) (by kernel_rfl)
theorem en_ref04_Valid : Enters Try.prog n_ref04_Valid := enters_of (f := Try.f62) (by kernel_rfl) (by kernel_rfl) (by kernel_rfl)
theorem en_ref12_place : Enters Try.prog n_ref12_place := enters_of (f := Try.f63) (by kernel_rfl) (by kernel_rfl) (by kernel_rfl)
theorem en_slices_EqualFunc_Row_Row : Enters Try.prog n_slices_EqualFunc_Row_Row := enters_of (f := Try.f64) (by kernel_rfl) (by kernel_rfl) (by kernel_rfl)
theorem en_tree_Same_1 : Enters Try.prog n_tree_Same_1 := enters_of (f := Try.f65) (by kernel_rfl) (by kernel_rfl) (by kernel_rfl)
theorem en_bits_Same : Enters Try.prog n_bits_Same := enters_of (f := Try.f66) (by kernel_rfl) (by kernel_rfl) (by kernel_rfl)
theorem en_slices_Delete_Row : Enters Try.prog n_slices_Delete_Row := enters_of (f := Try.f67) (by kernel_rfl) (by kernel_rfl) (by kernel_rfl)
theorem en_slices_Clone_Row : Enters Try.prog n_slices_Clone_Row := enters_of (f := Try.f68) (by kernel_rfl) (by kernel_rfl) (by kernel_rfl)
theorem en_slices_IndexFunc_Row : Enters Try.prog n_slices_IndexFunc_Row := enters_of (f := Try.f70) (by kernel_rfl) (by kernel_rfl) (by kernel_rfl)
theorem en_tree_Set_1 : Enters Try.prog n_tree_Set_1 := enters_of (f := Try.f71) (by kernel_rfl) (by kernel_rfl) (by kernel_rfl)
theorem en_slices_Insert_Row : Enters Try.prog n_slices_Insert_Row := enters_of (f := Try.f72) (by kernel_rfl) (by kernel_rfl) (by kernel_rfl)
theorem en_slices_SortStableFunc_Row : Enters Try.prog n_slices_SortStableFunc_Row := enters_of (f := Try.f73) (by kernel_rfl) (by kernel_rfl) (by kernel_rfl)
theorem en_tree_Kids_1 : Enters Try.prog n_tree_Kids_1 := enters_of (f := Try.f74) (by kernel_rfl) (by kernel_rfl) (by kernel_rfl)
theorem en_rank_Less : Enters Try.prog n_rank_Less := enters_of (f := Try.f75) (by kernel_rfl) (by kernel_rfl) (by kernel_rfl)
theorem en_ref02_Compare : Enters Try.prog n_ref02_Compare := enters_of (f := Try.f78) (by kernel_rfl) (by kernel_rfl) (by kernel_rfl)
theorem en_tree_place_1 : Enters Try.prog n_tree_place_1 := enters_of (f := Try.f81) (by kernel_rfl) (by kernel_rfl) (by kernel_rfl)
theorem en_ref01_Bits : Enters Try.prog n_ref01_Bits := enters_of (f := Try.f82) (by kernel_rfl) (by kernel_rfl) (by kernel_rfl)
theorem en_word_signs : Enters Try.prog n_word_signs := enters_of (f := Try.f84) (by kernel_rfl) (by kernel_rfl) (by kernel_rfl)
theorem en_ref04_First : Enters Try.prog n_ref04_First := enters_of (f := Try.f85) (by kernel_rfl) (by kernel_rfl) (by kernel_rfl)
theorem en_bits_Bits : Enters Try.prog n_bits_Bits := enters_of (f := Try.f86) (by kernel_rfl) (by kernel_rfl) (by kernel_rfl)
theorem en_rank_first : Enters Try.prog n_rank_first := enters_of (f := Try.f92) (by kernel_rfl) (by kernel_rfl) (by kernel_rfl)
theorem en_rank_Less_1 : Enters Try.prog n_rank_Less_1 := enters_of (f := Try.f93) (by kernel_rfl) (by kernel_rfl) (by kernel_rfl)
theorem en_rank_Compare : Enters Try.prog n_rank_Compare := enters_of (f := Try.f94) (by kernel_rfl) (by kernel_rfl) (by kernel_rfl)
theorem en_rank_Less_2 : Enters Try.prog n_rank_Less_2 := enters_of (f := Try.f95) (by kernel_rfl) (by kernel_rfl) (by kernel_rfl)
theorem en_cmp_Compare_int : Enters Try.prog n_cmp_Compare_int := enters_of (f := Try.f96) (by kernel_rfl) (by kernel_rfl) (by kernel_rfl)
theorem en_ref02_Key : Enters Try.prog n_ref02_Key := enters_of (f := Try.f99) (by kernel_rfl) (by kernel_rfl) (by kernel_rfl)
theorem en_ref01_None : Enters Try.prog n_ref01_None := enters_of (f := Try.f101) (by kernel_rfl) (by kernel_rfl) (by kernel_rfl)
theorem en_ref01_Minus : Enters Try.prog n_ref01_Minus := enters_of (f := Try.f102) (by kernel_rfl) (by kernel_rfl) (by kernel_rfl)
theorem en_ref01_top : Enters Try.prog n_ref01_top := enters_of (f := Try.f103) (by kernel_rfl) (by kernel_rfl) (by kernel_rfl)
theorem en_word_head : Enters Try.prog n_word_head := enters_of (f := Try.f104) (by kernel_rfl) (by kernel_rfl) (by kernel_rfl)
theorem en_ref04_sign : Enters Try.prog n_ref04_sign := enters_of (f := Try.f105) (by kernel_rfl) (by kernel_rfl) (by kernel_rfl)
theorem en_bits_Minus : Enters Try.prog n_bits_Minus := enters_of (f := Try.f106) (by kernel_rfl) (by kernel_rfl) (by kernel_rfl)
theorem en_bits_split : Enters Try.prog n_bits_split := enters_of (f := Try.f107) (by kernel_rfl) (by kernel_rfl) (by kernel_rfl)
theorem en_slices_Index_int : Enters Try.prog n_slices_Index_int := enters_of (f := Try.f108) (by kernel_rfl) (by kernel_rfl) (by kernel_rfl)
theorem en_cmp_Compare_uint64 : Enters Try.prog n_cmp_Compare_uint64 := enters_of (f := Try.f112) (by kernel_rfl) (by kernel_rfl) (by kernel_rfl)
theorem en_rank_Key : Enters Try.prog n_rank_Key := enters_of (f := Try.f113) (by kernel_rfl) (by kernel_rfl) (by kernel_rfl)
theorem en_cmp_isNaN_int : Enters Try.prog n_cmp_isNaN_int := enters_of (f := Try.f114) (by kernel_rfl) (by kernel_rfl) (by kernel_rfl)
theorem en_ref04_in : Enters Try.prog n_ref04_in := enters_of (f := Try.f126) (by kernel_rfl) (by kernel_rfl) (by kernel_rfl)
theorem en_bits_powers : Enters Try.prog n_bits_powers := enters_of (f := Try.f127) (by kernel_rfl) (by kernel_rfl) (by kernel_rfl)
theorem en_cmp_isNaN_uint64 : Enters Try.prog n_cmp_isNaN_uint64 := enters_of (f := Try.f130) (by kernel_rfl) (by kernel_rfl) (by kernel_rfl)
theorem sig_tree_Above : SigOK Try.prog n_tree_Above ⟨.pure, true, [1], 0, fun l => match l with | [[x0], [x1], [x2]] => tree_Above_s x0 x1 x2 | _ => none⟩ :=
  sig_of_above fun w A b off cap ps ss fs hA hlt hmax hwf hat x y hy => callsIn_wide.1 (above_in 1 (Nat.le_refl _) w A b off cap ps ss fs hA hlt hmax hwf hat x y hy)
theorem G_word_head : GOK Try.prog (Γ_word_head) :=
  GOK.nil
theorem sig_word_head : SigOK Try.prog n_word_head ⟨.pure, true, [1, 1, 1, 1], 0, fun l => match l with | [[x0]] => word_head_s x0 | _ => none⟩ :=
  sig_pure (C := C0) (A := A_word_head) (G_word_head) cok_none mixedOrders (f := Try.f104) (by kernel_rfl) (by kernel_rfl) (by kernel_rfl) rfl fun bs r h => by
    split at h
    · exact (run_word_head ..).trans h
    · cases h
theorem G_word_signs : GOK Try.prog (Γ_word_signs) :=
  GOK.ite ⟨en_word_head, sig_word_head⟩ <|
  GOK.nil
theorem sig_word_signs : SigOK Try.prog n_word_signs ⟨.pure, true, [1, 1], 0, fun l => match l with | [[x0]] => word_signs_s x0 | _ => none⟩ :=
  sig_pure (C := C0) (A := A_word_signs) (G_word_signs) cok_none mixedOrders (f := Try.f84) (by kernel_rfl) (by kernel_rfl) (by kernel_rfl) rfl fun bs r h => by
    split at h
    · exact (run_word_signs ..).trans h
    · cases h
theorem G_word_Valid : GOK Try.prog (Γ_word_Valid) :=
  GOK.ite ⟨en_word_signs, sig_word_signs⟩ <|
  GOK.nil
theorem sig_word_Valid : SigOK Try.prog n_word_Valid ⟨.pure, true, [1], 0, fun l => match l with | [[x0]] => word_Valid_s x0 | _ => none⟩ :=
  sig_pure (C := C0) (A := A_word_Valid) (G_word_Valid) cok_none mixedOrders (f := Try.f61) (by kernel_rfl) (by kernel_rfl) (by kernel_rfl) rfl fun bs r h => by
    split at h
    · exact (run_word_Valid ..).trans h
    · cases h
theorem G_tree_One : GOK Try.prog (Γ_tree_One) :=
  GOK.ite ⟨en_word_Valid, sig_word_Valid⟩ <|
  GOK.nil
theorem sig_tree_One : SigOK Try.prog n_tree_One ⟨.pure, true, [1], 0, fun l => match l with | [[x0, x1, x2, x3]] => tree_One_s x0 x1 x2 x3 | _ => none⟩ :=
  sig_pure (C := C0) (A := A_tree_One) (G_tree_One) cok_none mixedOrders (f := Try.f36) (by kernel_rfl) (by kernel_rfl) (by kernel_rfl) rfl fun bs r h => by
    split at h
    · exact (run_tree_One ..).trans h
    · cases h
theorem sig_tree_May : SigOK Try.prog n_tree_May ⟨.pure, true, [1], 0, fun l => match l with | [[x0]] => tree_May_s x0 | _ => none⟩ :=
  sig_of_may (O := (fun l => match l with | [[x0, x1, x2, x3]] => tree_One_s x0 x1 x2 x3 | _ => none)) sig_tree_One fun w A b off cap ps ss fs ob hA hlt hmax hwf hat hone => callsIn_wide.1 (may_in 1 (Nat.le_refl _) w A b off cap ps ss fs ob hA hlt hmax hwf hat hone)
theorem G_rank_first {C : IV → List Nat → List (List IV) → Option (List IV)} (hC : COK Try.prog C) : GOK Try.prog (Γ_rank_first C) :=
  GOK.nil
theorem sig_rank_first {C : IV → List Nat → List (List IV) → Option (List IV)} (hC : COK Try.prog C) : SigOK Try.prog n_rank_first ⟨.pure, true, [1], 0, fun l => match l with | [[x0]] => rank_first_s C x0 | _ => none⟩ :=
  sig_pure (C := C) (A := A_rank_first) (G_rank_first hC) hC mixedOrders (f := Try.f92) (by kernel_rfl) (by kernel_rfl) (by kernel_rfl) rfl fun bs r h => by
    split at h
    · exact (run_rank_first C ..).trans h
    · cases h
theorem G_bits_Minus : GOK Try.prog (Γ_bits_Minus) :=
  GOK.nil
theorem sig_bits_Minus : SigOK Try.prog n_bits_Minus ⟨.pure, true, [1], 0, fun l => match l with | [[x0]] => bits_Minus_s x0 | _ => none⟩ :=
  sig_pure (C := C0) (A := A_bits_Minus) (G_bits_Minus) cok_none mixedOrders (f := Try.f106) (by kernel_rfl) (by kernel_rfl) (by kernel_rfl) rfl fun bs r h => by
    split at h
    · exact (run_bits_Minus ..).trans h
    · cases h
theorem G_bits_powers : GOK Try.prog (Γ_bits_powers) :=
  GOK.nil
theorem sig_bits_powers : SigOK Try.prog n_bits_powers ⟨.pure, true, [30], 0, fun l => match l with | [] => bits_powers_s | _ => none⟩ :=
  sig_pure (C := C0) (A := A_bits_powers) (G_bits_powers) cok_none mixedOrders (f := Try.f127) (by kernel_rfl) (by kernel_rfl) (by kernel_rfl) rfl fun bs r h => by
    split at h
    · exact (run_bits_powers ..).trans h
    · cases h
theorem G_bits_split : GOK Try.prog (Γ_bits_split) :=
  GOK.ite ⟨en_bits_powers, sig_bits_powers⟩ <|
  GOK.nil
theorem sig_bits_split : SigOK Try.prog n_bits_split ⟨.pure, true, [1, 1], 0, fun l => match l with | [[x0]] => bits_split_s x0 | _ => none⟩ :=
  sig_pure (C := C0) (A := A_bits_split) (G_bits_split) cok_none mixedOrders (f := Try.f107) (by kernel_rfl) (by kernel_rfl) (by kernel_rfl) rfl fun bs r h => by
    split at h
    · exact (run_bits_split ..).trans h
    · cases h
theorem G_bits_Bits : GOK Try.prog (Γ_bits_Bits) :=
  GOK.ite ⟨en_bits_Minus, sig_bits_Minus⟩ <|
  GOK.ite ⟨en_bits_split, sig_bits_split⟩ <|
  GOK.nil
theorem sig_bits_Bits : SigOK Try.prog n_bits_Bits ⟨.pure, true, [1], 0, fun l => match l with | [[x0]] => bits_Bits_s x0 | _ => none⟩ :=
  sig_pure (C := C0) (A := A_bits_Bits) (G_bits_Bits) cok_none mixedOrders (f := Try.f86) (by kernel_rfl) (by kernel_rfl) (by kernel_rfl) rfl fun bs r h => by
    split at h
    · exact (run_bits_Bits ..).trans h
    · cases h
theorem G_rank_Key : GOK Try.prog (Γ_rank_Key) :=
  GOK.ite ⟨en_bits_Bits, sig_bits_Bits⟩ <|
  GOK.nil
theorem sig_rank_Key : SigOK Try.prog n_rank_Key ⟨.pure, true, [1], 0, fun l => match l with | [[x0]] => rank_Key_s x0 | _ => none⟩ :=
  sig_pure (C := C0) (A := A_rank_Key) (G_rank_Key) cok_none mixedOrders (f := Try.f113) (by kernel_rfl) (by kernel_rfl) (by kernel_rfl) rfl fun bs r h => by
    split at h
    · exact (run_rank_Key ..).trans h
    · cases h
theorem G_cmp_isNaN_uint64 : GOK Try.prog (Γ_cmp_isNaN_uint64) :=
  GOK.nil
theorem sig_cmp_isNaN_uint64 : SigOK Try.prog n_cmp_isNaN_uint64 ⟨.pure, true, [1], 0, fun l => match l with | [[x0]] => cmp_isNaN_uint64_s x0 | _ => none⟩ :=
  sig_pure (C := C0) (A := A_cmp_isNaN_uint64) (G_cmp_isNaN_uint64) cok_none mixedOrders (f := Try.f130) (by kernel_rfl) (by kernel_rfl) (by kernel_rfl) rfl fun bs r h => by
    split at h
    · exact (run_cmp_isNaN_uint64 ..).trans h
    · cases h
theorem G_cmp_Compare_uint64 : GOK Try.prog (Γ_cmp_Compare_uint64) :=
  GOK.ite ⟨en_cmp_isNaN_uint64, sig_cmp_isNaN_uint64⟩ <|
  GOK.nil
theorem sig_cmp_Compare_uint64 : SigOK Try.prog n_cmp_Compare_uint64 ⟨.pure, true, [1], 0, fun l => match l with | [[x0], [x1]] => cmp_Compare_uint64_s x0 x1 | _ => none⟩ :=
  sig_pure (C := C0) (A := A_cmp_Compare_uint64) (G_cmp_Compare_uint64) cok_none mixedOrders (f := Try.f112) (by kernel_rfl) (by kernel_rfl) (by kernel_rfl) rfl fun bs r h => by
    split at h
    · exact (run_cmp_Compare_uint64 ..).trans h
    · cases h
theorem G_rank_Compare : GOK Try.prog (Γ_rank_Compare) :=
  GOK.ite ⟨en_rank_Key, sig_rank_Key⟩ <|
  GOK.ite ⟨en_cmp_Compare_uint64, sig_cmp_Compare_uint64⟩ <|
  GOK.nil
theorem sig_rank_Compare : SigOK Try.prog n_rank_Compare ⟨.pure, true, [1], 0, fun l => match l with | [[x0], [x1]] => rank_Compare_s x0 x1 | _ => none⟩ :=
  sig_pure (C := C0) (A := A_rank_Compare) (G_rank_Compare) cok_none mixedOrders (f := Try.f94) (by kernel_rfl) (by kernel_rfl) (by kernel_rfl) rfl fun bs r h => by
    split at h
    · exact (run_rank_Compare ..).trans h
    · cases h
theorem G_rank_Less_1 : GOK Try.prog (Γ_rank_Less_1) :=
  GOK.ite ⟨en_rank_Compare, sig_rank_Compare⟩ <|
  GOK.nil
theorem G_cmp_isNaN_int : GOK Try.prog (Γ_cmp_isNaN_int) :=
  GOK.nil
theorem sig_cmp_isNaN_int : SigOK Try.prog n_cmp_isNaN_int ⟨.pure, true, [1], 0, fun l => match l with | [[x0]] => cmp_isNaN_int_s x0 | _ => none⟩ :=
  sig_pure (C := C0) (A := A_cmp_isNaN_int) (G_cmp_isNaN_int) cok_none mixedOrders (f := Try.f114) (by kernel_rfl) (by kernel_rfl) (by kernel_rfl) rfl fun bs r h => by
    split at h
    · exact (run_cmp_isNaN_int ..).trans h
    · cases h
theorem G_cmp_Compare_int : GOK Try.prog (Γ_cmp_Compare_int) :=
  GOK.ite ⟨en_cmp_isNaN_int, sig_cmp_isNaN_int⟩ <|
  GOK.nil
theorem sig_cmp_Compare_int : SigOK Try.prog n_cmp_Compare_int ⟨.pure, true, [1], 0, fun l => match l with | [[x0], [x1]] => cmp_Compare_int_s x0 x1 | _ => none⟩ :=
  sig_pure (C := C0) (A := A_cmp_Compare_int) (G_cmp_Compare_int) cok_none mixedOrders (f := Try.f96) (by kernel_rfl) (by kernel_rfl) (by kernel_rfl) rfl fun bs r h => by
    split at h
    · exact (run_cmp_Compare_int ..).trans h
    · cases h
theorem G_rank_Less_2 : GOK Try.prog (Γ_rank_Less_2) :=
  GOK.ite ⟨en_cmp_Compare_int, sig_cmp_Compare_int⟩ <|
  GOK.nil
theorem K_rank_Less : COK Try.prog (Cx_rank_Less) :=
  cok_tbl en_rank_Less_1 (fun caps cv w ok hcap => pure_of_run (C := C0) (A := A_rank_Less_1) (G_rank_Less_1) cok_none mixedOrders (f := Try.f93) (by kernel_rfl) (by kernel_rfl) hcap (by kernel_rfl) fun bs r h => by
    split at h
    · exact (run_rank_Less_1 ..).trans h
    · cases h) <|
  cok_tbl en_rank_Less_2 (fun caps cv w ok hcap => pure_of_run (C := C0) (A := A_rank_Less_2) (G_rank_Less_2) cok_none mixedOrders (f := Try.f95) (by kernel_rfl) (by kernel_rfl) hcap (by kernel_rfl) fun bs r h => by
    split at h
    · exact (run_rank_Less_2 ..).trans h
    · cases h) <|
  cok_none
theorem G_rank_Less : GOK Try.prog (Γ_rank_Less) :=
  GOK.ite ⟨en_rank_first, sig_rank_first (K_rank_Less)⟩ <|
  GOK.nil
theorem sig_rank_Less : SigOK Try.prog n_rank_Less ⟨.pure, true, [1], 0, fun l => match l with | [[x0, x1, x2, x3], [x4, x5, x6, x7]] => rank_Less_s x0 x1 x2 x3 x4 x5 x6 x7 | _ => none⟩ :=
  sig_pure (C := (Cx_rank_Less)) (A := A_rank_Less) (G_rank_Less) (K_rank_Less) mixedOrders (f := Try.f75) (by kernel_rfl) (by kernel_rfl) (by kernel_rfl) rfl fun bs r h => by
    split at h
    · exact (run_rank_Less ..).trans h
    · cases h
theorem G_tree_Kids_1 : GOK Try.prog (Γ_tree_Kids_1) :=
  GOK.ite ⟨en_rank_Less, sig_rank_Less⟩ <|
  GOK.nil
theorem sig_tree_Kids_1 : SigOK Try.prog n_tree_Kids_1 ⟨.pure, true, [1], 0, fun l => match l with | [[x0, x1, x2, x3], [x4, x5, x6, x7]] => tree_Kids_1_s x0 x1 x2 x3 x4 x5 x6 x7 | _ => none⟩ :=
  sig_pure (C := C0) (A := A_tree_Kids_1) (G_tree_Kids_1) cok_none mixedOrders (f := Try.f74) (by kernel_rfl) (by kernel_rfl) (by kernel_rfl) rfl fun bs r h => by
    split at h
    · exact (run_tree_Kids_1 ..).trans h
    · cases h
theorem sig_slices_SortStableFunc_Row : SigOK Try.prog n_slices_SortStableFunc_Row ⟨.inpl, false, [], 4, fun l => match l with | [[x0], [x1]] => slices_SortStableFunc_Row_s x0 x1 | _ => none⟩ :=
  sig_of_sort (kg := n_tree_Kids_1) (fun w0 blk off cap d R hd => callsIn_wide.1 (sort_in 1 w0 blk off cap d R hd n_tree_Kids_1 cfV en_tree_Kids_1 (cmp_of_sig sig_tree_Kids_1 kids_less))) fun w A cap => callsIn_wide.1 (sort0_in 1 w A cap _)
theorem G_slices_Index_int : GOK Try.prog (Γ_slices_Index_int) :=
  GOK.nil
theorem sig_slices_Index_int : SigOK Try.prog n_slices_Index_int ⟨.pure, true, [1], 0, fun l => match l with | [[x0], [x1]] => slices_Index_int_s x0 x1 | _ => none⟩ :=
  sig_pure (C := C0) (A := A_slices_Index_int) (G_slices_Index_int) cok_none mixedOrders (f := Try.f108) (by kernel_rfl) (by kernel_rfl) (by kernel_rfl) rfl fun bs r h => by
    split at h
    · exact (run_slices_Index_int ..).trans h
    · cases h
theorem G_slices_Contains_int : GOK Try.prog (Γ_slices_Contains_int) :=
  GOK.ite ⟨en_slices_Index_int, sig_slices_Index_int⟩ <|
  GOK.nil
theorem sig_slices_Contains_int : SigOK Try.prog n_slices_Contains_int ⟨.pure, true, [1], 0, fun l => match l with | [[x0], [x1]] => slices_Contains_int_s x0 x1 | _ => none⟩ :=
  sig_pure (C := C0) (A := A_slices_Contains_int) (G_slices_Contains_int) cok_none mixedOrders (f := Try.f87) (by kernel_rfl) (by kernel_rfl) (by kernel_rfl) rfl fun bs r h => by
    split at h
    · exact (run_slices_Contains_int ..).trans h
    · cases h
theorem sig_tree_Path : SigOK Try.prog n_tree_Path ⟨.pure, false, [1, 1], 0, fun l => match l with | [[x0], [x1]] => tree_Path_s x0 x1 | _ => none⟩ :=
  sig_of_path fun w A b off cap ps ss fs hA hlt hmax hwf hat c hcw => callsIn_wide.1 (pathof_in 1 (Nat.le_refl _) w A b off cap ps ss fs hA hlt hmax hwf hat c hcw (con_of_sig sig_slices_Contains_int contains_ints))
theorem sig_tree_Reached : SigOK Try.prog n_tree_Reached ⟨.pure, false, [1], 0, fun l => match l with | [[x0]] => tree_Reached_s x0 | _ => none⟩ :=
  sig_of_reached fun w A b off cap ps ss fs hA hlt hmax hwf hat => callsIn_wide.1 (reached_in 1 w A b off cap ps ss fs hA hlt hmax hwf hat (con_of_sig sig_slices_Contains_int contains_ints))
theorem G_ref12_Few : GOK Try.prog (Γ_ref12_Few) :=
  GOK.nil
theorem sig_ref12_Few : SigOK Try.prog n_ref12_Few ⟨.pure, true, [1], 0, fun l => match l with | [[x0]] => ref12_Few_s x0 | _ => none⟩ :=
  sig_pure (C := C0) (A := A_ref12_Few) (G_ref12_Few) cok_none mixedOrders (f := Try.f15) (by kernel_rfl) (by kernel_rfl) (by kernel_rfl) rfl fun bs r h => by
    split at h
    · exact (run_ref12_Few ..).trans h
    · cases h
theorem G_slices_IndexFunc_Row {C : IV → List Nat → List (List IV) → Option (List IV)} (hC : COK Try.prog C) : GOK Try.prog (Γ_slices_IndexFunc_Row C) :=
  GOK.nil
theorem sig_slices_IndexFunc_Row {C : IV → List Nat → List (List IV) → Option (List IV)} (hC : COK Try.prog C) : SigOK Try.prog n_slices_IndexFunc_Row ⟨.pure, true, [1], 0, fun l => match l with | [[x0], [x1]] => slices_IndexFunc_Row_s C x0 x1 | _ => none⟩ :=
  sig_pure (C := C) (A := A_slices_IndexFunc_Row) (G_slices_IndexFunc_Row hC) hC mixedOrders (f := Try.f70) (by kernel_rfl) (by kernel_rfl) (by kernel_rfl) rfl fun bs r h => by
    split at h
    · exact (run_slices_IndexFunc_Row C ..).trans h
    · cases h
theorem G_tree_place_1 : GOK Try.prog (Γ_tree_place_1) :=
  GOK.nil
theorem K_tree_place : COK Try.prog (Cx_tree_place) :=
  cok_tbl en_tree_place_1 (fun caps cv w ok hcap => pure_of_run (C := C0) (A := A_tree_place_1) (G_tree_place_1) cok_none mixedOrders (f := Try.f81) (by kernel_rfl) (by kernel_rfl) hcap (by kernel_rfl) fun bs r h => by
    split at h
    · exact (run_tree_place_1 ..).trans h
    · cases h) <|
  cok_none
theorem G_tree_place : GOK Try.prog (Γ_tree_place) :=
  GOK.ite ⟨en_slices_IndexFunc_Row, sig_slices_IndexFunc_Row (K_tree_place)⟩ <|
  GOK.nil
theorem sig_tree_place : SigOK Try.prog n_tree_place ⟨.pure, true, [1, 1], 0, fun l => match l with | [[x0], [x1]] => tree_place_s x0 x1 | _ => none⟩ :=
  sig_pure (C := (Cx_tree_place)) (A := A_tree_place) (G_tree_place) (K_tree_place) mixedOrders (f := Try.f57) (by kernel_rfl) (by kernel_rfl) (by kernel_rfl) rfl fun bs r h => by
    split at h
    · exact (run_tree_place ..).trans h
    · cases h
theorem G_tree_Set_1 : GOK Try.prog (Γ_tree_Set_1) :=
  GOK.nil
theorem K_tree_Set : COK Try.prog (Cx_tree_Set) :=
  cok_tbl en_tree_Set_1 (fun caps cv w ok hcap => pure_of_run (C := C0) (A := A_tree_Set_1) (G_tree_Set_1) cok_none mixedOrders (f := Try.f71) (by kernel_rfl) (by kernel_rfl) hcap (by kernel_rfl) fun bs r h => by
    split at h
    · exact (run_tree_Set_1 ..).trans h
    · cases h) <|
  cok_none
theorem G_tree_Set : GOK Try.prog (Γ_tree_Set) :=
  GOK.ite ⟨en_slices_Clone_Row, sig_slices_Clone_Row⟩ <|
  GOK.ite ⟨en_tree_place, sig_tree_place⟩ <|
  GOK.ite ⟨en_slices_IndexFunc_Row, sig_slices_IndexFunc_Row (K_tree_Set)⟩ <|
  GOK.ite ⟨en_slices_Insert_Row, sig_slices_Insert_Row⟩ <|
  GOK.nil
theorem sig_tree_Set : SigOK Try.prog n_tree_Set ⟨.pure, false, [1], 0, fun l => match l with | [[x0], [x1, x2, x3, x4]] => tree_Set_s x0 x1 x2 x3 x4 | _ => none⟩ :=
  sig_pure (C := (Cx_tree_Set)) (A := A_tree_Set) (G_tree_Set) (K_tree_Set) mixedOrders (f := Try.f44) (by kernel_rfl) (by kernel_rfl) (by kernel_rfl) rfl fun bs r h => by
    split at h
    · exact (run_tree_Set ..).trans h
    · cases h
theorem G_ref05_Same : GOK Try.prog (Γ_ref05_Same) :=
  GOK.nil
theorem sig_ref05_Same : SigOK Try.prog n_ref05_Same ⟨.pure, true, [1], 0, fun l => match l with | [[x0], [x1]] => ref05_Same_s x0 x1 | _ => none⟩ :=
  sig_pure (C := C0) (A := A_ref05_Same) (G_ref05_Same) cok_none mixedOrders (f := Try.f25) (by kernel_rfl) (by kernel_rfl) (by kernel_rfl) rfl fun bs r h => by
    split at h
    · exact (run_ref05_Same ..).trans h
    · cases h
theorem G_ref12_place : GOK Try.prog (Γ_ref12_place) :=
  GOK.nil
theorem sig_ref12_place : SigOK Try.prog n_ref12_place ⟨.pure, true, [1], 0, fun l => match l with | [[x0], [x1]] => ref12_place_s x0 x1 | _ => none⟩ :=
  sig_pure (C := C0) (A := A_ref12_place) (G_ref12_place) cok_none mixedOrders (f := Try.f63) (by kernel_rfl) (by kernel_rfl) (by kernel_rfl) rfl fun bs r h => by
    split at h
    · exact (run_ref12_place ..).trans h
    · cases h
theorem G_ref12_Find : GOK Try.prog (Γ_ref12_Find) :=
  GOK.ite ⟨en_ref12_place, sig_ref12_place⟩ <|
  GOK.nil
theorem sig_ref12_Find : SigOK Try.prog n_ref12_Find ⟨.pure, true, [4, 1], 0, fun l => match l with | [[x0], [x1]] => ref12_Find_s x0 x1 | _ => none⟩ :=
  sig_pure (C := C0) (A := A_ref12_Find) (G_ref12_Find) cok_none mixedOrders (f := Try.f38) (by kernel_rfl) (by kernel_rfl) (by kernel_rfl) rfl fun bs r h => by
    split at h
    · exact (run_ref12_Find ..).trans h
    · cases h
theorem G_ref12_Above : GOK Try.prog (Γ_ref12_Above) :=
  GOK.ite ⟨en_ref12_Find, sig_ref12_Find⟩ <|
  GOK.nil
theorem sig_ref12_Above : SigOK Try.prog n_ref12_Above ⟨.pure, true, [1], 0, fun l => match l with | [[x0], [x1], [x2]] => ref12_Above_s x0 x1 x2 | _ => none⟩ :=
  sig_pure (C := C0) (A := A_ref12_Above) (G_ref12_Above) cok_none mixedOrders (f := Try.f46) (by kernel_rfl) (by kernel_rfl) (by kernel_rfl) rfl fun bs r h => by
    split at h
    · exact (run_ref12_Above ..).trans h
    · cases h
theorem G_ref12_Set : GOK Try.prog (Γ_ref12_Set) :=
  GOK.ite ⟨en_ref12_place, sig_ref12_place⟩ <|
  GOK.nil
theorem sig_ref12_Set : SigOK Try.prog n_ref12_Set ⟨.pure, false, [1], 0, fun l => match l with | [[x0], [x1, x2, x3, x4]] => ref12_Set_s x0 x1 x2 x3 x4 | _ => none⟩ :=
  sig_pure (C := C0) (A := A_ref12_Set) (G_ref12_Set) cok_none mixedOrders (f := Try.f45) (by kernel_rfl) (by kernel_rfl) (by kernel_rfl) rfl fun bs r h => by
    split at h
    · exact (run_ref12_Set ..).trans h
    · cases h
theorem G_ref01_None : GOK Try.prog (Γ_ref01_None) :=
  GOK.nil
theorem sig_ref01_None : SigOK Try.prog n_ref01_None ⟨.pure, true, [1], 0, fun l => match l with | [] => ref01_None_s | _ => none⟩ :=
  sig_pure (C := C0) (A := A_ref01_None) (G_ref01_None) cok_none mixedOrders (f := Try.f101) (by kernel_rfl) (by kernel_rfl) (by kernel_rfl) rfl fun bs r h => by
    split at h
    · exact (run_ref01_None ..).trans h
    · cases h
theorem G_ref01_Minus : GOK Try.prog (Γ_ref01_Minus) :=
  GOK.nil
theorem sig_ref01_Minus : SigOK Try.prog n_ref01_Minus ⟨.pure, true, [1], 0, fun l => match l with | [[x0]] => ref01_Minus_s x0 | _ => none⟩ :=
  sig_pure (C := C0) (A := A_ref01_Minus) (G_ref01_Minus) cok_none mixedOrders (f := Try.f102) (by kernel_rfl) (by kernel_rfl) (by kernel_rfl) rfl fun bs r h => by
    split at h
    · exact (run_ref01_Minus ..).trans h
    · cases h
theorem G_ref01_top : GOK Try.prog (Γ_ref01_top) :=
  GOK.nil
theorem sig_ref01_top : SigOK Try.prog n_ref01_top ⟨.pure, true, [1], 0, fun l => match l with | [] => ref01_top_s | _ => none⟩ :=
  sig_pure (C := C0) (A := A_ref01_top) (G_ref01_top) cok_none mixedOrders (f := Try.f103) (by kernel_rfl) (by kernel_rfl) (by kernel_rfl) rfl fun bs r h => by
    split at h
    · exact (run_ref01_top ..).trans h
    · cases h
theorem G_ref01_Bits : GOK Try.prog (Γ_ref01_Bits) :=
  GOK.ite ⟨en_ref01_None, sig_ref01_None⟩ <|
  GOK.ite ⟨en_ref01_Minus, sig_ref01_Minus⟩ <|
  GOK.ite ⟨en_ref01_top, sig_ref01_top⟩ <|
  GOK.nil
theorem sig_ref01_Bits : SigOK Try.prog n_ref01_Bits ⟨.pure, true, [1], 0, fun l => match l with | [[x0]] => ref01_Bits_s x0 | _ => none⟩ :=
  sig_pure (C := C0) (A := A_ref01_Bits) (G_ref01_Bits) cok_none mixedOrders (f := Try.f82) (by kernel_rfl) (by kernel_rfl) (by kernel_rfl) rfl fun bs r h => by
    split at h
    · exact (run_ref01_Bits ..).trans h
    · cases h
theorem G_ref01_Same : GOK Try.prog (Γ_ref01_Same) :=
  GOK.ite ⟨en_ref01_Bits, sig_ref01_Bits⟩ <|
  GOK.nil
theorem sig_ref01_Same : SigOK Try.prog n_ref01_Same ⟨.pure, true, [1], 0, fun l => match l with | [[x0], [x1]] => ref01_Same_s x0 x1 | _ => none⟩ :=
  sig_pure (C := C0) (A := A_ref01_Same) (G_ref01_Same) cok_none mixedOrders (f := Try.f58) (by kernel_rfl) (by kernel_rfl) (by kernel_rfl) rfl fun bs r h => by
    split at h
    · exact (run_ref01_Same ..).trans h
    · cases h
theorem G_ref12_Alike : GOK Try.prog (Γ_ref12_Alike) :=
  GOK.ite ⟨en_ref01_Same, sig_ref01_Same⟩ <|
  GOK.nil
theorem sig_ref12_Alike : SigOK Try.prog n_ref12_Alike ⟨.pure, true, [1], 0, fun l => match l with | [[x0, x1, x2, x3], [x4, x5, x6, x7]] => ref12_Alike_s x0 x1 x2 x3 x4 x5 x6 x7 | _ => none⟩ :=
  sig_pure (C := C0) (A := A_ref12_Alike) (G_ref12_Alike) cok_none mixedOrders (f := Try.f31) (by kernel_rfl) (by kernel_rfl) (by kernel_rfl) rfl fun bs r h => by
    split at h
    · exact (run_ref12_Alike ..).trans h
    · cases h
theorem G_ref12_Same : GOK Try.prog (Γ_ref12_Same) :=
  GOK.ite ⟨en_ref12_Alike, sig_ref12_Alike⟩ <|
  GOK.nil
theorem sig_ref12_Same : SigOK Try.prog n_ref12_Same ⟨.pure, true, [1], 0, fun l => match l with | [[x0], [x1]] => ref12_Same_s x0 x1 | _ => none⟩ :=
  sig_pure (C := C0) (A := A_ref12_Same) (G_ref12_Same) cok_none mixedOrders (f := Try.f19) (by kernel_rfl) (by kernel_rfl) (by kernel_rfl) rfl fun bs r h => by
    split at h
    · exact (run_ref12_Same ..).trans h
    · cases h
theorem G_ref04_in : GOK Try.prog (Γ_ref04_in) :=
  GOK.nil
theorem sig_ref04_in : SigOK Try.prog n_ref04_in ⟨.pure, true, [1], 0, fun l => match l with | [[x0], [x1], [x2], [x3]] => ref04_in_s x0 x1 x2 x3 | _ => none⟩ :=
  sig_pure (C := C0) (A := A_ref04_in) (G_ref04_in) cok_none mixedOrders (f := Try.f126) (by kernel_rfl) (by kernel_rfl) (by kernel_rfl) rfl fun bs r h => by
    split at h
    · exact (run_ref04_in ..).trans h
    · cases h
theorem G_ref04_sign : GOK Try.prog (Γ_ref04_sign) :=
  GOK.ite ⟨en_ref04_in, sig_ref04_in⟩ <|
  GOK.nil
theorem sig_ref04_sign : SigOK Try.prog n_ref04_sign ⟨.pure, true, [1], 0, fun l => match l with | [[x0], [x1]] => ref04_sign_s x0 x1 | _ => none⟩ :=
  sig_pure (C := C0) (A := A_ref04_sign) (G_ref04_sign) cok_none mixedOrders (f := Try.f105) (by kernel_rfl) (by kernel_rfl) (by kernel_rfl) rfl fun bs r h => by
    split at h
    · exact (run_ref04_sign ..).trans h
    · cases h
theorem G_ref04_First : GOK Try.prog (Γ_ref04_First) :=
  GOK.ite ⟨en_ref04_sign, sig_ref04_sign⟩ <|
  GOK.nil
theorem sig_ref04_First : SigOK Try.prog n_ref04_First ⟨.pure, true, [1, 1], 0, fun l => match l with | [[x0]] => ref04_First_s x0 | _ => none⟩ :=
  sig_pure (C := C0) (A := A_ref04_First) (G_ref04_First) cok_none mixedOrders (f := Try.f85) (by kernel_rfl) (by kernel_rfl) (by kernel_rfl) rfl fun bs r h => by
    split at h
    · exact (run_ref04_First ..).trans h
    · cases h
theorem G_ref04_Valid : GOK Try.prog (Γ_ref04_Valid) :=
  GOK.ite ⟨en_ref04_First, sig_ref04_First⟩ <|
  GOK.nil
theorem sig_ref04_Valid : SigOK Try.prog n_ref04_Valid ⟨.pure, true, [1], 0, fun l => match l with | [[x0]] => ref04_Valid_s x0 | _ => none⟩ :=
  sig_pure (C := C0) (A := A_ref04_Valid) (G_ref04_Valid) cok_none mixedOrders (f := Try.f62) (by kernel_rfl) (by kernel_rfl) (by kernel_rfl) rfl fun bs r h => by
    split at h
    · exact (run_ref04_Valid ..).trans h
    · cases h
theorem G_ref12_One : GOK Try.prog (Γ_ref12_One) :=
  GOK.ite ⟨en_ref04_Valid, sig_ref04_Valid⟩ <|
  GOK.nil
theorem sig_ref12_One : SigOK Try.prog n_ref12_One ⟨.pure, true, [1], 0, fun l => match l with | [[x0, x1, x2, x3]] => ref12_One_s x0 x1 x2 x3 | _ => none⟩ :=
  sig_pure (C := C0) (A := A_ref12_One) (G_ref12_One) cok_none mixedOrders (f := Try.f37) (by kernel_rfl) (by kernel_rfl) (by kernel_rfl) rfl fun bs r h => by
    split at h
    · exact (run_ref12_One ..).trans h
    · cases h
theorem G_ref12_May : GOK Try.prog (Γ_ref12_May) :=
  GOK.ite ⟨en_ref12_One, sig_ref12_One⟩ <|
  GOK.ite ⟨en_ref12_Above, sig_ref12_Above⟩ <|
  GOK.nil
theorem sig_ref12_May : SigOK Try.prog n_ref12_May ⟨.pure, true, [1], 0, fun l => match l with | [[x0]] => ref12_May_s x0 | _ => none⟩ :=
  sig_pure (C := C0) (A := A_ref12_May) (G_ref12_May) cok_none mixedOrders (f := Try.f28) (by kernel_rfl) (by kernel_rfl) (by kernel_rfl) rfl fun bs r h => by
    split at h
    · exact (run_ref12_May ..).trans h
    · cases h
theorem G_tree_Find : GOK Try.prog (Γ_tree_Find) :=
  GOK.ite ⟨en_tree_place, sig_tree_place⟩ <|
  GOK.nil
theorem sig_tree_Find : SigOK Try.prog n_tree_Find ⟨.pure, true, [4, 1], 0, fun l => match l with | [[x0], [x1]] => tree_Find_s x0 x1 | _ => none⟩ :=
  sig_pure (C := C0) (A := A_tree_Find) (G_tree_Find) cok_none mixedOrders (f := Try.f30) (by kernel_rfl) (by kernel_rfl) (by kernel_rfl) rfl fun bs r h => by
    split at h
    · exact (run_tree_Find ..).trans h
    · cases h
theorem K_tree_Kids : COK Try.prog (Cx_tree_Kids) :=
  cok_tbl en_tree_Kids_1 (fun caps cv w ok hcap => pure_of_run (C := C0) (A := A_tree_Kids_1) (G_tree_Kids_1) cok_none mixedOrders (f := Try.f74) (by kernel_rfl) (by kernel_rfl) hcap (by kernel_rfl) fun bs r h => by
    split at h
    · exact (run_tree_Kids_1 ..).trans h
    · cases h) <|
  cok_none
theorem G_tree_Kids : GOK Try.prog (Γ_tree_Kids) :=
  GOK.ite ⟨en_slices_SortStableFunc_Row, sig_slices_SortStableFunc_Row⟩ <|
  GOK.nil
theorem sig_tree_Kids : SigOK Try.prog n_tree_Kids ⟨.pure, false, [1], 0, fun l => match l with | [[x0], [x1]] => tree_Kids_s x0 x1 | _ => none⟩ :=
  sig_pure (C := (Cx_tree_Kids)) (A := A_tree_Kids) (G_tree_Kids) (K_tree_Kids) mixedOrders (f := Try.f47) (by kernel_rfl) (by kernel_rfl) (by kernel_rfl) rfl fun bs r h => by
    split at h
    · exact (run_tree_Kids ..).trans h
    · cases h
theorem G_tree_Drop : GOK Try.prog (Γ_tree_Drop) :=
  GOK.ite ⟨en_tree_place, sig_tree_place⟩ <|
  GOK.ite ⟨en_slices_Clone_Row, sig_slices_Clone_Row⟩ <|
  GOK.ite ⟨en_slices_Delete_Row, sig_slices_Delete_Row⟩ <|
  GOK.nil
theorem sig_tree_Drop : SigOK Try.prog n_tree_Drop ⟨.pure, false, [1], 0, fun l => match l with | [[x0], [x1]] => tree_Drop_s x0 x1 | _ => none⟩ :=
  sig_pure (C := C0) (A := A_tree_Drop) (G_tree_Drop) cok_none mixedOrders (f := Try.f40) (by kernel_rfl) (by kernel_rfl) (by kernel_rfl) rfl fun bs r h => by
    split at h
    · exact (run_tree_Drop ..).trans h
    · cases h
theorem G_slices_EqualFunc_Row_Row {C : IV → List Nat → List (List IV) → Option (List IV)} (hC : COK Try.prog C) : GOK Try.prog (Γ_slices_EqualFunc_Row_Row C) :=
  GOK.nil
theorem sig_slices_EqualFunc_Row_Row {C : IV → List Nat → List (List IV) → Option (List IV)} (hC : COK Try.prog C) : SigOK Try.prog n_slices_EqualFunc_Row_Row ⟨.pure, true, [1], 0, fun l => match l with | [[x0], [x1], [x2]] => slices_EqualFunc_Row_Row_s C x0 x1 x2 | _ => none⟩ :=
  sig_pure (C := C) (A := A_slices_EqualFunc_Row_Row) (G_slices_EqualFunc_Row_Row hC) hC mixedOrders (f := Try.f64) (by kernel_rfl) (by kernel_rfl) (by kernel_rfl) rfl fun bs r h => by
    split at h
    · exact (run_slices_EqualFunc_Row_Row C ..).trans h
    · cases h
theorem G_bits_Same : GOK Try.prog (Γ_bits_Same) :=
  GOK.ite ⟨en_bits_Bits, sig_bits_Bits⟩ <|
  GOK.nil
theorem sig_bits_Same : SigOK Try.prog n_bits_Same ⟨.pure, true, [1], 0, fun l => match l with | [[x0], [x1]] => bits_Same_s x0 x1 | _ => none⟩ :=
  sig_pure (C := C0) (A := A_bits_Same) (G_bits_Same) cok_none mixedOrders (f := Try.f66) (by kernel_rfl) (by kernel_rfl) (by kernel_rfl) rfl fun bs r h => by
    split at h
    · exact (run_bits_Same ..).trans h
    · cases h
theorem G_tree_Same_1 : GOK Try.prog (Γ_tree_Same_1) :=
  GOK.ite ⟨en_bits_Same, sig_bits_Same⟩ <|
  GOK.nil
theorem K_tree_Same : COK Try.prog (Cx_tree_Same) :=
  cok_tbl en_tree_Same_1 (fun caps cv w ok hcap => pure_of_run (C := C0) (A := A_tree_Same_1) (G_tree_Same_1) cok_none mixedOrders (f := Try.f65) (by kernel_rfl) (by kernel_rfl) hcap (by kernel_rfl) fun bs r h => by
    split at h
    · exact (run_tree_Same_1 ..).trans h
    · cases h) <|
  cok_none
theorem G_tree_Same : GOK Try.prog (Γ_tree_Same) :=
  GOK.ite ⟨en_slices_EqualFunc_Row_Row, sig_slices_EqualFunc_Row_Row (K_tree_Same)⟩ <|
  GOK.nil
theorem sig_tree_Same : SigOK Try.prog n_tree_Same ⟨.pure, true, [1], 0, fun l => match l with | [[x0], [x1]] => tree_Same_s x0 x1 | _ => none⟩ :=
  sig_pure (C := (Cx_tree_Same)) (A := A_tree_Same) (G_tree_Same) (K_tree_Same) mixedOrders (f := Try.f39) (by kernel_rfl) (by kernel_rfl) (by kernel_rfl) rfl fun bs r h => by
    split at h
    · exact (run_tree_Same ..).trans h
    · cases h
theorem G_law12_live : GOK Try.prog (Γ_law12_live) :=
  GOK.ite ⟨en_tree_Find, sig_tree_Find⟩ <|
  GOK.ite ⟨en_tree_Path, sig_tree_Path⟩ <|
  GOK.ite ⟨en_tree_Kids, sig_tree_Kids⟩ <|
  GOK.ite ⟨en_tree_Set, sig_tree_Set⟩ <|
  GOK.ite ⟨en_ref05_Same, sig_ref05_Same⟩ <|
  GOK.ite ⟨en_tree_Drop, sig_tree_Drop⟩ <|
  GOK.ite ⟨en_tree_Above, sig_tree_Above⟩ <|
  GOK.ite ⟨en_tree_May, sig_tree_May⟩ <|
  GOK.ite ⟨en_tree_Reached, sig_tree_Reached⟩ <|
  GOK.ite ⟨en_tree_Same, sig_tree_Same⟩ <|
  GOK.ite ⟨en_tree_One, sig_tree_One⟩ <|
  GOK.nil
theorem sig_law12_live : SigOK Try.prog n_law12_live ⟨.pure, true, [1], 0, fun l => match l with | [] => law12_live_s | _ => none⟩ :=
  sig_pure (C := C0) (A := A_law12_live) (G_law12_live) cok_none mixedOrders (f := Try.f35) (by kernel_rfl) (by kernel_rfl) (by kernel_rfl) rfl fun bs r h => by
    split at h
    · exact (run_law12_live ..).trans h
    · cases h
theorem G_ref12_Drop : GOK Try.prog (Γ_ref12_Drop) :=
  GOK.ite ⟨en_ref12_place, sig_ref12_place⟩ <|
  GOK.nil
theorem sig_ref12_Drop : SigOK Try.prog n_ref12_Drop ⟨.pure, false, [1], 0, fun l => match l with | [[x0], [x1]] => ref12_Drop_s x0 x1 | _ => none⟩ :=
  sig_pure (C := C0) (A := A_ref12_Drop) (G_ref12_Drop) cok_none mixedOrders (f := Try.f41) (by kernel_rfl) (by kernel_rfl) (by kernel_rfl) rfl fun bs r h => by
    split at h
    · exact (run_ref12_Drop ..).trans h
    · cases h
theorem G_law12_TreeTells : GOK Try.prog (Γ_law12_TreeTells) :=
  GOK.ite ⟨en_ref12_Few, sig_ref12_Few⟩ <|
  GOK.ite ⟨en_law12_live, sig_law12_live⟩ <|
  GOK.ite ⟨en_tree_One, sig_tree_One⟩ <|
  GOK.ite ⟨en_ref12_One, sig_ref12_One⟩ <|
  GOK.ite ⟨en_tree_Find, sig_tree_Find⟩ <|
  GOK.ite ⟨en_ref12_Find, sig_ref12_Find⟩ <|
  GOK.ite ⟨en_tree_May, sig_tree_May⟩ <|
  GOK.ite ⟨en_ref12_May, sig_ref12_May⟩ <|
  GOK.ite ⟨en_tree_Same, sig_tree_Same⟩ <|
  GOK.ite ⟨en_ref12_Same, sig_ref12_Same⟩ <|
  GOK.ite ⟨en_ref12_Alike, sig_ref12_Alike⟩ <|
  GOK.ite ⟨en_tree_Drop, sig_tree_Drop⟩ <|
  GOK.ite ⟨en_ref12_Drop, sig_ref12_Drop⟩ <|
  GOK.nil
theorem sig_law12_TreeTells : SigOK Try.prog n_law12_TreeTells ⟨.pure, true, [1], 0, fun l => match l with | [[x0], [x1], [x2]] => law12_TreeTells_s x0 x1 x2 | _ => none⟩ :=
  sig_pure (C := C0) (A := A_law12_TreeTells) (G_law12_TreeTells) cok_none mixedOrders (f := Try.f8) (by kernel_rfl) (by kernel_rfl) (by kernel_rfl) rfl fun bs r h => by
    split at h
    · exact (run_law12_TreeTells ..).trans h
    · cases h
theorem G_ref12_Path : GOK Try.prog (Γ_ref12_Path) :=
  GOK.ite ⟨en_ref12_Find, sig_ref12_Find⟩ <|
  GOK.nil
theorem sig_ref12_Path : SigOK Try.prog n_ref12_Path ⟨.pure, false, [1, 1], 0, fun l => match l with | [[x0], [x1]] => ref12_Path_s x0 x1 | _ => none⟩ :=
  sig_pure (C := C0) (A := A_ref12_Path) (G_ref12_Path) cok_none mixedOrders (f := Try.f43) (by kernel_rfl) (by kernel_rfl) (by kernel_rfl) rfl fun bs r h => by
    split at h
    · exact (run_ref12_Path ..).trans h
    · cases h
theorem G_ref02_Key : GOK Try.prog (Γ_ref02_Key) :=
  GOK.ite ⟨en_ref01_Bits, sig_ref01_Bits⟩ <|
  GOK.nil
theorem sig_ref02_Key : SigOK Try.prog n_ref02_Key ⟨.pure, true, [1], 0, fun l => match l with | [[x0]] => ref02_Key_s x0 | _ => none⟩ :=
  sig_pure (C := C0) (A := A_ref02_Key) (G_ref02_Key) cok_none mixedOrders (f := Try.f99) (by kernel_rfl) (by kernel_rfl) (by kernel_rfl) rfl fun bs r h => by
    split at h
    · exact (run_ref02_Key ..).trans h
    · cases h
theorem G_ref02_Compare : GOK Try.prog (Γ_ref02_Compare) :=
  GOK.ite ⟨en_ref02_Key, sig_ref02_Key⟩ <|
  GOK.nil
theorem sig_ref02_Compare : SigOK Try.prog n_ref02_Compare ⟨.pure, true, [1], 0, fun l => match l with | [[x0], [x1]] => ref02_Compare_s x0 x1 | _ => none⟩ :=
  sig_pure (C := C0) (A := A_ref02_Compare) (G_ref02_Compare) cok_none mixedOrders (f := Try.f78) (by kernel_rfl) (by kernel_rfl) (by kernel_rfl) rfl fun bs r h => by
    split at h
    · exact (run_ref02_Compare ..).trans h
    · cases h
theorem G_ref02_Less : GOK Try.prog (Γ_ref02_Less) :=
  GOK.ite ⟨en_ref02_Compare, sig_ref02_Compare⟩ <|
  GOK.nil
theorem sig_ref02_Less : SigOK Try.prog n_ref02_Less ⟨.pure, true, [1], 0, fun l => match l with | [[x0, x1, x2, x3], [x4, x5, x6, x7]] => ref02_Less_s x0 x1 x2 x3 x4 x5 x6 x7 | _ => none⟩ :=
  sig_pure (C := C0) (A := A_ref02_Less) (G_ref02_Less) cok_none mixedOrders (f := Try.f51) (by kernel_rfl) (by kernel_rfl) (by kernel_rfl) rfl fun bs r h => by
    split at h
    · exact (run_ref02_Less ..).trans h
    · cases h
theorem G_ref12_Kids : GOK Try.prog (Γ_ref12_Kids) :=
  GOK.ite ⟨en_ref02_Less, sig_ref02_Less⟩ <|
  GOK.nil
theorem sig_ref12_Kids : SigOK Try.prog n_ref12_Kids ⟨.pure, false, [1], 0, fun l => match l with | [[x0], [x1]] => ref12_Kids_s x0 x1 | _ => none⟩ :=
  sig_pure (C := C0) (A := A_ref12_Kids) (G_ref12_Kids) cok_none mixedOrders (f := Try.f48) (by kernel_rfl) (by kernel_rfl) (by kernel_rfl) rfl fun bs r h => by
    split at h
    · exact (run_ref12_Kids ..).trans h
    · cases h
theorem G_ref12_Reached : GOK Try.prog (Γ_ref12_Reached) :=
  GOK.ite ⟨en_ref12_Path, sig_ref12_Path⟩ <|
  GOK.nil
theorem sig_ref12_Reached : SigOK Try.prog n_ref12_Reached ⟨.pure, false, [1], 0, fun l => match l with | [[x0]] => ref12_Reached_s x0 | _ => none⟩ :=
  sig_pure (C := C0) (A := A_ref12_Reached) (G_ref12_Reached) cok_none mixedOrders (f := Try.f50) (by kernel_rfl) (by kernel_rfl) (by kernel_rfl) rfl fun bs r h => by
    split at h
    · exact (run_ref12_Reached ..).trans h
    · cases h
theorem G_law12_TreeSets : GOK Try.prog (Γ_law12_TreeSets) :=
  GOK.ite ⟨en_ref12_Few, sig_ref12_Few⟩ <|
  GOK.ite ⟨en_law12_live, sig_law12_live⟩ <|
  GOK.ite ⟨en_tree_Path, sig_tree_Path⟩ <|
  GOK.ite ⟨en_ref12_Path, sig_ref12_Path⟩ <|
  GOK.ite ⟨en_tree_Set, sig_tree_Set⟩ <|
  GOK.ite ⟨en_ref12_Set, sig_ref12_Set⟩ <|
  GOK.ite ⟨en_ref12_Same, sig_ref12_Same⟩ <|
  GOK.ite ⟨en_tree_Above, sig_tree_Above⟩ <|
  GOK.ite ⟨en_ref12_Above, sig_ref12_Above⟩ <|
  GOK.ite ⟨en_tree_Kids, sig_tree_Kids⟩ <|
  GOK.ite ⟨en_ref12_Kids, sig_ref12_Kids⟩ <|
  GOK.ite ⟨en_ref05_Same, sig_ref05_Same⟩ <|
  GOK.ite ⟨en_tree_Reached, sig_tree_Reached⟩ <|
  GOK.ite ⟨en_ref12_Reached, sig_ref12_Reached⟩ <|
  GOK.nil
theorem sig_law12_TreeSets : SigOK Try.prog n_law12_TreeSets ⟨.pure, true, [1], 0, fun l => match l with | [[x0], [x1, x2, x3, x4], [x5, x6]] => law12_TreeSets_s x0 x1 x2 x3 x4 x5 x6 | _ => none⟩ :=
  sig_pure (C := C0) (A := A_law12_TreeSets) (G_law12_TreeSets) cok_none mixedOrders (f := Try.f9) (by kernel_rfl) (by kernel_rfl) (by kernel_rfl) rfl fun bs r h => by
    split at h
    · exact (run_law12_TreeSets ..).trans h
    · cases h
theorem G_law12_TreeOrder : GOK Try.prog (Γ_law12_TreeOrder) :=
  GOK.ite ⟨en_ref12_Few, sig_ref12_Few⟩ <|
  GOK.ite ⟨en_ref12_May, sig_ref12_May⟩ <|
  GOK.ite ⟨en_law12_live, sig_law12_live⟩ <|
  GOK.ite ⟨en_tree_Above, sig_tree_Above⟩ <|
  GOK.nil
theorem sig_law12_TreeOrder : SigOK Try.prog n_law12_TreeOrder ⟨.pure, true, [1], 0, fun l => match l with | [[x0], [x1, x2, x3]] => law12_TreeOrder_s x0 x1 x2 x3 | _ => none⟩ :=
  sig_pure (C := C0) (A := A_law12_TreeOrder) (G_law12_TreeOrder) cok_none mixedOrders (f := Try.f10) (by kernel_rfl) (by kernel_rfl) (by kernel_rfl) rfl fun bs r h => by
    split at h
    · exact (run_law12_TreeOrder ..).trans h
    · cases h
theorem G_law12_TreePaths : GOK Try.prog (Γ_law12_TreePaths) :=
  GOK.ite ⟨en_ref12_Few, sig_ref12_Few⟩ <|
  GOK.ite ⟨en_ref12_May, sig_ref12_May⟩ <|
  GOK.ite ⟨en_law12_live, sig_law12_live⟩ <|
  GOK.ite ⟨en_tree_Path, sig_tree_Path⟩ <|
  GOK.ite ⟨en_tree_Above, sig_tree_Above⟩ <|
  GOK.ite ⟨en_tree_Reached, sig_tree_Reached⟩ <|
  GOK.ite ⟨en_tree_Find, sig_tree_Find⟩ <|
  GOK.ite ⟨en_tree_Kids, sig_tree_Kids⟩ <|
  GOK.nil
theorem sig_law12_TreePaths : SigOK Try.prog n_law12_TreePaths ⟨.pure, true, [1], 0, fun l => match l with | [[x0], [x1]] => law12_TreePaths_s x0 x1 | _ => none⟩ :=
  sig_pure (C := C0) (A := A_law12_TreePaths) (G_law12_TreePaths) cok_none mixedOrders (f := Try.f11) (by kernel_rfl) (by kernel_rfl) (by kernel_rfl) rfl fun bs r h => by
    split at h
    · exact (run_law12_TreePaths ..).trans h
    · cases h
theorem G_law12_TreeKids : GOK Try.prog (Γ_law12_TreeKids) :=
  GOK.ite ⟨en_ref12_Few, sig_ref12_Few⟩ <|
  GOK.ite ⟨en_ref12_May, sig_ref12_May⟩ <|
  GOK.ite ⟨en_law12_live, sig_law12_live⟩ <|
  GOK.ite ⟨en_tree_Kids, sig_tree_Kids⟩ <|
  GOK.ite ⟨en_tree_Find, sig_tree_Find⟩ <|
  GOK.ite ⟨en_ref12_Alike, sig_ref12_Alike⟩ <|
  GOK.ite ⟨en_ref02_Less, sig_ref02_Less⟩ <|
  GOK.ite ⟨en_tree_Set, sig_tree_Set⟩ <|
  GOK.ite ⟨en_tree_Drop, sig_tree_Drop⟩ <|
  GOK.ite ⟨en_tree_Same, sig_tree_Same⟩ <|
  GOK.nil
theorem sig_law12_TreeKids : SigOK Try.prog n_law12_TreeKids ⟨.pure, true, [1], 0, fun l => match l with | [[x0], [x1, x2, x3, x4]] => law12_TreeKids_s x0 x1 x2 x3 x4 | _ => none⟩ :=
  sig_pure (C := C0) (A := A_law12_TreeKids) (G_law12_TreeKids) cok_none mixedOrders (f := Try.f12) (by kernel_rfl) (by kernel_rfl) (by kernel_rfl) rfl fun bs r h => by
    split at h
    · exact (run_law12_TreeKids ..).trans h
    · cases h
theorem G_law12_TreeHangs : GOK Try.prog (Γ_law12_TreeHangs) :=
  GOK.ite ⟨en_ref12_Few, sig_ref12_Few⟩ <|
  GOK.ite ⟨en_ref12_May, sig_ref12_May⟩ <|
  GOK.ite ⟨en_ref12_One, sig_ref12_One⟩ <|
  GOK.ite ⟨en_law12_live, sig_law12_live⟩ <|
  GOK.ite ⟨en_tree_Set, sig_tree_Set⟩ <|
  GOK.ite ⟨en_tree_Above, sig_tree_Above⟩ <|
  GOK.ite ⟨en_tree_May, sig_tree_May⟩ <|
  GOK.nil
theorem sig_law12_TreeHangs : SigOK Try.prog n_law12_TreeHangs ⟨.pure, true, [1], 0, fun l => match l with | [[x0], [x1, x2, x3, x4], [x5]] => law12_TreeHangs_s x0 x1 x2 x3 x4 x5 | _ => none⟩ :=
  sig_pure (C := C0) (A := A_law12_TreeHangs) (G_law12_TreeHangs) cok_none mixedOrders (f := Try.f13) (by kernel_rfl) (by kernel_rfl) (by kernel_rfl) rfl fun bs r h => by
    split at h
    · exact (run_law12_TreeHangs ..).trans h
    · cases h
theorem G_law12_TreeDrops : GOK Try.prog (Γ_law12_TreeDrops) :=
  GOK.ite ⟨en_ref12_Few, sig_ref12_Few⟩ <|
  GOK.ite ⟨en_ref12_May, sig_ref12_May⟩ <|
  GOK.ite ⟨en_law12_live, sig_law12_live⟩ <|
  GOK.ite ⟨en_tree_Drop, sig_tree_Drop⟩ <|
  GOK.ite ⟨en_tree_May, sig_tree_May⟩ <|
  GOK.ite ⟨en_tree_Find, sig_tree_Find⟩ <|
  GOK.ite ⟨en_tree_Reached, sig_tree_Reached⟩ <|
  GOK.ite ⟨en_tree_Above, sig_tree_Above⟩ <|
  GOK.ite ⟨en_ref05_Same, sig_ref05_Same⟩ <|
  GOK.nil
theorem sig_law12_TreeDrops : SigOK Try.prog n_law12_TreeDrops ⟨.pure, true, [1], 0, fun l => match l with | [[x0], [x1]] => law12_TreeDrops_s x0 x1 | _ => none⟩ :=
  sig_pure (C := C0) (A := A_law12_TreeDrops) (G_law12_TreeDrops) cok_none mixedOrders (f := Try.f14) (by kernel_rfl) (by kernel_rfl) (by kernel_rfl) rfl fun bs r h => by
    split at h
    · exact (run_law12_TreeDrops ..).trans h
    · cases h
end Go.AM

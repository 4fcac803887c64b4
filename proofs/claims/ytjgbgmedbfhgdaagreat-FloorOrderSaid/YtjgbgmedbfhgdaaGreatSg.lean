/- The contracts of all functions that are reached. -/
import Derived.Test.YtjgbgmedbfhgdaaGreatCk
import Derived.Test.YtjgbgmedbfhgdaaGreatWk
import Derived.Test.YtjgbgmedbfhgdaaGreatHd
import Derived.Test.YtjgbgmedbfhgdaaGreatHm
import Derived.Test.YtjgbgmedbfhgdaaGreatAe
set_option linter.unusedVariables false
set_option linter.unusedSimpArgs false
set_option maxRecDepth 100000
namespace Go.AM
open Go.Proofs
theorem mixedOrders : Tryz.prog.follows .mixedOrders = true := by kernel_rfl
theorem en_law18_FloorTells : Enters Tryz.prog n_law18_FloorTells := enters_of (f := Tryz.f3) (by kernel_rfl) (by kernel_rfl) (by kernel_rfl)
theorem en_law18_FloorMerges : Enters Tryz.prog n_law18_FloorMerges := enters_of (f := Tryz.f4) (by kernel_rfl) (by kernel_rfl) (by kernel_rfl)
theorem en_law18_FloorMay : Enters Tryz.prog n_law18_FloorMay := enters_of (f := Tryz.f5) (by kernel_rfl) (by kernel_rfl) (by kernel_rfl)
theorem en_law18_FloorKeeps : Enters Tryz.prog n_law18_FloorKeeps := enters_of (f := Tryz.f6) (by kernel_rfl) (by kernel_rfl) (by kernel_rfl)
theorem en_law18_FloorOrder : Enters Tryz.prog n_law18_FloorOrder := enters_of (f := Tryz.f7) (by kernel_rfl) (by kernel_rfl) (by kernel_rfl)
theorem en_law18_FloorTwice : Enters Tryz.prog n_law18_FloorTwice := enters_of (f := Tryz.f8) (by kernel_rfl) (by kernel_rfl) (by kernel_rfl)
theorem en_law18_FloorMarks : Enters Tryz.prog n_law18_FloorMarks := enters_of (f := Tryz.f9) (by kernel_rfl) (by kernel_rfl) (by kernel_rfl)
theorem en_ref18_Few : Enters Tryz.prog n_ref18_Few := enters_of (f := Tryz.f10) (by kernel_rfl) (by kernel_rfl) (by kernel_rfl)
theorem en_law18_live : Enters Tryz.prog n_law18_live := enters_of (f := Tryz.f11) (by kernel_rfl) (by kernel_rfl) (by kernel_rfl)
theorem en_floor_Add : Enters Tryz.prog n_floor_Add := enters_of (f := Tryz.f12) (by kernel_rfl) (by kernel_rfl) (by kernel_rfl)
theorem en_ref18_Add : Enters Tryz.prog n_ref18_Add := enters_of (f := Tryz.f13) (by kernel_rfl) (by kernel_rfl) (by kernel_rfl)
theorem en_floor_Prune : Enters Tryz.prog n_floor_Prune := enters_of (f := Tryz.f14) (by kernel_rfl) (by kernel_rfl) (by kernel_rfl)
theorem en_ref18_Prune : Enters Tryz.prog n_ref18_Prune := enters_of (f := Tryz.f15) (by kernel_rfl) (by kernel_rfl) (by kernel_rfl)
theorem en_floor_May : Enters Tryz.prog n_floor_May := enters_of (f := Tryz.f16) (by kernel_rfl) (by kernel_rfl) (by kernel_rfl)
theorem en_ref18_May : Enters Tryz.prog n_ref18_May := enters_of (f := Tryz.f17) (by kernel_rfl) (by kernel_rfl) (by kernel_rfl)
theorem en_ref12_Same : Enters Tryz.prog n_ref12_Same := enters_of (f := Tryz.f18) (by kernel_rfl) (by kernel_rfl) (by kernel_rfl)
theorem en_floor_Tree : Enters Tryz.prog n_floor_Tree := enters_of (f := Tryz.f19) (by kernel_rfl) (by kernel_rfl) (by kernel_rfl)
theorem en_ref18_Tree : Enters Tryz.prog n_ref18_Tree := enters_of (f := Tryz.f20) (by kernel_rfl) (by kernel_rfl) (by kernel_rfl)
theorem en_floor_Same : Enters Tryz.prog n_floor_Same := enters_of (f := Tryz.f21) (by kernel_rfl) (by kernel_rfl) (by kernel_rfl)
theorem en_ref18_Same : Enters Tryz.prog n_ref18_Same := enters_of (f := Tryz.f22) (by kernel_rfl) (by kernel_rfl) (by kernel_rfl)
theorem en_ref13_Few : Enters Tryz.prog n_ref13_Few := enters_of (f := Tryz.f23) (by kernel_rfl) (by kernel_rfl) (by kernel_rfl)
theorem en_floor_Merge : Enters Tryz.prog n_floor_Merge := enters_of (f := Tryz.f24) (by kernel_rfl) (by kernel_rfl) (by kernel_rfl)
theorem en_ref18_Merge : Enters Tryz.prog n_ref18_Merge := enters_of (f := Tryz.f25) (by kernel_rfl) (by kernel_rfl) (by kernel_rfl)
theorem en_ref13_One : Enters Tryz.prog n_ref13_One := enters_of (f := Tryz.f26) (by kernel_rfl) (by kernel_rfl) (by kernel_rfl)
theorem en_ref02_Before : Enters Tryz.prog n_ref02_Before := enters_of (f := Tryz.f27) (by kernel_rfl) (by kernel_rfl) (by kernel_rfl)
theorem en_marks_Get : Enters Tryz.prog n_marks_Get := enters_of (f := Tryz.f28) (by kernel_rfl) (by kernel_rfl) (by kernel_rfl)
theorem en_marks_Below : Enters Tryz.prog n_marks_Below := enters_of (f := Tryz.f29) (by kernel_rfl) (by kernel_rfl) (by kernel_rfl)
theorem en_ref17_Same : Enters Tryz.prog n_ref17_Same := enters_of (f := Tryz.f30) (by kernel_rfl) (by kernel_rfl) (by kernel_rfl)
theorem en_ref13_Alike : Enters Tryz.prog n_ref13_Alike := enters_of (f := Tryz.f31) (by kernel_rfl) (by kernel_rfl) (by kernel_rfl)
theorem en_marks_Join : Enters Tryz.prog n_marks_Join := enters_of (f := Tryz.f32) (by kernel_rfl) (by kernel_rfl) (by kernel_rfl)
theorem en_marks_Of : Enters Tryz.prog n_marks_Of := enters_of (f := Tryz.f33) (by kernel_rfl) (by kernel_rfl) (by kernel_rfl)
theorem en_ref12_Few : Enters Tryz.prog n_ref12_Few := enters_of (f := Tryz.f34) (by kernel_rfl) (by kernel_rfl) (by kernel_rfl)
theorem en_law18_live_1 : Enters Tryz.prog n_law18_live_1 := enters_of (f := Tryz.f35) (by kernel_rfl) (by kernel_rfl) (by kernel_rfl)
theorem en_moves_One : Enters Tryz.prog n_moves_One := enters_of (f := Tryz.f36) (by kernel_rfl) (by kernel_rfl) (by kernel_rfl)
theorem en_rank_Before : Enters Tryz.prog n_rank_Before := enters_of (f := Tryz.f37) (by kernel_rfl) (by kernel_rfl) (by kernel_rfl)
theorem en_moves_Insert : Enters Tryz.prog n_moves_Insert := enters_of (f := Tryz.f38) (by kernel_rfl) (by kernel_rfl) (by kernel_rfl)
theorem en_floor_children : Enters Tryz.prog n_floor_children := enters_of (f := Tryz.f39) (by kernel_rfl) (by kernel_rfl) (by kernel_rfl)
theorem en_marks_Raise : Enters Tryz.prog n_marks_Raise := enters_of (f := Tryz.f40) (by kernel_rfl) (by kernel_rfl) (by kernel_rfl)
theorem en_ref13_Insert : Enters Tryz.prog n_ref13_Insert := enters_of (f := Tryz.f41) (by kernel_rfl) (by kernel_rfl) (by kernel_rfl)
theorem en_ref18_Children : Enters Tryz.prog n_ref18_Children := enters_of (f := Tryz.f42) (by kernel_rfl) (by kernel_rfl) (by kernel_rfl)
theorem en_ref17_Raise : Enters Tryz.prog n_ref17_Raise := enters_of (f := Tryz.f43) (by kernel_rfl) (by kernel_rfl) (by kernel_rfl)
theorem en_floor_known : Enters Tryz.prog n_floor_known := enters_of (f := Tryz.f44) (by kernel_rfl) (by kernel_rfl) (by kernel_rfl)
theorem en_moves_Since : Enters Tryz.prog n_moves_Since := enters_of (f := Tryz.f45) (by kernel_rfl) (by kernel_rfl) (by kernel_rfl)
theorem en_fold_All : Enters Tryz.prog n_fold_All := enters_of (f := Tryz.f46) (by kernel_rfl) (by kernel_rfl) (by kernel_rfl)
theorem en_ref13_Time : Enters Tryz.prog n_ref13_Time := enters_of (f := Tryz.f47) (by kernel_rfl) (by kernel_rfl) (by kernel_rfl)
theorem en_ref17_Get : Enters Tryz.prog n_ref17_Get := enters_of (f := Tryz.f48) (by kernel_rfl) (by kernel_rfl) (by kernel_rfl)
theorem en_ref13_Since : Enters Tryz.prog n_ref13_Since := enters_of (f := Tryz.f49) (by kernel_rfl) (by kernel_rfl) (by kernel_rfl)
theorem en_ref14_All : Enters Tryz.prog n_ref14_All := enters_of (f := Tryz.f50) (by kernel_rfl) (by kernel_rfl) (by kernel_rfl)
theorem en_floor_May_1 : Enters Tryz.prog n_floor_May_1 := enters_of (f := Tryz.f51) (by kernel_rfl) (by kernel_rfl) (by kernel_rfl)
theorem en_tree_May : Enters Tryz.prog n_tree_May := enters_of (f := Tryz.f52) (by kernel_rfl) (by kernel_rfl) (by kernel_rfl)
theorem en_moves_May : Enters Tryz.prog n_moves_May := enters_of (f := Tryz.f53) (by kernel_rfl) (by kernel_rfl) (by kernel_rfl)
theorem en_marks_May : Enters Tryz.prog n_marks_May := enters_of (f := Tryz.f54) (by kernel_rfl) (by kernel_rfl) (by kernel_rfl)
theorem en_floor_May_2 : Enters Tryz.prog n_floor_May_2 := enters_of (f := Tryz.f55) (by kernel_rfl) (by kernel_rfl) (by kernel_rfl)
theorem en_floor_May_3 : Enters Tryz.prog n_floor_May_3 := enters_of (f := Tryz.f56) (by kernel_rfl) (by kernel_rfl) (by kernel_rfl)
theorem en_floor_May_4 : Enters Tryz.prog n_floor_May_4 := enters_of (f := Tryz.f57) (by kernel_rfl) (by kernel_rfl) (by kernel_rfl)
theorem en_floor_May_5 : Enters Tryz.prog n_floor_May_5 := enters_of (f := Tryz.f58) (by kernel_rfl) (by kernel_rfl) (by kernel_rfl)
theorem en_ref12_May : Enters Tryz.prog n_ref12_May := enters_of (f := Tryz.f59) (by kernel_rfl) (by kernel_rfl) (by kernel_rfl)
theorem en_ref13_May : Enters Tryz.prog n_ref13_May := enters_of (f := Tryz.f60) (by kernel_rfl) (by kernel_rfl) (by kernel_rfl)
theorem en_ref17_May : Enters Tryz.prog n_ref17_May := enters_of (f := Tryz.f61) (by kernel_rfl) (by kernel_rfl) (by kernel_rfl)
theorem en_ref17_Below : Enters Tryz.prog n_ref17_Below := enters_of (f := Tryz.f62) (by kernel_rfl) (by kernel_rfl) (by kernel_rfl)
theorem en_ref17_Of : Enters Tryz.prog n_ref17_Of := enters_of (f := Tryz.f63) (by kernel_rfl) (by kernel_rfl) (by kernel_rfl)
theorem en_ref12_Alike : Enters Tryz.prog n_ref12_Alike := enters_of (f := Tryz.f64) (by kernel_rfl) (by kernel_rfl) (by kernel_rfl)
theorem en_tree_Same : Enters Tryz.prog n_tree_Same := enters_of (f := Tryz.f65) (by kernel_rfl) (by kernel_rfl) (by kernel_rfl)
theorem en_moves_Same : Enters Tryz.prog n_moves_Same := enters_of (f := Tryz.f66) (by kernel_rfl) (by kernel_rfl) (by kernel_rfl)
theorem en_slices_Equal_Mark : Enters Tryz.prog n_slices_Equal_Mark := enters_of (f := Tryz.f67) (by kernel_rfl) (by kernel_rfl) (by kernel_rfl)
theorem en_ref13_Same : Enters Tryz.prog n_ref13_Same := enters_of (f := Tryz.f68) (by kernel_rfl) (by kernel_rfl) (by kernel_rfl)
theorem en_ref12_One : Enters Tryz.prog n_ref12_One := enters_of (f := Tryz.f69) (by kernel_rfl) (by kernel_rfl) (by kernel_rfl)
theorem en_ref13_Row : Enters Tryz.prog n_ref13_Row := enters_of (f := Tryz.f70) (by kernel_rfl) (by kernel_rfl) (by kernel_rfl)
theorem en_marks_place : Enters Tryz.prog n_marks_place := enters_of (f := Tryz.f71) (by kernel_rfl) (by kernel_rfl) (by kernel_rfl)
theorem en_slices_ContainsFunc_Mark : Enters Tryz.prog n_slices_ContainsFunc_Mark := enters_of (f := Tryz.f72) (by kernel_rfl) (by kernel_rfl) (by kernel_rfl)
theorem en_marks_Below_1 : Enters Tryz.prog n_marks_Below_1 := enters_of (f := Tryz.f73) (by kernel_rfl) (by kernel_rfl) (by kernel_rfl)
theorem en_tree_One : Enters Tryz.prog n_tree_One := enters_of (f := Tryz.f74) (by kernel_rfl) (by kernel_rfl) (by kernel_rfl)
theorem en_moves_Row : Enters Tryz.prog n_moves_Row := enters_of (f := Tryz.f75) (by kernel_rfl) (by kernel_rfl) (by kernel_rfl)
theorem en_rank_first : Enters Tryz.prog n_rank_first := enters_of (f := Tryz.f76) (by kernel_rfl) (by kernel_rfl) (by kernel_rfl)
theorem en_rank_Before_1 : Enters Tryz.prog n_rank_Before_1 := enters_of (f := Tryz.f77) (by kernel_rfl) (by kernel_rfl) (by kernel_rfl)
theorem en_cmp_Compare_int : Enters Tryz.prog n_cmp_Compare_int := enters_of (f := Tryz.f78) (by kernel_rfl) (by kernel_rfl) (by kernel_rfl)
theorem en_rank_Before_2 : Enters Tryz.prog n_rank_Before_2 := enters_of (f := Tryz.f79) (by kernel_rfl) (by kernel_rfl) (by kernel_rfl)
theorem en_moves_seek : Enters Tryz.prog n_moves_seek := enters_of (f := Tryz.f80) (by kernel_rfl) (by kernel_rfl) (by kernel_rfl)
theorem en_moves_when_is : Enters Tryz.prog n_moves_when_is := enters_of (f := Tryz.f81) (by kernel_rfl) (by kernel_rfl) (by kernel_rfl)
theorem en_moves_when_before : Enters Tryz.prog n_moves_when_before := enters_of (f := Tryz.f82) (by kernel_rfl) (by kernel_rfl) (by kernel_rfl)
theorem en_slices_Insert_Move : Enters Tryz.prog n_slices_Insert_Move := enters_of (f := Tryz.f83) (by kernel_rfl) (by kernel_rfl) (by kernel_rfl)
theorem en_slices_Clone_Move : Enters Tryz.prog n_slices_Clone_Move := enters_of (f := Tryz.f84) (by kernel_rfl) (by kernel_rfl) (by kernel_rfl)
theorem en_slices_Clone_Mark : Enters Tryz.prog n_slices_Clone_Mark := enters_of (f := Tryz.f85) (by kernel_rfl) (by kernel_rfl) (by kernel_rfl)
theorem en_marks_greatest : Enters Tryz.prog n_marks_greatest := enters_of (f := Tryz.f86) (by kernel_rfl) (by kernel_rfl) (by kernel_rfl)
theorem en_slices_IndexFunc_Mark : Enters Tryz.prog n_slices_IndexFunc_Mark := enters_of (f := Tryz.f87) (by kernel_rfl) (by kernel_rfl) (by kernel_rfl)
theorem en_marks_Raise_1 : Enters Tryz.prog n_marks_Raise_1 := enters_of (f := Tryz.f88) (by kernel_rfl) (by kernel_rfl) (by kernel_rfl)
theorem en_slices_Insert_Mark : Enters Tryz.prog n_slices_Insert_Mark := enters_of (f := Tryz.f89) (by kernel_rfl) (by kernel_rfl) (by kernel_rfl)
theorem en_fold_Do : Enters Tryz.prog n_fold_Do := enters_of (f := Tryz.f90) (by kernel_rfl) (by kernel_rfl) (by kernel_rfl)
theorem en_ref14_Do : Enters Tryz.prog n_ref14_Do := enters_of (f := Tryz.f91) (by kernel_rfl) (by kernel_rfl) (by kernel_rfl)
theorem en_slices_ContainsFunc_Move : Enters Tryz.prog n_slices_ContainsFunc_Move := enters_of (f := Tryz.f94) (by kernel_rfl) (by kernel_rfl) (by kernel_rfl)
theorem en_moves_May_1 : Enters Tryz.prog n_moves_May_1 := enters_of (f := Tryz.f95) (by kernel_rfl) (by kernel_rfl) (by kernel_rfl)
theorem en_ref12_Above : Enters Tryz.prog n_ref12_Above := enters_of (f := Tryz.f96) (by kernel_rfl) (by kernel_rfl) (by kernel_rfl)
theorem en_ref01_Same : Enters Tryz.prog n_ref01_Same := enters_of (f := Tryz.f97) (by kernel_rfl) (by kernel_rfl) (by kernel_rfl)
theorem en_slices_EqualFunc_Row_Row : Enters Tryz.prog n_slices_EqualFunc_Row_Row := enters_of (f := Tryz.f98) (by kernel_rfl) (by kernel_rfl) (by kernel_rfl)
theorem en_tree_Same_1 : Enters Tryz.prog n_tree_Same_1 := enters_of (f := Tryz.f99) (by kernel_rfl) (by kernel_rfl) (by kernel_rfl)
theorem en_bits_Same : Enters Tryz.prog n_bits_Same := enters_of (f := Tryz.f100) (by kernel_rfl) (by kernel_rfl) (by kernel_rfl)
theorem en_slices_EqualFunc_Move_Move : Enters Tryz.prog n_slices_EqualFunc_Move_Move := enters_of (f := Tryz.f101) (by kernel_rfl) (by kernel_rfl) (by kernel_rfl)
theorem en_moves_Same_1 : Enters Tryz.prog n_moves_Same_1 := enters_of (f := Tryz.f102) (by kernel_rfl) (by kernel_rfl) (by kernel_rfl)
theorem en_ref04_Valid : Enters Tryz.prog n_ref04_Valid := enters_of (f := Tryz.f103) (by kernel_rfl) (by kernel_rfl) (by kernel_rfl)
theorem en_marks_place_1 : Enters Tryz.prog n_marks_place_1 := enters_of (f := Tryz.f104) (by kernel_rfl) (by kernel_rfl) (by kernel_rfl)
theorem en_word_Valid : Enters Tryz.prog n_word_Valid := enters_of (f := Tryz.f105) (by kernel_rfl) (by kernel_rfl) (by kernel_rfl)
theorem en_cmp_isNaN_int : Enters Tryz.prog n_cmp_isNaN_int := enters_of (f := Tryz.f106) (by kernel_rfl) (by kernel_rfl) (by kernel_rfl)
theorem en_fold_Barred : Enters Tryz.prog n_fold_Barred := enters_of (f := Tryz.f111) (by kernel_rfl) (by kernel_rfl) (by kernel_rfl)
theorem en_tree_Set : Enters Tryz.prog n_tree_Set := enters_of (f := Tryz.f112) (by kernel_rfl) (by kernel_rfl) (by kernel_rfl)
theorem en_ref14_Barred : Enters Tryz.prog n_ref14_Barred := enters_of (f := Tryz.f113) (by kernel_rfl) (by kernel_rfl) (by kernel_rfl)
theorem en_ref12_Set : Enters Tryz.prog n_ref12_Set := enters_of (f := Tryz.f114) (by kernel_rfl) (by kernel_rfl) (by kernel_rfl)
theorem en_slices_IndexFunc_Move : Enters Tryz.prog n_slices_IndexFunc_Move := enters_of (f := Tryz.f116) (by kernel_rfl) (by kernel_rfl) (by kernel_rfl)
theorem en_ref12_Find : Enters Tryz.prog n_ref12_Find := enters_of (f := Tryz.f117) (by kernel_rfl) (by kernel_rfl) (by kernel_rfl)
theorem en_ref01_Bits : Enters Tryz.prog n_ref01_Bits := enters_of (f := Tryz.f118) (by kernel_rfl) (by kernel_rfl) (by kernel_rfl)
theorem en_bits_Bits : Enters Tryz.prog n_bits_Bits := enters_of (f := Tryz.f119) (by kernel_rfl) (by kernel_rfl) (by kernel_rfl)
theorem en_ref04_First : Enters Tryz.prog n_ref04_First := enters_of (f := Tryz.f120) (by kernel_rfl) (by kernel_rfl) (by kernel_rfl)
theorem en_word_signs : Enters Tryz.prog n_word_signs := enters_of (f := Tryz.f121) (by kernel_rfl) (by kernel_rfl) (by kernel_rfl)
theorem en_tree_Above : Enters Tryz.prog n_tree_Above := enters_of (f := Tryz.f124) (by kernel_rfl) (by kernel_rfl) (by kernel_rfl)
theorem en_slices_Clone_Row : Enters Tryz.prog n_slices_Clone_Row := enters_of (f := Tryz.f125) (by kernel_rfl) (by kernel_rfl) (by kernel_rfl)
theorem en_tree_place : Enters Tryz.prog n_tree_place := enters_of (f := Tryz.f126) (by kernel_rfl) (by kernel_rfl) (by kernel_rfl)
theorem en_slices_IndexFunc_Row : Enters Tryz.prog n_slices_IndexFunc_Row := enters_of (f := Tryz.f127) (by kernel_rfl) (by kernel_rfl) (by kernel_rfl)
theorem en_tree_Set_1 : Enters Tryz.prog n_tree_Set_1 := enters_of (f := Tryz.f128) (by kernel_rfl) (by kernel_rfl) (by kernel_rfl)
theorem en_slices_Insert_Row : Enters Tryz.prog n_slices_Insert_Row := enters_of (f := Tryz.f129) (by kernel_rfl) (by kernel_rfl) (by kernel_rfl)
theorem en_ref12_place : Enters Tryz.prog n_ref12_place := enters_of (f := Tryz.f130) (by kernel_rfl) (by kernel_rfl) (by kernel_rfl)
theorem en_ref01_None : Enters Tryz.prog n_ref01_None := enters_of (f := Tryz.f131) (by kernel_rfl) (by kernel_rfl) (by kernel_rfl)
theorem en_ref01_Minus : Enters Tryz.prog n_ref01_Minus := enters_of (f := Tryz.f132) (by kernel_rfl) (by kernel_rfl) (by kernel_rfl)
theorem en_ref01_top : Enters Tryz.prog n_ref01_top := enters_of (f := Tryz.f133) (by kernel_rfl) (by kernel_rfl) (by kernel_rfl)
theorem en_bits_Minus : Enters Tryz.prog n_bits_Minus := enters_of (f := Tryz.f134) (by kernel_rfl) (by kernel_rfl) (by kernel_rfl)
theorem en_bits_split : Enters Tryz.prog n_bits_split := enters_of (f := Tryz.f135) (by kernel_rfl) (by kernel_rfl) (by kernel_rfl)
theorem en_ref04_sign : Enters Tryz.prog n_ref04_sign := enters_of (f := Tryz.f136) (by kernel_rfl) (by kernel_rfl) (by kernel_rfl)
theorem en_word_head : Enters Tryz.prog n_word_head := enters_of (f := Tryz.f137) (by kernel_rfl) (by kernel_rfl) (by kernel_rfl)
theorem en_tree_place_1 : Enters Tryz.prog n_tree_place_1 := enters_of (f := Tryz.f140) (by kernel_rfl) (by kernel_rfl) (by kernel_rfl)
theorem en_bits_powers : Enters Tryz.prog n_bits_powers := enters_of (f := Tryz.f143) (by kernel_rfl) (by kernel_rfl) (by kernel_rfl)
theorem en_ref04_in : Enters Tryz.prog n_ref04_in := enters_of (f := Tryz.f144) (by kernel_rfl) (by kernel_rfl) (by kernel_rfl)
theorem sig_tree_Above : SigOK Tryz.prog n_tree_Above ⟨.pure, true, [1], 0, fun l => match l with | [[x0], [x1], [x2]] => tree_Above_s x0 x1 x2 | _ => none⟩ :=
  sig_of_above fun w A b off cap ps ss fs hA hlt hmax hwf hat x y hy => callsIn_wide.1 (above_in 1 (Nat.le_refl _) w A b off cap ps ss fs hA hlt hmax hwf hat x y hy)
theorem G_word_head : GOK Tryz.prog (Γ_word_head) :=
  GOK.nil
theorem sig_word_head : SigOK Tryz.prog n_word_head ⟨.pure, true, [1, 1, 1, 1], 0, fun l => match l with | [[x0]] => word_head_s x0 | _ => none⟩ :=
  sig_pure (C := C0) (A := A_word_head) (G_word_head) cok_none mixedOrders (f := Tryz.f137) (by kernel_rfl) (by kernel_rfl) (by kernel_rfl) rfl fun bs r h => by
    split at h
    · exact (run_word_head ..).trans h
    · cases h
theorem G_word_signs : GOK Tryz.prog (Γ_word_signs) :=
  GOK.ite ⟨en_word_head, sig_word_head⟩ <|
  GOK.nil
theorem sig_word_signs : SigOK Tryz.prog n_word_signs ⟨.pure, true, [1, 1], 0, fun l => match l with | [[x0]] => word_signs_s x0 | _ => none⟩ :=
  sig_pure (C := C0) (A := A_word_signs) (G_word_signs) cok_none mixedOrders (f := Tryz.f121) (by kernel_rfl) (by kernel_rfl) (by kernel_rfl) rfl fun bs r h => by
    split at h
    · exact (run_word_signs ..).trans h
    · cases h
theorem G_word_Valid : GOK Tryz.prog (Γ_word_Valid) :=
  GOK.ite ⟨en_word_signs, sig_word_signs⟩ <|
  GOK.nil
theorem sig_word_Valid : SigOK Tryz.prog n_word_Valid ⟨.pure, true, [1], 0, fun l => match l with | [[x0]] => word_Valid_s x0 | _ => none⟩ :=
  sig_pure (C := C0) (A := A_word_Valid) (G_word_Valid) cok_none mixedOrders (f := Tryz.f105) (by kernel_rfl) (by kernel_rfl) (by kernel_rfl) rfl fun bs r h => by
    split at h
    · exact (run_word_Valid ..).trans h
    · cases h
theorem G_tree_One : GOK Tryz.prog (Γ_tree_One) :=
  GOK.ite ⟨en_word_Valid, sig_word_Valid⟩ <|
  GOK.nil
theorem sig_tree_One : SigOK Tryz.prog n_tree_One ⟨.pure, true, [1], 0, fun l => match l with | [[x0, x1, x2, x3]] => tree_One_s x0 x1 x2 x3 | _ => none⟩ :=
  sig_pure (C := C0) (A := A_tree_One) (G_tree_One) cok_none mixedOrders (f := Tryz.f74) (by kernel_rfl) (by kernel_rfl) (by kernel_rfl) rfl fun bs r h => by
    split at h
    · exact (run_tree_One ..).trans h
    · cases h
theorem sig_tree_May : SigOK Tryz.prog n_tree_May ⟨.pure, true, [1], 0, fun l => match l with | [[x0]] => tree_May_s x0 | _ => none⟩ :=
  sig_of_may (O := (fun l => match l with | [[x0, x1, x2, x3]] => tree_One_s x0 x1 x2 x3 | _ => none)) sig_tree_One fun w A b off cap ps ss fs ob hA hlt hmax hwf hat hone => callsIn_wide.1 (may_in 1 (Nat.le_refl _) w A b off cap ps ss fs ob hA hlt hmax hwf hat hone)
theorem G_ref12_Few : GOK Tryz.prog (Γ_ref12_Few) :=
  GOK.nil
theorem sig_ref12_Few : SigOK Tryz.prog n_ref12_Few ⟨.pure, true, [1], 0, fun l => match l with | [[x0]] => ref12_Few_s x0 | _ => none⟩ :=
  sig_pure (C := C0) (A := A_ref12_Few) (G_ref12_Few) cok_none mixedOrders (f := Tryz.f34) (by kernel_rfl) (by kernel_rfl) (by kernel_rfl) rfl fun bs r h => by
    split at h
    · exact (run_ref12_Few ..).trans h
    · cases h
theorem G_ref13_Few : GOK Tryz.prog (Γ_ref13_Few) :=
  GOK.nil
theorem sig_ref13_Few : SigOK Tryz.prog n_ref13_Few ⟨.pure, true, [1], 0, fun l => match l with | [[x0], [x1]] => ref13_Few_s x0 x1 | _ => none⟩ :=
  sig_pure (C := C0) (A := A_ref13_Few) (G_ref13_Few) cok_none mixedOrders (f := Tryz.f23) (by kernel_rfl) (by kernel_rfl) (by kernel_rfl) rfl fun bs r h => by
    split at h
    · exact (run_ref13_Few ..).trans h
    · cases h
theorem G_ref18_Few : GOK Tryz.prog (Γ_ref18_Few) :=
  GOK.ite ⟨en_ref12_Few, sig_ref12_Few⟩ <|
  GOK.ite ⟨en_ref13_Few, sig_ref13_Few⟩ <|
  GOK.nil
theorem sig_ref18_Few : SigOK Tryz.prog n_ref18_Few ⟨.pure, true, [1], 0, fun l => match l with | [[x0, x1, x2, x3, x4]] => ref18_Few_s x0 x1 x2 x3 x4 | _ => none⟩ :=
  sig_pure (C := C0) (A := A_ref18_Few) (G_ref18_Few) cok_none mixedOrders (f := Tryz.f10) (by kernel_rfl) (by kernel_rfl) (by kernel_rfl) rfl fun bs r h => by
    split at h
    · exact (run_ref18_Few ..).trans h
    · cases h
theorem G_rank_first {C : IV → List Nat → List (List IV) → Option (List IV)} (hC : COK Tryz.prog C) : GOK Tryz.prog (Γ_rank_first C) :=
  GOK.nil
theorem sig_rank_first {C : IV → List Nat → List (List IV) → Option (List IV)} (hC : COK Tryz.prog C) : SigOK Tryz.prog n_rank_first ⟨.pure, true, [1], 0, fun l => match l with | [[x0]] => rank_first_s C x0 | _ => none⟩ :=
  sig_pure (C := C) (A := A_rank_first) (G_rank_first hC) hC mixedOrders (f := Tryz.f76) (by kernel_rfl) (by kernel_rfl) (by kernel_rfl) rfl fun bs r h => by
    split at h
    · exact (run_rank_first C ..).trans h
    · cases h
theorem G_cmp_isNaN_int : GOK Tryz.prog (Γ_cmp_isNaN_int) :=
  GOK.nil
theorem sig_cmp_isNaN_int : SigOK Tryz.prog n_cmp_isNaN_int ⟨.pure, true, [1], 0, fun l => match l with | [[x0]] => cmp_isNaN_int_s x0 | _ => none⟩ :=
  sig_pure (C := C0) (A := A_cmp_isNaN_int) (G_cmp_isNaN_int) cok_none mixedOrders (f := Tryz.f106) (by kernel_rfl) (by kernel_rfl) (by kernel_rfl) rfl fun bs r h => by
    split at h
    · exact (run_cmp_isNaN_int ..).trans h
    · cases h
theorem G_cmp_Compare_int : GOK Tryz.prog (Γ_cmp_Compare_int) :=
  GOK.ite ⟨en_cmp_isNaN_int, sig_cmp_isNaN_int⟩ <|
  GOK.nil
theorem sig_cmp_Compare_int : SigOK Tryz.prog n_cmp_Compare_int ⟨.pure, true, [1], 0, fun l => match l with | [[x0], [x1]] => cmp_Compare_int_s x0 x1 | _ => none⟩ :=
  sig_pure (C := C0) (A := A_cmp_Compare_int) (G_cmp_Compare_int) cok_none mixedOrders (f := Tryz.f78) (by kernel_rfl) (by kernel_rfl) (by kernel_rfl) rfl fun bs r h => by
    split at h
    · exact (run_cmp_Compare_int ..).trans h
    · cases h
theorem G_rank_Before_1 : GOK Tryz.prog (Γ_rank_Before_1) :=
  GOK.ite ⟨en_cmp_Compare_int, sig_cmp_Compare_int⟩ <|
  GOK.nil
theorem sig_rank_Before_1 : SigOK Tryz.prog n_rank_Before_1 ⟨.pure, true, [1], 0, fun l => match l with | [[x0], [x1]] => rank_Before_1_s x0 x1 | _ => none⟩ :=
  sig_pure (C := C0) (A := A_rank_Before_1) (G_rank_Before_1) cok_none mixedOrders (f := Tryz.f77) (by kernel_rfl) (by kernel_rfl) (by kernel_rfl) rfl fun bs r h => by
    split at h
    · exact (run_rank_Before_1 ..).trans h
    · cases h
theorem G_rank_Before_2 : GOK Tryz.prog (Γ_rank_Before_2) :=
  GOK.ite ⟨en_cmp_Compare_int, sig_cmp_Compare_int⟩ <|
  GOK.nil
theorem sig_rank_Before_2 : SigOK Tryz.prog n_rank_Before_2 ⟨.pure, true, [1], 0, fun l => match l with | [[x0], [x1]] => rank_Before_2_s x0 x1 | _ => none⟩ :=
  sig_pure (C := C0) (A := A_rank_Before_2) (G_rank_Before_2) cok_none mixedOrders (f := Tryz.f79) (by kernel_rfl) (by kernel_rfl) (by kernel_rfl) rfl fun bs r h => by
    split at h
    · exact (run_rank_Before_2 ..).trans h
    · cases h
theorem K_rank_Before : COK Tryz.prog (Cx_rank_Before) :=
  cok_tbl en_rank_Before_1 (fun caps cv w ok hcap => pure_of_run (C := C0) (A := A_rank_Before_1) (G_rank_Before_1) cok_none mixedOrders (f := Tryz.f77) (by kernel_rfl) (by kernel_rfl) hcap (by kernel_rfl) fun bs r h => by
    split at h
    · exact (run_rank_Before_1 ..).trans h
    · cases h) <|
  cok_tbl en_rank_Before_2 (fun caps cv w ok hcap => pure_of_run (C := C0) (A := A_rank_Before_2) (G_rank_Before_2) cok_none mixedOrders (f := Tryz.f79) (by kernel_rfl) (by kernel_rfl) hcap (by kernel_rfl) fun bs r h => by
    split at h
    · exact (run_rank_Before_2 ..).trans h
    · cases h) <|
  cok_none
theorem G_rank_Before : GOK Tryz.prog (Γ_rank_Before) :=
  GOK.ite ⟨en_rank_first, sig_rank_first (K_rank_Before)⟩ <|
  GOK.nil
theorem sig_rank_Before : SigOK Tryz.prog n_rank_Before ⟨.pure, true, [1], 0, fun l => match l with | [[x0, x1], [x2, x3]] => rank_Before_s x0 x1 x2 x3 | _ => none⟩ :=
  sig_pure (C := (Cx_rank_Before)) (A := A_rank_Before) (G_rank_Before) (K_rank_Before) mixedOrders (f := Tryz.f37) (by kernel_rfl) (by kernel_rfl) (by kernel_rfl) rfl fun bs r h => by
    split at h
    · exact (run_rank_Before ..).trans h
    · cases h
theorem G_slices_IndexFunc_Move {C : IV → List Nat → List (List IV) → Option (List IV)} (hC : COK Tryz.prog C) : GOK Tryz.prog (Γ_slices_IndexFunc_Move C) :=
  GOK.nil
theorem sig_slices_IndexFunc_Move {C : IV → List Nat → List (List IV) → Option (List IV)} (hC : COK Tryz.prog C) : SigOK Tryz.prog n_slices_IndexFunc_Move ⟨.pure, true, [1], 0, fun l => match l with | [[x0], [x1]] => slices_IndexFunc_Move_s C x0 x1 | _ => none⟩ :=
  sig_pure (C := C) (A := A_slices_IndexFunc_Move) (G_slices_IndexFunc_Move hC) hC mixedOrders (f := Tryz.f116) (by kernel_rfl) (by kernel_rfl) (by kernel_rfl) rfl fun bs r h => by
    split at h
    · exact (run_slices_IndexFunc_Move C ..).trans h
    · cases h
theorem G_slices_ContainsFunc_Move {C : IV → List Nat → List (List IV) → Option (List IV)} (hC : COK Tryz.prog C) : GOK Tryz.prog (Γ_slices_ContainsFunc_Move C) :=
  GOK.ite ⟨en_slices_IndexFunc_Move, sig_slices_IndexFunc_Move hC⟩ <|
  GOK.nil
theorem sig_slices_ContainsFunc_Move {C : IV → List Nat → List (List IV) → Option (List IV)} (hC : COK Tryz.prog C) : SigOK Tryz.prog n_slices_ContainsFunc_Move ⟨.pure, true, [1], 0, fun l => match l with | [[x0], [x1]] => slices_ContainsFunc_Move_s C x0 x1 | _ => none⟩ :=
  sig_pure (C := C) (A := A_slices_ContainsFunc_Move) (G_slices_ContainsFunc_Move hC) hC mixedOrders (f := Tryz.f94) (by kernel_rfl) (by kernel_rfl) (by kernel_rfl) rfl fun bs r h => by
    split at h
    · exact (run_slices_ContainsFunc_Move C ..).trans h
    · cases h
theorem G_moves_Row : GOK Tryz.prog (Γ_moves_Row) :=
  GOK.nil
theorem sig_moves_Row : SigOK Tryz.prog n_moves_Row ⟨.pure, true, [4], 0, fun l => match l with | [[x0, x1, x2, x3, x4, x5]] => moves_Row_s x0 x1 x2 x3 x4 x5 | _ => none⟩ :=
  sig_pure (C := C0) (A := A_moves_Row) (G_moves_Row) cok_none mixedOrders (f := Tryz.f75) (by kernel_rfl) (by kernel_rfl) (by kernel_rfl) rfl fun bs r h => by
    split at h
    · exact (run_moves_Row ..).trans h
    · cases h
theorem G_moves_One : GOK Tryz.prog (Γ_moves_One) :=
  GOK.ite ⟨en_moves_Row, sig_moves_Row⟩ <|
  GOK.ite ⟨en_tree_One, sig_tree_One⟩ <|
  GOK.nil
theorem sig_moves_One : SigOK Tryz.prog n_moves_One ⟨.pure, true, [1], 0, fun l => match l with | [[x0, x1, x2, x3, x4, x5]] => moves_One_s x0 x1 x2 x3 x4 x5 | _ => none⟩ :=
  sig_pure (C := C0) (A := A_moves_One) (G_moves_One) cok_none mixedOrders (f := Tryz.f36) (by kernel_rfl) (by kernel_rfl) (by kernel_rfl) rfl fun bs r h => by
    split at h
    · exact (run_moves_One ..).trans h
    · cases h
theorem G_moves_May_1 : GOK Tryz.prog (Γ_moves_May_1) :=
  GOK.ite ⟨en_moves_One, sig_moves_One⟩ <|
  GOK.nil
theorem sig_moves_May_1 : SigOK Tryz.prog n_moves_May_1 ⟨.pure, true, [1], 0, fun l => match l with | [[x0, x1, x2, x3, x4, x5]] => moves_May_1_s x0 x1 x2 x3 x4 x5 | _ => none⟩ :=
  sig_pure (C := C0) (A := A_moves_May_1) (G_moves_May_1) cok_none mixedOrders (f := Tryz.f95) (by kernel_rfl) (by kernel_rfl) (by kernel_rfl) rfl fun bs r h => by
    split at h
    · exact (run_moves_May_1 ..).trans h
    · cases h
theorem K_moves_May : COK Tryz.prog (Cx_moves_May) :=
  cok_tbl en_moves_May_1 (fun caps cv w ok hcap => pure_of_run (C := C0) (A := A_moves_May_1) (G_moves_May_1) cok_none mixedOrders (f := Tryz.f95) (by kernel_rfl) (by kernel_rfl) hcap (by kernel_rfl) fun bs r h => by
    split at h
    · exact (run_moves_May_1 ..).trans h
    · cases h) <|
  cok_none
theorem G_moves_May : GOK Tryz.prog (Γ_moves_May) :=
  GOK.ite ⟨en_rank_Before, sig_rank_Before⟩ <|
  GOK.ite ⟨en_slices_ContainsFunc_Move, sig_slices_ContainsFunc_Move (K_moves_May)⟩ <|
  GOK.nil
theorem sig_moves_May : SigOK Tryz.prog n_moves_May ⟨.pure, true, [1], 0, fun l => match l with | [[x0]] => moves_May_s x0 | _ => none⟩ :=
  sig_pure (C := (Cx_moves_May)) (A := A_moves_May) (G_moves_May) (K_moves_May) mixedOrders (f := Tryz.f53) (by kernel_rfl) (by kernel_rfl) (by kernel_rfl) rfl fun bs r h => by
    split at h
    · exact (run_moves_May ..).trans h
    · cases h
theorem G_marks_May : GOK Tryz.prog (Γ_marks_May) :=
  GOK.nil
theorem sig_marks_May : SigOK Tryz.prog n_marks_May ⟨.pure, true, [1], 0, fun l => match l with | [[x0]] => marks_May_s x0 | _ => none⟩ :=
  sig_pure (C := C0) (A := A_marks_May) (G_marks_May) cok_none mixedOrders (f := Tryz.f54) (by kernel_rfl) (by kernel_rfl) (by kernel_rfl) rfl fun bs r h => by
    split at h
    · exact (run_marks_May ..).trans h
    · cases h
theorem G_floor_May_1 : GOK Tryz.prog (Γ_floor_May_1) :=
  GOK.ite ⟨en_tree_May, sig_tree_May⟩ <|
  GOK.ite ⟨en_moves_May, sig_moves_May⟩ <|
  GOK.ite ⟨en_marks_May, sig_marks_May⟩ <|
  GOK.nil
theorem sig_floor_May_1 : SigOK Tryz.prog n_floor_May_1 ⟨.pure, true, [1], 0, fun l => match l with | [[x0]] => floor_May_1_s x0 | _ => none⟩ :=
  sig_pure (C := C0) (A := A_floor_May_1) (G_floor_May_1) cok_none mixedOrders (f := Tryz.f51) (by kernel_rfl) (by kernel_rfl) (by kernel_rfl) rfl fun bs r h => by
    split at h
    · exact (run_floor_May_1 ..).trans h
    · cases h
theorem G_slices_IndexFunc_Mark {C : IV → List Nat → List (List IV) → Option (List IV)} (hC : COK Tryz.prog C) : GOK Tryz.prog (Γ_slices_IndexFunc_Mark C) :=
  GOK.nil
theorem sig_slices_IndexFunc_Mark {C : IV → List Nat → List (List IV) → Option (List IV)} (hC : COK Tryz.prog C) : SigOK Tryz.prog n_slices_IndexFunc_Mark ⟨.pure, true, [1], 0, fun l => match l with | [[x0], [x1]] => slices_IndexFunc_Mark_s C x0 x1 | _ => none⟩ :=
  sig_pure (C := C) (A := A_slices_IndexFunc_Mark) (G_slices_IndexFunc_Mark hC) hC mixedOrders (f := Tryz.f87) (by kernel_rfl) (by kernel_rfl) (by kernel_rfl) rfl fun bs r h => by
    split at h
    · exact (run_slices_IndexFunc_Mark C ..).trans h
    · cases h
theorem G_marks_place_1 : GOK Tryz.prog (Γ_marks_place_1) :=
  GOK.nil
theorem sig_marks_place_1 : SigOK Tryz.prog n_marks_place_1 ⟨.pure, true, [1], 0, fun l => match l with | [[x0, x1], [x2]] => marks_place_1_s x0 x1 x2 | _ => none⟩ :=
  sig_pure (C := C0) (A := A_marks_place_1) (G_marks_place_1) cok_none mixedOrders (f := Tryz.f104) (by kernel_rfl) (by kernel_rfl) (by kernel_rfl) rfl fun bs r h => by
    split at h
    · exact (run_marks_place_1 ..).trans h
    · cases h
theorem K_marks_place : COK Tryz.prog (Cx_marks_place) :=
  cok_tbl en_marks_place_1 (fun caps cv w ok hcap => pure_of_run (C := C0) (A := A_marks_place_1) (G_marks_place_1) cok_none mixedOrders (f := Tryz.f104) (by kernel_rfl) (by kernel_rfl) hcap (by kernel_rfl) fun bs r h => by
    split at h
    · exact (run_marks_place_1 ..).trans h
    · cases h) <|
  cok_none
theorem G_marks_place : GOK Tryz.prog (Γ_marks_place) :=
  GOK.ite ⟨en_slices_IndexFunc_Mark, sig_slices_IndexFunc_Mark (K_marks_place)⟩ <|
  GOK.nil
theorem sig_marks_place : SigOK Tryz.prog n_marks_place ⟨.pure, true, [1, 1], 0, fun l => match l with | [[x0], [x1]] => marks_place_s x0 x1 | _ => none⟩ :=
  sig_pure (C := (Cx_marks_place)) (A := A_marks_place) (G_marks_place) (K_marks_place) mixedOrders (f := Tryz.f71) (by kernel_rfl) (by kernel_rfl) (by kernel_rfl) rfl fun bs r h => by
    split at h
    · exact (run_marks_place ..).trans h
    · cases h
theorem G_marks_greatest : GOK Tryz.prog (Γ_marks_greatest) :=
  GOK.nil
theorem sig_marks_greatest : SigOK Tryz.prog n_marks_greatest ⟨.pure, true, [1], 0, fun l => match l with | [[x0], [x1]] => marks_greatest_s x0 x1 | _ => none⟩ :=
  sig_pure (C := C0) (A := A_marks_greatest) (G_marks_greatest) cok_none mixedOrders (f := Tryz.f86) (by kernel_rfl) (by kernel_rfl) (by kernel_rfl) rfl fun bs r h => by
    split at h
    · exact (run_marks_greatest ..).trans h
    · cases h
theorem G_marks_Raise_1 : GOK Tryz.prog (Γ_marks_Raise_1) :=
  GOK.nil
theorem sig_marks_Raise_1 : SigOK Tryz.prog n_marks_Raise_1 ⟨.pure, true, [1], 0, fun l => match l with | [[x0, x1], [x2]] => marks_Raise_1_s x0 x1 x2 | _ => none⟩ :=
  sig_pure (C := C0) (A := A_marks_Raise_1) (G_marks_Raise_1) cok_none mixedOrders (f := Tryz.f88) (by kernel_rfl) (by kernel_rfl) (by kernel_rfl) rfl fun bs r h => by
    split at h
    · exact (run_marks_Raise_1 ..).trans h
    · cases h
theorem K_marks_Raise : COK Tryz.prog (Cx_marks_Raise) :=
  cok_tbl en_marks_Raise_1 (fun caps cv w ok hcap => pure_of_run (C := C0) (A := A_marks_Raise_1) (G_marks_Raise_1) cok_none mixedOrders (f := Tryz.f88) (by kernel_rfl) (by kernel_rfl) hcap (by kernel_rfl) fun bs r h => by
    split at h
    · exact (run_marks_Raise_1 ..).trans h
    · cases h) <|
  cok_none
theorem G_marks_Raise : GOK Tryz.prog (Γ_marks_Raise) :=
  GOK.ite ⟨en_slices_Clone_Mark, sig_slices_Clone_Mark⟩ <|
  GOK.ite ⟨en_marks_place, sig_marks_place⟩ <|
  GOK.ite ⟨en_marks_greatest, sig_marks_greatest⟩ <|
  GOK.ite ⟨en_slices_IndexFunc_Mark, sig_slices_IndexFunc_Mark (K_marks_Raise)⟩ <|
  GOK.ite ⟨en_slices_Insert_Mark, sig_slices_Insert_Mark⟩ <|
  GOK.nil
theorem sig_marks_Raise : SigOK Tryz.prog n_marks_Raise ⟨.pure, false, [1], 0, fun l => match l with | [[x0], [x1, x2]] => marks_Raise_s x0 x1 x2 | _ => none⟩ :=
  sig_pure (C := (Cx_marks_Raise)) (A := A_marks_Raise) (G_marks_Raise) (K_marks_Raise) mixedOrders (f := Tryz.f40) (by kernel_rfl) (by kernel_rfl) (by kernel_rfl) rfl fun bs r h => by
    split at h
    · exact (run_marks_Raise ..).trans h
    · cases h
theorem G_marks_Of : GOK Tryz.prog (Γ_marks_Of) :=
  GOK.ite ⟨en_marks_Raise, sig_marks_Raise⟩ <|
  GOK.nil
theorem sig_marks_Of : SigOK Tryz.prog n_marks_Of ⟨.pure, false, [1], 0, fun l => match l with | [[x0]] => marks_Of_s x0 | _ => none⟩ :=
  sig_pure (C := C0) (A := A_marks_Of) (G_marks_Of) cok_none mixedOrders (f := Tryz.f33) (by kernel_rfl) (by kernel_rfl) (by kernel_rfl) rfl fun bs r h => by
    split at h
    · exact (run_marks_Of ..).trans h
    · cases h
theorem G_slices_ContainsFunc_Mark {C : IV → List Nat → List (List IV) → Option (List IV)} (hC : COK Tryz.prog C) : GOK Tryz.prog (Γ_slices_ContainsFunc_Mark C) :=
  GOK.ite ⟨en_slices_IndexFunc_Mark, sig_slices_IndexFunc_Mark hC⟩ <|
  GOK.nil
theorem sig_slices_ContainsFunc_Mark {C : IV → List Nat → List (List IV) → Option (List IV)} (hC : COK Tryz.prog C) : SigOK Tryz.prog n_slices_ContainsFunc_Mark ⟨.pure, true, [1], 0, fun l => match l with | [[x0], [x1]] => slices_ContainsFunc_Mark_s C x0 x1 | _ => none⟩ :=
  sig_pure (C := C) (A := A_slices_ContainsFunc_Mark) (G_slices_ContainsFunc_Mark hC) hC mixedOrders (f := Tryz.f72) (by kernel_rfl) (by kernel_rfl) (by kernel_rfl) rfl fun bs r h => by
    split at h
    · exact (run_slices_ContainsFunc_Mark C ..).trans h
    · cases h
theorem G_marks_Get : GOK Tryz.prog (Γ_marks_Get) :=
  GOK.ite ⟨en_marks_place, sig_marks_place⟩ <|
  GOK.nil
theorem sig_marks_Get : SigOK Tryz.prog n_marks_Get ⟨.pure, true, [1], 0, fun l => match l with | [[x0], [x1]] => marks_Get_s x0 x1 | _ => none⟩ :=
  sig_pure (C := C0) (A := A_marks_Get) (G_marks_Get) cok_none mixedOrders (f := Tryz.f28) (by kernel_rfl) (by kernel_rfl) (by kernel_rfl) rfl fun bs r h => by
    split at h
    · exact (run_marks_Get ..).trans h
    · cases h
theorem G_marks_Below_1 : GOK Tryz.prog (Γ_marks_Below_1) :=
  GOK.ite ⟨en_marks_Get, sig_marks_Get⟩ <|
  GOK.nil
theorem sig_marks_Below_1 : SigOK Tryz.prog n_marks_Below_1 ⟨.pure, true, [1], 0, fun l => match l with | [[x0, x1], [x2], [x3]] => marks_Below_1_s x0 x1 x2 x3 | _ => none⟩ :=
  sig_pure (C := C0) (A := A_marks_Below_1) (G_marks_Below_1) cok_none mixedOrders (f := Tryz.f73) (by kernel_rfl) (by kernel_rfl) (by kernel_rfl) rfl fun bs r h => by
    split at h
    · exact (run_marks_Below_1 ..).trans h
    · cases h
theorem K_marks_Below : COK Tryz.prog (Cx_marks_Below) :=
  cok_tbl en_marks_Below_1 (fun caps cv w ok hcap => pure_of_run (C := C0) (A := A_marks_Below_1) (G_marks_Below_1) cok_none mixedOrders (f := Tryz.f73) (by kernel_rfl) (by kernel_rfl) hcap (by kernel_rfl) fun bs r h => by
    split at h
    · exact (run_marks_Below_1 ..).trans h
    · cases h) <|
  cok_none
theorem G_marks_Below : GOK Tryz.prog (Γ_marks_Below) :=
  GOK.ite ⟨en_slices_ContainsFunc_Mark, sig_slices_ContainsFunc_Mark (K_marks_Below)⟩ <|
  GOK.nil
theorem sig_marks_Below : SigOK Tryz.prog n_marks_Below ⟨.pure, true, [1], 0, fun l => match l with | [[x0], [x1]] => marks_Below_s x0 x1 | _ => none⟩ :=
  sig_pure (C := (Cx_marks_Below)) (A := A_marks_Below) (G_marks_Below) (K_marks_Below) mixedOrders (f := Tryz.f29) (by kernel_rfl) (by kernel_rfl) (by kernel_rfl) rfl fun bs r h => by
    split at h
    · exact (run_marks_Below ..).trans h
    · cases h
theorem G_floor_May_2 : GOK Tryz.prog (Γ_floor_May_2) :=
  GOK.ite ⟨en_marks_Of, sig_marks_Of⟩ <|
  GOK.ite ⟨en_marks_Below, sig_marks_Below⟩ <|
  GOK.nil
theorem sig_floor_May_2 : SigOK Tryz.prog n_floor_May_2 ⟨.pure, true, [1], 0, fun l => match l with | [[x0]] => floor_May_2_s x0 | _ => none⟩ :=
  sig_pure (C := C0) (A := A_floor_May_2) (G_floor_May_2) cok_none mixedOrders (f := Tryz.f55) (by kernel_rfl) (by kernel_rfl) (by kernel_rfl) rfl fun bs r h => by
    split at h
    · exact (run_floor_May_2 ..).trans h
    · cases h
theorem G_floor_known : GOK Tryz.prog (Γ_floor_known) :=
  GOK.ite ⟨en_marks_Get, sig_marks_Get⟩ <|
  GOK.nil
theorem sig_floor_known : SigOK Tryz.prog n_floor_known ⟨.pure, true, [1], 0, fun l => match l with | [[x0], [x1, x2]] => floor_known_s x0 x1 x2 | _ => none⟩ :=
  sig_pure (C := C0) (A := A_floor_known) (G_floor_known) cok_none mixedOrders (f := Tryz.f44) (by kernel_rfl) (by kernel_rfl) (by kernel_rfl) rfl fun bs r h => by
    split at h
    · exact (run_floor_known ..).trans h
    · cases h
theorem G_floor_May_3 : GOK Tryz.prog (Γ_floor_May_3) :=
  GOK.ite ⟨en_floor_known, sig_floor_known⟩ <|
  GOK.nil
theorem sig_floor_May_3 : SigOK Tryz.prog n_floor_May_3 ⟨.pure, true, [1], 0, fun l => match l with | [[x0]] => floor_May_3_s x0 | _ => none⟩ :=
  sig_pure (C := C0) (A := A_floor_May_3) (G_floor_May_3) cok_none mixedOrders (f := Tryz.f56) (by kernel_rfl) (by kernel_rfl) (by kernel_rfl) rfl fun bs r h => by
    split at h
    · exact (run_floor_May_3 ..).trans h
    · cases h
theorem G_moves_when_before : GOK Tryz.prog (Γ_moves_when_before) :=
  GOK.ite ⟨en_rank_Before, sig_rank_Before⟩ <|
  GOK.nil
theorem sig_moves_when_before : SigOK Tryz.prog n_moves_when_before ⟨.pure, true, [1], 0, fun l => match l with | [[x0, x1], [x2, x3, x4, x5, x6, x7]] => moves_when_before_s x0 x1 x2 x3 x4 x5 x6 x7 | _ => none⟩ :=
  sig_pure (C := C0) (A := A_moves_when_before) (G_moves_when_before) cok_none mixedOrders (f := Tryz.f82) (by kernel_rfl) (by kernel_rfl) (by kernel_rfl) rfl fun bs r h => by
    split at h
    · exact (run_moves_when_before ..).trans h
    · cases h
theorem G_moves_Since : GOK Tryz.prog (Γ_moves_Since) :=
  GOK.ite ⟨en_moves_when_before, sig_moves_when_before⟩ <|
  GOK.nil
theorem sig_moves_Since : SigOK Tryz.prog n_moves_Since ⟨.pure, false, [1], 0, fun l => match l with | [[x0], [x1, x2]] => moves_Since_s x0 x1 x2 | _ => none⟩ :=
  sig_pure (C := C0) (A := A_moves_Since) (G_moves_Since) cok_none mixedOrders (f := Tryz.f45) (by kernel_rfl) (by kernel_rfl) (by kernel_rfl) rfl fun bs r h => by
    split at h
    · exact (run_moves_Since ..).trans h
    · cases h
theorem G_floor_May_4 : GOK Tryz.prog (Γ_floor_May_4) :=
  GOK.ite ⟨en_moves_Since, sig_moves_Since⟩ <|
  GOK.nil
theorem sig_floor_May_4 : SigOK Tryz.prog n_floor_May_4 ⟨.pure, true, [1], 0, fun l => match l with | [[x0]] => floor_May_4_s x0 | _ => none⟩ :=
  sig_pure (C := C0) (A := A_floor_May_4) (G_floor_May_4) cok_none mixedOrders (f := Tryz.f57) (by kernel_rfl) (by kernel_rfl) (by kernel_rfl) rfl fun bs r h => by
    split at h
    · exact (run_floor_May_4 ..).trans h
    · cases h
theorem G_floor_children : GOK Tryz.prog (Γ_floor_children) :=
  GOK.nil
theorem sig_floor_children : SigOK Tryz.prog n_floor_children ⟨.pure, false, [1], 0, fun l => match l with | [[x0, x1, x2, x3, x4]] => floor_children_s x0 x1 x2 x3 x4 | _ => none⟩ :=
  sig_pure (C := C0) (A := A_floor_children) (G_floor_children) cok_none mixedOrders (f := Tryz.f39) (by kernel_rfl) (by kernel_rfl) (by kernel_rfl) rfl fun bs r h => by
    split at h
    · exact (run_floor_children ..).trans h
    · cases h
theorem G_floor_May_5 : GOK Tryz.prog (Γ_floor_May_5) :=
  GOK.ite ⟨en_floor_children, sig_floor_children⟩ <|
  GOK.nil
theorem sig_floor_May_5 : SigOK Tryz.prog n_floor_May_5 ⟨.pure, true, [1], 0, fun l => match l with | [[x0]] => floor_May_5_s x0 | _ => none⟩ :=
  sig_pure (C := C0) (A := A_floor_May_5) (G_floor_May_5) cok_none mixedOrders (f := Tryz.f58) (by kernel_rfl) (by kernel_rfl) (by kernel_rfl) rfl fun bs r h => by
    split at h
    · exact (run_floor_May_5 ..).trans h
    · cases h
theorem K_floor_May : COK Tryz.prog (Cx_floor_May) :=
  cok_tbl en_floor_May_1 (fun caps cv w ok hcap => pure_of_run (C := C0) (A := A_floor_May_1) (G_floor_May_1) cok_none mixedOrders (f := Tryz.f51) (by kernel_rfl) (by kernel_rfl) hcap (by kernel_rfl) fun bs r h => by
    split at h
    · exact (run_floor_May_1 ..).trans h
    · cases h) <|
  cok_tbl en_floor_May_2 (fun caps cv w ok hcap => pure_of_run (C := C0) (A := A_floor_May_2) (G_floor_May_2) cok_none mixedOrders (f := Tryz.f55) (by kernel_rfl) (by kernel_rfl) hcap (by kernel_rfl) fun bs r h => by
    split at h
    · exact (run_floor_May_2 ..).trans h
    · cases h) <|
  cok_tbl en_floor_May_3 (fun caps cv w ok hcap => pure_of_run (C := C0) (A := A_floor_May_3) (G_floor_May_3) cok_none mixedOrders (f := Tryz.f56) (by kernel_rfl) (by kernel_rfl) hcap (by kernel_rfl) fun bs r h => by
    split at h
    · exact (run_floor_May_3 ..).trans h
    · cases h) <|
  cok_tbl en_floor_May_4 (fun caps cv w ok hcap => pure_of_run (C := C0) (A := A_floor_May_4) (G_floor_May_4) cok_none mixedOrders (f := Tryz.f57) (by kernel_rfl) (by kernel_rfl) hcap (by kernel_rfl) fun bs r h => by
    split at h
    · exact (run_floor_May_4 ..).trans h
    · cases h) <|
  cok_tbl en_floor_May_5 (fun caps cv w ok hcap => pure_of_run (C := C0) (A := A_floor_May_5) (G_floor_May_5) cok_none mixedOrders (f := Tryz.f58) (by kernel_rfl) (by kernel_rfl) hcap (by kernel_rfl) fun bs r h => by
    split at h
    · exact (run_floor_May_5 ..).trans h
    · cases h) <|
  cok_none
theorem G_floor_May : GOK Tryz.prog (Γ_floor_May) :=
  GOK.nil
theorem sig_floor_May : SigOK Tryz.prog n_floor_May ⟨.pure, true, [1], 0, fun l => match l with | [[x0, x1, x2, x3, x4]] => floor_May_s x0 x1 x2 x3 x4 | _ => none⟩ :=
  sig_pure (C := (Cx_floor_May)) (A := A_floor_May) (G_floor_May) (K_floor_May) mixedOrders (f := Tryz.f16) (by kernel_rfl) (by kernel_rfl) (by kernel_rfl) rfl fun bs r h => by
    split at h
    · exact (run_floor_May ..).trans h
    · cases h
theorem G_moves_seek {C : IV → List Nat → List (List IV) → Option (List IV)} (hC : COK Tryz.prog C) : GOK Tryz.prog (Γ_moves_seek C) :=
  GOK.nil
theorem sig_moves_seek {C : IV → List Nat → List (List IV) → Option (List IV)} (hC : COK Tryz.prog C) : SigOK Tryz.prog n_moves_seek ⟨.pure, true, [1], 0, fun l => match l with | [[x0], [x1, x2], [x3]] => moves_seek_s C x0 x1 x2 x3 | _ => none⟩ :=
  sig_pure (C := C) (A := A_moves_seek) (G_moves_seek hC) hC mixedOrders (f := Tryz.f80) (by kernel_rfl) (by kernel_rfl) (by kernel_rfl) rfl fun bs r h => by
    split at h
    · exact (run_moves_seek C ..).trans h
    · cases h
theorem G_moves_when_is : GOK Tryz.prog (Γ_moves_when_is) :=
  GOK.nil
theorem sig_moves_when_is : SigOK Tryz.prog n_moves_when_is ⟨.pure, true, [1], 0, fun l => match l with | [[x0, x1], [x2, x3, x4, x5, x6, x7]] => moves_when_is_s x0 x1 x2 x3 x4 x5 x6 x7 | _ => none⟩ :=
  sig_pure (C := C0) (A := A_moves_when_is) (G_moves_when_is) cok_none mixedOrders (f := Tryz.f81) (by kernel_rfl) (by kernel_rfl) (by kernel_rfl) rfl fun bs r h => by
    split at h
    · exact (run_moves_when_is ..).trans h
    · cases h
theorem K_moves_Insert : COK Tryz.prog (Cx_moves_Insert) :=
  cok_tbl en_moves_when_is (fun caps cv w ok hcap => pure_of_run (C := C0) (A := A_moves_when_is) (G_moves_when_is) cok_none mixedOrders (f := Tryz.f81) (by kernel_rfl) (by kernel_rfl) hcap (by kernel_rfl) fun bs r h => by
    split at h
    · exact (run_moves_when_is ..).trans h
    · cases h) <|
  cok_tbl en_moves_when_before (fun caps cv w ok hcap => pure_of_run (C := C0) (A := A_moves_when_before) (G_moves_when_before) cok_none mixedOrders (f := Tryz.f82) (by kernel_rfl) (by kernel_rfl) hcap (by kernel_rfl) fun bs r h => by
    split at h
    · exact (run_moves_when_before ..).trans h
    · cases h) <|
  cok_none
theorem G_moves_Insert : GOK Tryz.prog (Γ_moves_Insert) :=
  GOK.ite ⟨en_moves_seek, sig_moves_seek (K_moves_Insert)⟩ <|
  GOK.ite ⟨en_slices_Clone_Move, sig_slices_Clone_Move⟩ <|
  GOK.ite ⟨en_slices_Insert_Move, sig_slices_Insert_Move⟩ <|
  GOK.nil
theorem sig_moves_Insert : SigOK Tryz.prog n_moves_Insert ⟨.pure, false, [1, 1, 1], 0, fun l => match l with | [[x0], [x1, x2, x3, x4, x5, x6]] => moves_Insert_s x0 x1 x2 x3 x4 x5 x6 | _ => none⟩ :=
  sig_pure (C := (Cx_moves_Insert)) (A := A_moves_Insert) (G_moves_Insert) (K_moves_Insert) mixedOrders (f := Tryz.f38) (by kernel_rfl) (by kernel_rfl) (by kernel_rfl) rfl fun bs r h => by
    split at h
    · exact (run_moves_Insert ..).trans h
    · cases h
theorem G_floor_Add : GOK Tryz.prog (Γ_floor_Add) :=
  GOK.ite ⟨en_floor_May, sig_floor_May⟩ <|
  GOK.ite ⟨en_moves_One, sig_moves_One⟩ <|
  GOK.ite ⟨en_rank_Before, sig_rank_Before⟩ <|
  GOK.ite ⟨en_moves_Insert, sig_moves_Insert⟩ <|
  GOK.ite ⟨en_floor_children, sig_floor_children⟩ <|
  GOK.ite ⟨en_marks_Raise, sig_marks_Raise⟩ <|
  GOK.nil
theorem sig_floor_Add : SigOK Tryz.prog n_floor_Add ⟨.pure, false, [5, 1, 1], 0, fun l => match l with | [[x0, x1, x2, x3, x4], [x5, x6, x7, x8, x9, x10]] => floor_Add_s x0 x1 x2 x3 x4 x5 x6 x7 x8 x9 x10 | _ => none⟩ :=
  sig_pure (C := C0) (A := A_floor_Add) (G_floor_Add) cok_none mixedOrders (f := Tryz.f12) (by kernel_rfl) (by kernel_rfl) (by kernel_rfl) rfl fun bs r h => by
    split at h
    · exact (run_floor_Add ..).trans h
    · cases h
theorem G_floor_Merge : GOK Tryz.prog (Γ_floor_Merge) :=
  GOK.ite ⟨en_floor_Add, sig_floor_Add⟩ <|
  GOK.nil
theorem sig_floor_Merge : SigOK Tryz.prog n_floor_Merge ⟨.pure, false, [5, 1], 0, fun l => match l with | [[x0, x1, x2, x3, x4], [x5]] => floor_Merge_s x0 x1 x2 x3 x4 x5 | _ => none⟩ :=
  sig_pure (C := C0) (A := A_floor_Merge) (G_floor_Merge) cok_none mixedOrders (f := Tryz.f24) (by kernel_rfl) (by kernel_rfl) (by kernel_rfl) rfl fun bs r h => by
    split at h
    · exact (run_floor_Merge ..).trans h
    · cases h
theorem G_fold_Barred : GOK Tryz.prog (Γ_fold_Barred) :=
  GOK.ite ⟨en_tree_Above, sig_tree_Above⟩ <|
  GOK.nil
theorem sig_fold_Barred : SigOK Tryz.prog n_fold_Barred ⟨.pure, true, [1], 0, fun l => match l with | [[x0], [x1, x2, x3, x4, x5, x6]] => fold_Barred_s x0 x1 x2 x3 x4 x5 x6 | _ => none⟩ :=
  sig_pure (C := C0) (A := A_fold_Barred) (G_fold_Barred) cok_none mixedOrders (f := Tryz.f111) (by kernel_rfl) (by kernel_rfl) (by kernel_rfl) rfl fun bs r h => by
    split at h
    · exact (run_fold_Barred ..).trans h
    · cases h
theorem G_slices_IndexFunc_Row {C : IV → List Nat → List (List IV) → Option (List IV)} (hC : COK Tryz.prog C) : GOK Tryz.prog (Γ_slices_IndexFunc_Row C) :=
  GOK.nil
theorem sig_slices_IndexFunc_Row {C : IV → List Nat → List (List IV) → Option (List IV)} (hC : COK Tryz.prog C) : SigOK Tryz.prog n_slices_IndexFunc_Row ⟨.pure, true, [1], 0, fun l => match l with | [[x0], [x1]] => slices_IndexFunc_Row_s C x0 x1 | _ => none⟩ :=
  sig_pure (C := C) (A := A_slices_IndexFunc_Row) (G_slices_IndexFunc_Row hC) hC mixedOrders (f := Tryz.f127) (by kernel_rfl) (by kernel_rfl) (by kernel_rfl) rfl fun bs r h => by
    split at h
    · exact (run_slices_IndexFunc_Row C ..).trans h
    · cases h
theorem G_tree_place_1 : GOK Tryz.prog (Γ_tree_place_1) :=
  GOK.nil
theorem sig_tree_place_1 : SigOK Tryz.prog n_tree_place_1 ⟨.pure, true, [1], 0, fun l => match l with | [[x0, x1, x2, x3], [x4]] => tree_place_1_s x0 x1 x2 x3 x4 | _ => none⟩ :=
  sig_pure (C := C0) (A := A_tree_place_1) (G_tree_place_1) cok_none mixedOrders (f := Tryz.f140) (by kernel_rfl) (by kernel_rfl) (by kernel_rfl) rfl fun bs r h => by
    split at h
    · exact (run_tree_place_1 ..).trans h
    · cases h
theorem K_tree_place : COK Tryz.prog (Cx_tree_place) :=
  cok_tbl en_tree_place_1 (fun caps cv w ok hcap => pure_of_run (C := C0) (A := A_tree_place_1) (G_tree_place_1) cok_none mixedOrders (f := Tryz.f140) (by kernel_rfl) (by kernel_rfl) hcap (by kernel_rfl) fun bs r h => by
    split at h
    · exact (run_tree_place_1 ..).trans h
    · cases h) <|
  cok_none
theorem G_tree_place : GOK Tryz.prog (Γ_tree_place) :=
  GOK.ite ⟨en_slices_IndexFunc_Row, sig_slices_IndexFunc_Row (K_tree_place)⟩ <|
  GOK.nil
theorem sig_tree_place : SigOK Tryz.prog n_tree_place ⟨.pure, true, [1, 1], 0, fun l => match l with | [[x0], [x1]] => tree_place_s x0 x1 | _ => none⟩ :=
  sig_pure (C := (Cx_tree_place)) (A := A_tree_place) (G_tree_place) (K_tree_place) mixedOrders (f := Tryz.f126) (by kernel_rfl) (by kernel_rfl) (by kernel_rfl) rfl fun bs r h => by
    split at h
    · exact (run_tree_place ..).trans h
    · cases h
theorem G_tree_Set_1 : GOK Tryz.prog (Γ_tree_Set_1) :=
  GOK.nil
theorem sig_tree_Set_1 : SigOK Tryz.prog n_tree_Set_1 ⟨.pure, true, [1], 0, fun l => match l with | [[x0, x1, x2, x3], [x4]] => tree_Set_1_s x0 x1 x2 x3 x4 | _ => none⟩ :=
  sig_pure (C := C0) (A := A_tree_Set_1) (G_tree_Set_1) cok_none mixedOrders (f := Tryz.f128) (by kernel_rfl) (by kernel_rfl) (by kernel_rfl) rfl fun bs r h => by
    split at h
    · exact (run_tree_Set_1 ..).trans h
    · cases h
theorem K_tree_Set : COK Tryz.prog (Cx_tree_Set) :=
  cok_tbl en_tree_Set_1 (fun caps cv w ok hcap => pure_of_run (C := C0) (A := A_tree_Set_1) (G_tree_Set_1) cok_none mixedOrders (f := Tryz.f128) (by kernel_rfl) (by kernel_rfl) hcap (by kernel_rfl) fun bs r h => by
    split at h
    · exact (run_tree_Set_1 ..).trans h
    · cases h) <|
  cok_none
theorem G_tree_Set : GOK Tryz.prog (Γ_tree_Set) :=
  GOK.ite ⟨en_slices_Clone_Row, sig_slices_Clone_Row⟩ <|
  GOK.ite ⟨en_tree_place, sig_tree_place⟩ <|
  GOK.ite ⟨en_slices_IndexFunc_Row, sig_slices_IndexFunc_Row (K_tree_Set)⟩ <|
  GOK.ite ⟨en_slices_Insert_Row, sig_slices_Insert_Row⟩ <|
  GOK.nil
theorem sig_tree_Set : SigOK Tryz.prog n_tree_Set ⟨.pure, false, [1], 0, fun l => match l with | [[x0], [x1, x2, x3, x4]] => tree_Set_s x0 x1 x2 x3 x4 | _ => none⟩ :=
  sig_pure (C := (Cx_tree_Set)) (A := A_tree_Set) (G_tree_Set) (K_tree_Set) mixedOrders (f := Tryz.f112) (by kernel_rfl) (by kernel_rfl) (by kernel_rfl) rfl fun bs r h => by
    split at h
    · exact (run_tree_Set ..).trans h
    · cases h
theorem G_fold_Do : GOK Tryz.prog (Γ_fold_Do) :=
  GOK.ite ⟨en_fold_Barred, sig_fold_Barred⟩ <|
  GOK.ite ⟨en_moves_Row, sig_moves_Row⟩ <|
  GOK.ite ⟨en_tree_Set, sig_tree_Set⟩ <|
  GOK.nil
theorem sig_fold_Do : SigOK Tryz.prog n_fold_Do ⟨.pure, false, [1, 1], 0, fun l => match l with | [[x0], [x1, x2, x3, x4, x5, x6]] => fold_Do_s x0 x1 x2 x3 x4 x5 x6 | _ => none⟩ :=
  sig_pure (C := C0) (A := A_fold_Do) (G_fold_Do) cok_none mixedOrders (f := Tryz.f90) (by kernel_rfl) (by kernel_rfl) (by kernel_rfl) rfl fun bs r h => by
    split at h
    · exact (run_fold_Do ..).trans h
    · cases h
theorem G_fold_All : GOK Tryz.prog (Γ_fold_All) :=
  GOK.ite ⟨en_fold_Do, sig_fold_Do⟩ <|
  GOK.nil
theorem sig_fold_All : SigOK Tryz.prog n_fold_All ⟨.pure, false, [1], 0, fun l => match l with | [[x0], [x1]] => fold_All_s x0 x1 | _ => none⟩ :=
  sig_pure (C := C0) (A := A_fold_All) (G_fold_All) cok_none mixedOrders (f := Tryz.f46) (by kernel_rfl) (by kernel_rfl) (by kernel_rfl) rfl fun bs r h => by
    split at h
    · exact (run_fold_All ..).trans h
    · cases h
theorem G_floor_Prune : GOK Tryz.prog (Γ_floor_Prune) :=
  GOK.ite ⟨en_floor_May, sig_floor_May⟩ <|
  GOK.ite ⟨en_floor_known, sig_floor_known⟩ <|
  GOK.ite ⟨en_rank_Before, sig_rank_Before⟩ <|
  GOK.ite ⟨en_moves_Since, sig_moves_Since⟩ <|
  GOK.ite ⟨en_fold_All, sig_fold_All⟩ <|
  GOK.nil
theorem sig_floor_Prune : SigOK Tryz.prog n_floor_Prune ⟨.pure, false, [5, 1], 0, fun l => match l with | [[x0, x1, x2, x3, x4], [x5, x6]] => floor_Prune_s x0 x1 x2 x3 x4 x5 x6 | _ => none⟩ :=
  sig_pure (C := C0) (A := A_floor_Prune) (G_floor_Prune) cok_none mixedOrders (f := Tryz.f14) (by kernel_rfl) (by kernel_rfl) (by kernel_rfl) rfl fun bs r h => by
    split at h
    · exact (run_floor_Prune ..).trans h
    · cases h
theorem G_floor_Tree : GOK Tryz.prog (Γ_floor_Tree) :=
  GOK.ite ⟨en_fold_All, sig_fold_All⟩ <|
  GOK.nil
theorem sig_floor_Tree : SigOK Tryz.prog n_floor_Tree ⟨.pure, false, [1], 0, fun l => match l with | [[x0, x1, x2, x3, x4]] => floor_Tree_s x0 x1 x2 x3 x4 | _ => none⟩ :=
  sig_pure (C := C0) (A := A_floor_Tree) (G_floor_Tree) cok_none mixedOrders (f := Tryz.f19) (by kernel_rfl) (by kernel_rfl) (by kernel_rfl) rfl fun bs r h => by
    split at h
    · exact (run_floor_Tree ..).trans h
    · cases h
theorem G_slices_EqualFunc_Row_Row {C : IV → List Nat → List (List IV) → Option (List IV)} (hC : COK Tryz.prog C) : GOK Tryz.prog (Γ_slices_EqualFunc_Row_Row C) :=
  GOK.nil
theorem sig_slices_EqualFunc_Row_Row {C : IV → List Nat → List (List IV) → Option (List IV)} (hC : COK Tryz.prog C) : SigOK Tryz.prog n_slices_EqualFunc_Row_Row ⟨.pure, true, [1], 0, fun l => match l with | [[x0], [x1], [x2]] => slices_EqualFunc_Row_Row_s C x0 x1 x2 | _ => none⟩ :=
  sig_pure (C := C) (A := A_slices_EqualFunc_Row_Row) (G_slices_EqualFunc_Row_Row hC) hC mixedOrders (f := Tryz.f98) (by kernel_rfl) (by kernel_rfl) (by kernel_rfl) rfl fun bs r h => by
    split at h
    · exact (run_slices_EqualFunc_Row_Row C ..).trans h
    · cases h
theorem G_bits_Minus : GOK Tryz.prog (Γ_bits_Minus) :=
  GOK.nil
theorem sig_bits_Minus : SigOK Tryz.prog n_bits_Minus ⟨.pure, true, [1], 0, fun l => match l with | [[x0]] => bits_Minus_s x0 | _ => none⟩ :=
  sig_pure (C := C0) (A := A_bits_Minus) (G_bits_Minus) cok_none mixedOrders (f := Tryz.f134) (by kernel_rfl) (by kernel_rfl) (by kernel_rfl) rfl fun bs r h => by
    split at h
    · exact (run_bits_Minus ..).trans h
    · cases h
theorem G_bits_powers : GOK Tryz.prog (Γ_bits_powers) :=
  GOK.nil
theorem sig_bits_powers : SigOK Tryz.prog n_bits_powers ⟨.pure, true, [30], 0, fun l => match l with | [] => bits_powers_s | _ => none⟩ :=
  sig_pure (C := C0) (A := A_bits_powers) (G_bits_powers) cok_none mixedOrders (f := Tryz.f143) (by kernel_rfl) (by kernel_rfl) (by kernel_rfl) rfl fun bs r h => by
    split at h
    · exact (run_bits_powers ..).trans h
    · cases h
theorem G_bits_split : GOK Tryz.prog (Γ_bits_split) :=
  GOK.ite ⟨en_bits_powers, sig_bits_powers⟩ <|
  GOK.nil
theorem sig_bits_split : SigOK Tryz.prog n_bits_split ⟨.pure, true, [1, 1], 0, fun l => match l with | [[x0]] => bits_split_s x0 | _ => none⟩ :=
  sig_pure (C := C0) (A := A_bits_split) (G_bits_split) cok_none mixedOrders (f := Tryz.f135) (by kernel_rfl) (by kernel_rfl) (by kernel_rfl) rfl fun bs r h => by
    split at h
    · exact (run_bits_split ..).trans h
    · cases h
theorem G_bits_Bits : GOK Tryz.prog (Γ_bits_Bits) :=
  GOK.ite ⟨en_bits_Minus, sig_bits_Minus⟩ <|
  GOK.ite ⟨en_bits_split, sig_bits_split⟩ <|
  GOK.nil
theorem sig_bits_Bits : SigOK Tryz.prog n_bits_Bits ⟨.pure, true, [1], 0, fun l => match l with | [[x0]] => bits_Bits_s x0 | _ => none⟩ :=
  sig_pure (C := C0) (A := A_bits_Bits) (G_bits_Bits) cok_none mixedOrders (f := Tryz.f119) (by kernel_rfl) (by kernel_rfl) (by kernel_rfl) rfl fun bs r h => by
    split at h
    · exact (run_bits_Bits ..).trans h
    · cases h
theorem G_bits_Same : GOK Tryz.prog (Γ_bits_Same) :=
  GOK.ite ⟨en_bits_Bits, sig_bits_Bits⟩ <|
  GOK.nil
theorem sig_bits_Same : SigOK Tryz.prog n_bits_Same ⟨.pure, true, [1], 0, fun l => match l with | [[x0], [x1]] => bits_Same_s x0 x1 | _ => none⟩ :=
  sig_pure (C := C0) (A := A_bits_Same) (G_bits_Same) cok_none mixedOrders (f := Tryz.f100) (by kernel_rfl) (by kernel_rfl) (by kernel_rfl) rfl fun bs r h => by
    split at h
    · exact (run_bits_Same ..).trans h
    · cases h
theorem G_tree_Same_1 : GOK Tryz.prog (Γ_tree_Same_1) :=
  GOK.ite ⟨en_bits_Same, sig_bits_Same⟩ <|
  GOK.nil
theorem sig_tree_Same_1 : SigOK Tryz.prog n_tree_Same_1 ⟨.pure, true, [1], 0, fun l => match l with | [[x0, x1, x2, x3], [x4, x5, x6, x7]] => tree_Same_1_s x0 x1 x2 x3 x4 x5 x6 x7 | _ => none⟩ :=
  sig_pure (C := C0) (A := A_tree_Same_1) (G_tree_Same_1) cok_none mixedOrders (f := Tryz.f99) (by kernel_rfl) (by kernel_rfl) (by kernel_rfl) rfl fun bs r h => by
    split at h
    · exact (run_tree_Same_1 ..).trans h
    · cases h
theorem K_tree_Same : COK Tryz.prog (Cx_tree_Same) :=
  cok_tbl en_tree_Same_1 (fun caps cv w ok hcap => pure_of_run (C := C0) (A := A_tree_Same_1) (G_tree_Same_1) cok_none mixedOrders (f := Tryz.f99) (by kernel_rfl) (by kernel_rfl) hcap (by kernel_rfl) fun bs r h => by
    split at h
    · exact (run_tree_Same_1 ..).trans h
    · cases h) <|
  cok_none
theorem G_tree_Same : GOK Tryz.prog (Γ_tree_Same) :=
  GOK.ite ⟨en_slices_EqualFunc_Row_Row, sig_slices_EqualFunc_Row_Row (K_tree_Same)⟩ <|
  GOK.nil
theorem sig_tree_Same : SigOK Tryz.prog n_tree_Same ⟨.pure, true, [1], 0, fun l => match l with | [[x0], [x1]] => tree_Same_s x0 x1 | _ => none⟩ :=
  sig_pure (C := (Cx_tree_Same)) (A := A_tree_Same) (G_tree_Same) (K_tree_Same) mixedOrders (f := Tryz.f65) (by kernel_rfl) (by kernel_rfl) (by kernel_rfl) rfl fun bs r h => by
    split at h
    · exact (run_tree_Same ..).trans h
    · cases h
theorem G_slices_EqualFunc_Move_Move {C : IV → List Nat → List (List IV) → Option (List IV)} (hC : COK Tryz.prog C) : GOK Tryz.prog (Γ_slices_EqualFunc_Move_Move C) :=
  GOK.nil
theorem sig_slices_EqualFunc_Move_Move {C : IV → List Nat → List (List IV) → Option (List IV)} (hC : COK Tryz.prog C) : SigOK Tryz.prog n_slices_EqualFunc_Move_Move ⟨.pure, true, [1], 0, fun l => match l with | [[x0], [x1], [x2]] => slices_EqualFunc_Move_Move_s C x0 x1 x2 | _ => none⟩ :=
  sig_pure (C := C) (A := A_slices_EqualFunc_Move_Move) (G_slices_EqualFunc_Move_Move hC) hC mixedOrders (f := Tryz.f101) (by kernel_rfl) (by kernel_rfl) (by kernel_rfl) rfl fun bs r h => by
    split at h
    · exact (run_slices_EqualFunc_Move_Move C ..).trans h
    · cases h
theorem G_moves_Same_1 : GOK Tryz.prog (Γ_moves_Same_1) :=
  GOK.ite ⟨en_bits_Same, sig_bits_Same⟩ <|
  GOK.nil
theorem sig_moves_Same_1 : SigOK Tryz.prog n_moves_Same_1 ⟨.pure, true, [1], 0, fun l => match l with | [[x0, x1, x2, x3, x4, x5], [x6, x7, x8, x9, x10, x11]] => moves_Same_1_s x0 x1 x2 x3 x4 x5 x6 x7 x8 x9 x10 x11 | _ => none⟩ :=
  sig_pure (C := C0) (A := A_moves_Same_1) (G_moves_Same_1) cok_none mixedOrders (f := Tryz.f102) (by kernel_rfl) (by kernel_rfl) (by kernel_rfl) rfl fun bs r h => by
    split at h
    · exact (run_moves_Same_1 ..).trans h
    · cases h
theorem K_moves_Same : COK Tryz.prog (Cx_moves_Same) :=
  cok_tbl en_moves_Same_1 (fun caps cv w ok hcap => pure_of_run (C := C0) (A := A_moves_Same_1) (G_moves_Same_1) cok_none mixedOrders (f := Tryz.f102) (by kernel_rfl) (by kernel_rfl) hcap (by kernel_rfl) fun bs r h => by
    split at h
    · exact (run_moves_Same_1 ..).trans h
    · cases h) <|
  cok_none
theorem G_moves_Same : GOK Tryz.prog (Γ_moves_Same) :=
  GOK.ite ⟨en_slices_EqualFunc_Move_Move, sig_slices_EqualFunc_Move_Move (K_moves_Same)⟩ <|
  GOK.nil
theorem sig_moves_Same : SigOK Tryz.prog n_moves_Same ⟨.pure, true, [1], 0, fun l => match l with | [[x0], [x1]] => moves_Same_s x0 x1 | _ => none⟩ :=
  sig_pure (C := (Cx_moves_Same)) (A := A_moves_Same) (G_moves_Same) (K_moves_Same) mixedOrders (f := Tryz.f66) (by kernel_rfl) (by kernel_rfl) (by kernel_rfl) rfl fun bs r h => by
    split at h
    · exact (run_moves_Same ..).trans h
    · cases h
theorem G_slices_Equal_Mark : GOK Tryz.prog (Γ_slices_Equal_Mark) :=
  GOK.nil
theorem sig_slices_Equal_Mark : SigOK Tryz.prog n_slices_Equal_Mark ⟨.pure, true, [1], 0, fun l => match l with | [[x0], [x1]] => slices_Equal_Mark_s x0 x1 | _ => none⟩ :=
  sig_pure (C := C0) (A := A_slices_Equal_Mark) (G_slices_Equal_Mark) cok_none mixedOrders (f := Tryz.f67) (by kernel_rfl) (by kernel_rfl) (by kernel_rfl) rfl fun bs r h => by
    split at h
    · exact (run_slices_Equal_Mark ..).trans h
    · cases h
theorem G_floor_Same : GOK Tryz.prog (Γ_floor_Same) :=
  GOK.ite ⟨en_tree_Same, sig_tree_Same⟩ <|
  GOK.ite ⟨en_moves_Same, sig_moves_Same⟩ <|
  GOK.ite ⟨en_slices_Equal_Mark, sig_slices_Equal_Mark⟩ <|
  GOK.nil
theorem sig_floor_Same : SigOK Tryz.prog n_floor_Same ⟨.pure, true, [1], 0, fun l => match l with | [[x0, x1, x2, x3, x4], [x5, x6, x7, x8, x9]] => floor_Same_s x0 x1 x2 x3 x4 x5 x6 x7 x8 x9 | _ => none⟩ :=
  sig_pure (C := C0) (A := A_floor_Same) (G_floor_Same) cok_none mixedOrders (f := Tryz.f21) (by kernel_rfl) (by kernel_rfl) (by kernel_rfl) rfl fun bs r h => by
    split at h
    · exact (run_floor_Same ..).trans h
    · cases h
theorem G_law18_live_1 : GOK Tryz.prog (Γ_law18_live_1) :=
  GOK.nil
theorem sig_law18_live_1 : SigOK Tryz.prog n_law18_live_1 ⟨.pure, true, [6], 0, fun l => match l with | [[x0], [x1], [x2]] => law18_live_1_s x0 x1 x2 | _ => none⟩ :=
  sig_pure (C := C0) (A := A_law18_live_1) (G_law18_live_1) cok_none mixedOrders (f := Tryz.f35) (by kernel_rfl) (by kernel_rfl) (by kernel_rfl) rfl fun bs r h => by
    split at h
    · exact (run_law18_live_1 ..).trans h
    · cases h
theorem K_law18_live : COK Tryz.prog (Cx_law18_live) :=
  cok_tbl en_law18_live_1 (fun caps cv w ok hcap => pure_of_run (C := C0) (A := A_law18_live_1) (G_law18_live_1) cok_none mixedOrders (f := Tryz.f35) (by kernel_rfl) (by kernel_rfl) hcap (by kernel_rfl) fun bs r h => by
    split at h
    · exact (run_law18_live_1 ..).trans h
    · cases h) <|
  cok_none
theorem G_law18_live : GOK Tryz.prog (Γ_law18_live) :=
  GOK.ite ⟨en_floor_Merge, sig_floor_Merge⟩ <|
  GOK.ite ⟨en_floor_Prune, sig_floor_Prune⟩ <|
  GOK.ite ⟨en_floor_Add, sig_floor_Add⟩ <|
  GOK.ite ⟨en_floor_Tree, sig_floor_Tree⟩ <|
  GOK.ite ⟨en_floor_May, sig_floor_May⟩ <|
  GOK.ite ⟨en_floor_Same, sig_floor_Same⟩ <|
  GOK.nil
theorem sig_law18_live : SigOK Tryz.prog n_law18_live ⟨.pure, true, [1], 0, fun l => match l with | [] => law18_live_s | _ => none⟩ :=
  sig_pure (C := (Cx_law18_live)) (A := A_law18_live) (G_law18_live) (K_law18_live) mixedOrders (f := Tryz.f11) (by kernel_rfl) (by kernel_rfl) (by kernel_rfl) rfl fun bs r h => by
    split at h
    · exact (run_law18_live ..).trans h
    · cases h
theorem G_ref04_in : GOK Tryz.prog (Γ_ref04_in) :=
  GOK.nil
theorem sig_ref04_in : SigOK Tryz.prog n_ref04_in ⟨.pure, true, [1], 0, fun l => match l with | [[x0], [x1], [x2], [x3]] => ref04_in_s x0 x1 x2 x3 | _ => none⟩ :=
  sig_pure (C := C0) (A := A_ref04_in) (G_ref04_in) cok_none mixedOrders (f := Tryz.f144) (by kernel_rfl) (by kernel_rfl) (by kernel_rfl) rfl fun bs r h => by
    split at h
    · exact (run_ref04_in ..).trans h
    · cases h
theorem G_ref04_sign : GOK Tryz.prog (Γ_ref04_sign) :=
  GOK.ite ⟨en_ref04_in, sig_ref04_in⟩ <|
  GOK.nil
theorem sig_ref04_sign : SigOK Tryz.prog n_ref04_sign ⟨.pure, true, [1], 0, fun l => match l with | [[x0], [x1]] => ref04_sign_s x0 x1 | _ => none⟩ :=
  sig_pure (C := C0) (A := A_ref04_sign) (G_ref04_sign) cok_none mixedOrders (f := Tryz.f136) (by kernel_rfl) (by kernel_rfl) (by kernel_rfl) rfl fun bs r h => by
    split at h
    · exact (run_ref04_sign ..).trans h
    · cases h
theorem G_ref04_First : GOK Tryz.prog (Γ_ref04_First) :=
  GOK.ite ⟨en_ref04_sign, sig_ref04_sign⟩ <|
  GOK.nil
theorem sig_ref04_First : SigOK Tryz.prog n_ref04_First ⟨.pure, true, [1, 1], 0, fun l => match l with | [[x0]] => ref04_First_s x0 | _ => none⟩ :=
  sig_pure (C := C0) (A := A_ref04_First) (G_ref04_First) cok_none mixedOrders (f := Tryz.f120) (by kernel_rfl) (by kernel_rfl) (by kernel_rfl) rfl fun bs r h => by
    split at h
    · exact (run_ref04_First ..).trans h
    · cases h
theorem G_ref04_Valid : GOK Tryz.prog (Γ_ref04_Valid) :=
  GOK.ite ⟨en_ref04_First, sig_ref04_First⟩ <|
  GOK.nil
theorem sig_ref04_Valid : SigOK Tryz.prog n_ref04_Valid ⟨.pure, true, [1], 0, fun l => match l with | [[x0]] => ref04_Valid_s x0 | _ => none⟩ :=
  sig_pure (C := C0) (A := A_ref04_Valid) (G_ref04_Valid) cok_none mixedOrders (f := Tryz.f103) (by kernel_rfl) (by kernel_rfl) (by kernel_rfl) rfl fun bs r h => by
    split at h
    · exact (run_ref04_Valid ..).trans h
    · cases h
theorem G_ref12_One : GOK Tryz.prog (Γ_ref12_One) :=
  GOK.ite ⟨en_ref04_Valid, sig_ref04_Valid⟩ <|
  GOK.nil
theorem sig_ref12_One : SigOK Tryz.prog n_ref12_One ⟨.pure, true, [1], 0, fun l => match l with | [[x0, x1, x2, x3]] => ref12_One_s x0 x1 x2 x3 | _ => none⟩ :=
  sig_pure (C := C0) (A := A_ref12_One) (G_ref12_One) cok_none mixedOrders (f := Tryz.f69) (by kernel_rfl) (by kernel_rfl) (by kernel_rfl) rfl fun bs r h => by
    split at h
    · exact (run_ref12_One ..).trans h
    · cases h
theorem G_ref12_place : GOK Tryz.prog (Γ_ref12_place) :=
  GOK.nil
theorem sig_ref12_place : SigOK Tryz.prog n_ref12_place ⟨.pure, true, [1], 0, fun l => match l with | [[x0], [x1]] => ref12_place_s x0 x1 | _ => none⟩ :=
  sig_pure (C := C0) (A := A_ref12_place) (G_ref12_place) cok_none mixedOrders (f := Tryz.f130) (by kernel_rfl) (by kernel_rfl) (by kernel_rfl) rfl fun bs r h => by
    split at h
    · exact (run_ref12_place ..).trans h
    · cases h
theorem G_ref12_Find : GOK Tryz.prog (Γ_ref12_Find) :=
  GOK.ite ⟨en_ref12_place, sig_ref12_place⟩ <|
  GOK.nil
theorem sig_ref12_Find : SigOK Tryz.prog n_ref12_Find ⟨.pure, true, [4, 1], 0, fun l => match l with | [[x0], [x1]] => ref12_Find_s x0 x1 | _ => none⟩ :=
  sig_pure (C := C0) (A := A_ref12_Find) (G_ref12_Find) cok_none mixedOrders (f := Tryz.f117) (by kernel_rfl) (by kernel_rfl) (by kernel_rfl) rfl fun bs r h => by
    split at h
    · exact (run_ref12_Find ..).trans h
    · cases h
theorem G_ref12_Above : GOK Tryz.prog (Γ_ref12_Above) :=
  GOK.ite ⟨en_ref12_Find, sig_ref12_Find⟩ <|
  GOK.nil
theorem sig_ref12_Above : SigOK Tryz.prog n_ref12_Above ⟨.pure, true, [1], 0, fun l => match l with | [[x0], [x1], [x2]] => ref12_Above_s x0 x1 x2 | _ => none⟩ :=
  sig_pure (C := C0) (A := A_ref12_Above) (G_ref12_Above) cok_none mixedOrders (f := Tryz.f96) (by kernel_rfl) (by kernel_rfl) (by kernel_rfl) rfl fun bs r h => by
    split at h
    · exact (run_ref12_Above ..).trans h
    · cases h
theorem G_ref12_May : GOK Tryz.prog (Γ_ref12_May) :=
  GOK.ite ⟨en_ref12_One, sig_ref12_One⟩ <|
  GOK.ite ⟨en_ref12_Above, sig_ref12_Above⟩ <|
  GOK.nil
theorem sig_ref12_May : SigOK Tryz.prog n_ref12_May ⟨.pure, true, [1], 0, fun l => match l with | [[x0]] => ref12_May_s x0 | _ => none⟩ :=
  sig_pure (C := C0) (A := A_ref12_May) (G_ref12_May) cok_none mixedOrders (f := Tryz.f59) (by kernel_rfl) (by kernel_rfl) (by kernel_rfl) rfl fun bs r h => by
    split at h
    · exact (run_ref12_May ..).trans h
    · cases h
theorem G_ref13_Time : GOK Tryz.prog (Γ_ref13_Time) :=
  GOK.nil
theorem sig_ref13_Time : SigOK Tryz.prog n_ref13_Time ⟨.pure, true, [1], 0, fun l => match l with | [[x0, x1]] => ref13_Time_s x0 x1 | _ => none⟩ :=
  sig_pure (C := C0) (A := A_ref13_Time) (G_ref13_Time) cok_none mixedOrders (f := Tryz.f47) (by kernel_rfl) (by kernel_rfl) (by kernel_rfl) rfl fun bs r h => by
    split at h
    · exact (run_ref13_Time ..).trans h
    · cases h
theorem G_ref13_Row : GOK Tryz.prog (Γ_ref13_Row) :=
  GOK.nil
theorem sig_ref13_Row : SigOK Tryz.prog n_ref13_Row ⟨.pure, true, [4], 0, fun l => match l with | [[x0, x1, x2, x3, x4, x5]] => ref13_Row_s x0 x1 x2 x3 x4 x5 | _ => none⟩ :=
  sig_pure (C := C0) (A := A_ref13_Row) (G_ref13_Row) cok_none mixedOrders (f := Tryz.f70) (by kernel_rfl) (by kernel_rfl) (by kernel_rfl) rfl fun bs r h => by
    split at h
    · exact (run_ref13_Row ..).trans h
    · cases h
theorem G_ref13_One : GOK Tryz.prog (Γ_ref13_One) :=
  GOK.ite ⟨en_ref13_Time, sig_ref13_Time⟩ <|
  GOK.ite ⟨en_ref13_Row, sig_ref13_Row⟩ <|
  GOK.ite ⟨en_ref12_One, sig_ref12_One⟩ <|
  GOK.nil
theorem sig_ref13_One : SigOK Tryz.prog n_ref13_One ⟨.pure, true, [1], 0, fun l => match l with | [[x0, x1, x2, x3, x4, x5]] => ref13_One_s x0 x1 x2 x3 x4 x5 | _ => none⟩ :=
  sig_pure (C := C0) (A := A_ref13_One) (G_ref13_One) cok_none mixedOrders (f := Tryz.f26) (by kernel_rfl) (by kernel_rfl) (by kernel_rfl) rfl fun bs r h => by
    split at h
    · exact (run_ref13_One ..).trans h
    · cases h
theorem G_ref02_Before : GOK Tryz.prog (Γ_ref02_Before) :=
  GOK.nil
theorem sig_ref02_Before : SigOK Tryz.prog n_ref02_Before ⟨.pure, true, [1], 0, fun l => match l with | [[x0, x1], [x2, x3]] => ref02_Before_s x0 x1 x2 x3 | _ => none⟩ :=
  sig_pure (C := C0) (A := A_ref02_Before) (G_ref02_Before) cok_none mixedOrders (f := Tryz.f27) (by kernel_rfl) (by kernel_rfl) (by kernel_rfl) rfl fun bs r h => by
    split at h
    · exact (run_ref02_Before ..).trans h
    · cases h
theorem G_ref13_May : GOK Tryz.prog (Γ_ref13_May) :=
  GOK.ite ⟨en_ref13_One, sig_ref13_One⟩ <|
  GOK.ite ⟨en_ref02_Before, sig_ref02_Before⟩ <|
  GOK.nil
theorem sig_ref13_May : SigOK Tryz.prog n_ref13_May ⟨.pure, true, [1], 0, fun l => match l with | [[x0]] => ref13_May_s x0 | _ => none⟩ :=
  sig_pure (C := C0) (A := A_ref13_May) (G_ref13_May) cok_none mixedOrders (f := Tryz.f60) (by kernel_rfl) (by kernel_rfl) (by kernel_rfl) rfl fun bs r h => by
    split at h
    · exact (run_ref13_May ..).trans h
    · cases h
theorem G_ref17_May : GOK Tryz.prog (Γ_ref17_May) :=
  GOK.nil
theorem sig_ref17_May : SigOK Tryz.prog n_ref17_May ⟨.pure, true, [1], 0, fun l => match l with | [[x0]] => ref17_May_s x0 | _ => none⟩ :=
  sig_pure (C := C0) (A := A_ref17_May) (G_ref17_May) cok_none mixedOrders (f := Tryz.f61) (by kernel_rfl) (by kernel_rfl) (by kernel_rfl) rfl fun bs r h => by
    split at h
    · exact (run_ref17_May ..).trans h
    · cases h
theorem G_ref17_Raise : GOK Tryz.prog (Γ_ref17_Raise) :=
  GOK.nil
theorem sig_ref17_Raise : SigOK Tryz.prog n_ref17_Raise ⟨.pure, false, [1], 0, fun l => match l with | [[x0], [x1, x2]] => ref17_Raise_s x0 x1 x2 | _ => none⟩ :=
  sig_pure (C := C0) (A := A_ref17_Raise) (G_ref17_Raise) cok_none mixedOrders (f := Tryz.f43) (by kernel_rfl) (by kernel_rfl) (by kernel_rfl) rfl fun bs r h => by
    split at h
    · exact (run_ref17_Raise ..).trans h
    · cases h
theorem G_ref17_Of : GOK Tryz.prog (Γ_ref17_Of) :=
  GOK.ite ⟨en_ref17_Raise, sig_ref17_Raise⟩ <|
  GOK.nil
theorem sig_ref17_Of : SigOK Tryz.prog n_ref17_Of ⟨.pure, false, [1], 0, fun l => match l with | [[x0]] => ref17_Of_s x0 | _ => none⟩ :=
  sig_pure (C := C0) (A := A_ref17_Of) (G_ref17_Of) cok_none mixedOrders (f := Tryz.f63) (by kernel_rfl) (by kernel_rfl) (by kernel_rfl) rfl fun bs r h => by
    split at h
    · exact (run_ref17_Of ..).trans h
    · cases h
theorem G_ref17_Get : GOK Tryz.prog (Γ_ref17_Get) :=
  GOK.nil
theorem sig_ref17_Get : SigOK Tryz.prog n_ref17_Get ⟨.pure, true, [1], 0, fun l => match l with | [[x0], [x1]] => ref17_Get_s x0 x1 | _ => none⟩ :=
  sig_pure (C := C0) (A := A_ref17_Get) (G_ref17_Get) cok_none mixedOrders (f := Tryz.f48) (by kernel_rfl) (by kernel_rfl) (by kernel_rfl) rfl fun bs r h => by
    split at h
    · exact (run_ref17_Get ..).trans h
    · cases h
theorem G_ref17_Below : GOK Tryz.prog (Γ_ref17_Below) :=
  GOK.ite ⟨en_ref17_Get, sig_ref17_Get⟩ <|
  GOK.nil
theorem sig_ref17_Below : SigOK Tryz.prog n_ref17_Below ⟨.pure, true, [1], 0, fun l => match l with | [[x0], [x1]] => ref17_Below_s x0 x1 | _ => none⟩ :=
  sig_pure (C := C0) (A := A_ref17_Below) (G_ref17_Below) cok_none mixedOrders (f := Tryz.f62) (by kernel_rfl) (by kernel_rfl) (by kernel_rfl) rfl fun bs r h => by
    split at h
    · exact (run_ref17_Below ..).trans h
    · cases h
theorem G_ref18_Children : GOK Tryz.prog (Γ_ref18_Children) :=
  GOK.nil
theorem sig_ref18_Children : SigOK Tryz.prog n_ref18_Children ⟨.pure, true, [1, 1], 0, fun l => match l with | [[x0], [x1], [x2]] => ref18_Children_s x0 x1 x2 | _ => none⟩ :=
  sig_pure (C := C0) (A := A_ref18_Children) (G_ref18_Children) cok_none mixedOrders (f := Tryz.f42) (by kernel_rfl) (by kernel_rfl) (by kernel_rfl) rfl fun bs r h => by
    split at h
    · exact (run_ref18_Children ..).trans h
    · cases h
theorem G_ref18_May : GOK Tryz.prog (Γ_ref18_May) :=
  GOK.ite ⟨en_ref12_May, sig_ref12_May⟩ <|
  GOK.ite ⟨en_ref13_May, sig_ref13_May⟩ <|
  GOK.ite ⟨en_ref17_May, sig_ref17_May⟩ <|
  GOK.ite ⟨en_ref17_Of, sig_ref17_Of⟩ <|
  GOK.ite ⟨en_ref17_Below, sig_ref17_Below⟩ <|
  GOK.ite ⟨en_ref13_Time, sig_ref13_Time⟩ <|
  GOK.ite ⟨en_ref17_Get, sig_ref17_Get⟩ <|
  GOK.ite ⟨en_ref02_Before, sig_ref02_Before⟩ <|
  GOK.ite ⟨en_ref18_Children, sig_ref18_Children⟩ <|
  GOK.nil
theorem sig_ref18_May : SigOK Tryz.prog n_ref18_May ⟨.pure, true, [1], 0, fun l => match l with | [[x0, x1, x2, x3, x4]] => ref18_May_s x0 x1 x2 x3 x4 | _ => none⟩ :=
  sig_pure (C := C0) (A := A_ref18_May) (G_ref18_May) cok_none mixedOrders (f := Tryz.f17) (by kernel_rfl) (by kernel_rfl) (by kernel_rfl) rfl fun bs r h => by
    split at h
    · exact (run_ref18_May ..).trans h
    · cases h
theorem G_ref13_Insert : GOK Tryz.prog (Γ_ref13_Insert) :=
  GOK.ite ⟨en_ref02_Before, sig_ref02_Before⟩ <|
  GOK.nil
theorem sig_ref13_Insert : SigOK Tryz.prog n_ref13_Insert ⟨.pure, false, [1, 1, 1], 0, fun l => match l with | [[x0], [x1, x2, x3, x4, x5, x6]] => ref13_Insert_s x0 x1 x2 x3 x4 x5 x6 | _ => none⟩ :=
  sig_pure (C := C0) (A := A_ref13_Insert) (G_ref13_Insert) cok_none mixedOrders (f := Tryz.f41) (by kernel_rfl) (by kernel_rfl) (by kernel_rfl) rfl fun bs r h => by
    split at h
    · exact (run_ref13_Insert ..).trans h
    · cases h
theorem G_ref18_Add : GOK Tryz.prog (Γ_ref18_Add) :=
  GOK.ite ⟨en_ref18_May, sig_ref18_May⟩ <|
  GOK.ite ⟨en_ref13_One, sig_ref13_One⟩ <|
  GOK.ite ⟨en_ref02_Before, sig_ref02_Before⟩ <|
  GOK.ite ⟨en_ref13_Insert, sig_ref13_Insert⟩ <|
  GOK.ite ⟨en_ref18_Children, sig_ref18_Children⟩ <|
  GOK.ite ⟨en_ref17_Raise, sig_ref17_Raise⟩ <|
  GOK.nil
theorem sig_ref18_Add : SigOK Tryz.prog n_ref18_Add ⟨.pure, false, [5, 1, 1], 0, fun l => match l with | [[x0, x1, x2, x3, x4], [x5, x6, x7, x8, x9, x10]] => ref18_Add_s x0 x1 x2 x3 x4 x5 x6 x7 x8 x9 x10 | _ => none⟩ :=
  sig_pure (C := C0) (A := A_ref18_Add) (G_ref18_Add) cok_none mixedOrders (f := Tryz.f13) (by kernel_rfl) (by kernel_rfl) (by kernel_rfl) rfl fun bs r h => by
    split at h
    · exact (run_ref18_Add ..).trans h
    · cases h
theorem G_ref13_Since : GOK Tryz.prog (Γ_ref13_Since) :=
  GOK.ite ⟨en_ref02_Before, sig_ref02_Before⟩ <|
  GOK.nil
theorem sig_ref13_Since : SigOK Tryz.prog n_ref13_Since ⟨.pure, false, [1], 0, fun l => match l with | [[x0], [x1, x2]] => ref13_Since_s x0 x1 x2 | _ => none⟩ :=
  sig_pure (C := C0) (A := A_ref13_Since) (G_ref13_Since) cok_none mixedOrders (f := Tryz.f49) (by kernel_rfl) (by kernel_rfl) (by kernel_rfl) rfl fun bs r h => by
    split at h
    · exact (run_ref13_Since ..).trans h
    · cases h
theorem G_ref14_Barred : GOK Tryz.prog (Γ_ref14_Barred) :=
  GOK.ite ⟨en_ref12_Above, sig_ref12_Above⟩ <|
  GOK.nil
theorem sig_ref14_Barred : SigOK Tryz.prog n_ref14_Barred ⟨.pure, true, [1], 0, fun l => match l with | [[x0], [x1, x2, x3, x4, x5, x6]] => ref14_Barred_s x0 x1 x2 x3 x4 x5 x6 | _ => none⟩ :=
  sig_pure (C := C0) (A := A_ref14_Barred) (G_ref14_Barred) cok_none mixedOrders (f := Tryz.f113) (by kernel_rfl) (by kernel_rfl) (by kernel_rfl) rfl fun bs r h => by
    split at h
    · exact (run_ref14_Barred ..).trans h
    · cases h
theorem G_ref12_Set : GOK Tryz.prog (Γ_ref12_Set) :=
  GOK.ite ⟨en_ref12_place, sig_ref12_place⟩ <|
  GOK.nil
theorem sig_ref12_Set : SigOK Tryz.prog n_ref12_Set ⟨.pure, false, [1], 0, fun l => match l with | [[x0], [x1, x2, x3, x4]] => ref12_Set_s x0 x1 x2 x3 x4 | _ => none⟩ :=
  sig_pure (C := C0) (A := A_ref12_Set) (G_ref12_Set) cok_none mixedOrders (f := Tryz.f114) (by kernel_rfl) (by kernel_rfl) (by kernel_rfl) rfl fun bs r h => by
    split at h
    · exact (run_ref12_Set ..).trans h
    · cases h
theorem G_ref14_Do : GOK Tryz.prog (Γ_ref14_Do) :=
  GOK.ite ⟨en_ref14_Barred, sig_ref14_Barred⟩ <|
  GOK.ite ⟨en_ref13_Row, sig_ref13_Row⟩ <|
  GOK.ite ⟨en_ref12_Set, sig_ref12_Set⟩ <|
  GOK.nil
theorem sig_ref14_Do : SigOK Tryz.prog n_ref14_Do ⟨.pure, false, [1, 1], 0, fun l => match l with | [[x0], [x1, x2, x3, x4, x5, x6]] => ref14_Do_s x0 x1 x2 x3 x4 x5 x6 | _ => none⟩ :=
  sig_pure (C := C0) (A := A_ref14_Do) (G_ref14_Do) cok_none mixedOrders (f := Tryz.f91) (by kernel_rfl) (by kernel_rfl) (by kernel_rfl) rfl fun bs r h => by
    split at h
    · exact (run_ref14_Do ..).trans h
    · cases h
theorem G_ref14_All : GOK Tryz.prog (Γ_ref14_All) :=
  GOK.ite ⟨en_ref14_Do, sig_ref14_Do⟩ <|
  GOK.nil
theorem sig_ref14_All : SigOK Tryz.prog n_ref14_All ⟨.pure, false, [1], 0, fun l => match l with | [[x0], [x1]] => ref14_All_s x0 x1 | _ => none⟩ :=
  sig_pure (C := C0) (A := A_ref14_All) (G_ref14_All) cok_none mixedOrders (f := Tryz.f50) (by kernel_rfl) (by kernel_rfl) (by kernel_rfl) rfl fun bs r h => by
    split at h
    · exact (run_ref14_All ..).trans h
    · cases h
theorem G_ref18_Prune : GOK Tryz.prog (Γ_ref18_Prune) :=
  GOK.ite ⟨en_ref18_May, sig_ref18_May⟩ <|
  GOK.ite ⟨en_ref13_Time, sig_ref13_Time⟩ <|
  GOK.ite ⟨en_ref17_Get, sig_ref17_Get⟩ <|
  GOK.ite ⟨en_ref02_Before, sig_ref02_Before⟩ <|
  GOK.ite ⟨en_ref13_Since, sig_ref13_Since⟩ <|
  GOK.ite ⟨en_ref14_All, sig_ref14_All⟩ <|
  GOK.nil
theorem sig_ref18_Prune : SigOK Tryz.prog n_ref18_Prune ⟨.pure, false, [5, 1], 0, fun l => match l with | [[x0, x1, x2, x3, x4], [x5, x6]] => ref18_Prune_s x0 x1 x2 x3 x4 x5 x6 | _ => none⟩ :=
  sig_pure (C := C0) (A := A_ref18_Prune) (G_ref18_Prune) cok_none mixedOrders (f := Tryz.f15) (by kernel_rfl) (by kernel_rfl) (by kernel_rfl) rfl fun bs r h => by
    split at h
    · exact (run_ref18_Prune ..).trans h
    · cases h
theorem G_ref18_Tree : GOK Tryz.prog (Γ_ref18_Tree) :=
  GOK.ite ⟨en_ref14_All, sig_ref14_All⟩ <|
  GOK.nil
theorem sig_ref18_Tree : SigOK Tryz.prog n_ref18_Tree ⟨.pure, false, [1], 0, fun l => match l with | [[x0, x1, x2, x3, x4]] => ref18_Tree_s x0 x1 x2 x3 x4 | _ => none⟩ :=
  sig_pure (C := C0) (A := A_ref18_Tree) (G_ref18_Tree) cok_none mixedOrders (f := Tryz.f20) (by kernel_rfl) (by kernel_rfl) (by kernel_rfl) rfl fun bs r h => by
    split at h
    · exact (run_ref18_Tree ..).trans h
    · cases h
theorem G_ref01_None : GOK Tryz.prog (Γ_ref01_None) :=
  GOK.nil
theorem sig_ref01_None : SigOK Tryz.prog n_ref01_None ⟨.pure, true, [1], 0, fun l => match l with | [] => ref01_None_s | _ => none⟩ :=
  sig_pure (C := C0) (A := A_ref01_None) (G_ref01_None) cok_none mixedOrders (f := Tryz.f131) (by kernel_rfl) (by kernel_rfl) (by kernel_rfl) rfl fun bs r h => by
    split at h
    · exact (run_ref01_None ..).trans h
    · cases h
theorem G_ref01_Minus : GOK Tryz.prog (Γ_ref01_Minus) :=
  GOK.nil
theorem sig_ref01_Minus : SigOK Tryz.prog n_ref01_Minus ⟨.pure, true, [1], 0, fun l => match l with | [[x0]] => ref01_Minus_s x0 | _ => none⟩ :=
  sig_pure (C := C0) (A := A_ref01_Minus) (G_ref01_Minus) cok_none mixedOrders (f := Tryz.f132) (by kernel_rfl) (by kernel_rfl) (by kernel_rfl) rfl fun bs r h => by
    split at h
    · exact (run_ref01_Minus ..).trans h
    · cases h
theorem G_ref01_top : GOK Tryz.prog (Γ_ref01_top) :=
  GOK.nil
theorem sig_ref01_top : SigOK Tryz.prog n_ref01_top ⟨.pure, true, [1], 0, fun l => match l with | [] => ref01_top_s | _ => none⟩ :=
  sig_pure (C := C0) (A := A_ref01_top) (G_ref01_top) cok_none mixedOrders (f := Tryz.f133) (by kernel_rfl) (by kernel_rfl) (by kernel_rfl) rfl fun bs r h => by
    split at h
    · exact (run_ref01_top ..).trans h
    · cases h
theorem G_ref01_Bits : GOK Tryz.prog (Γ_ref01_Bits) :=
  GOK.ite ⟨en_ref01_None, sig_ref01_None⟩ <|
  GOK.ite ⟨en_ref01_Minus, sig_ref01_Minus⟩ <|
  GOK.ite ⟨en_ref01_top, sig_ref01_top⟩ <|
  GOK.nil
theorem sig_ref01_Bits : SigOK Tryz.prog n_ref01_Bits ⟨.pure, true, [1], 0, fun l => match l with | [[x0]] => ref01_Bits_s x0 | _ => none⟩ :=
  sig_pure (C := C0) (A := A_ref01_Bits) (G_ref01_Bits) cok_none mixedOrders (f := Tryz.f118) (by kernel_rfl) (by kernel_rfl) (by kernel_rfl) rfl fun bs r h => by
    split at h
    · exact (run_ref01_Bits ..).trans h
    · cases h
theorem G_ref01_Same : GOK Tryz.prog (Γ_ref01_Same) :=
  GOK.ite ⟨en_ref01_Bits, sig_ref01_Bits⟩ <|
  GOK.nil
theorem sig_ref01_Same : SigOK Tryz.prog n_ref01_Same ⟨.pure, true, [1], 0, fun l => match l with | [[x0], [x1]] => ref01_Same_s x0 x1 | _ => none⟩ :=
  sig_pure (C := C0) (A := A_ref01_Same) (G_ref01_Same) cok_none mixedOrders (f := Tryz.f97) (by kernel_rfl) (by kernel_rfl) (by kernel_rfl) rfl fun bs r h => by
    split at h
    · exact (run_ref01_Same ..).trans h
    · cases h
theorem G_ref12_Alike : GOK Tryz.prog (Γ_ref12_Alike) :=
  GOK.ite ⟨en_ref01_Same, sig_ref01_Same⟩ <|
  GOK.nil
theorem sig_ref12_Alike : SigOK Tryz.prog n_ref12_Alike ⟨.pure, true, [1], 0, fun l => match l with | [[x0, x1, x2, x3], [x4, x5, x6, x7]] => ref12_Alike_s x0 x1 x2 x3 x4 x5 x6 x7 | _ => none⟩ :=
  sig_pure (C := C0) (A := A_ref12_Alike) (G_ref12_Alike) cok_none mixedOrders (f := Tryz.f64) (by kernel_rfl) (by kernel_rfl) (by kernel_rfl) rfl fun bs r h => by
    split at h
    · exact (run_ref12_Alike ..).trans h
    · cases h
theorem G_ref12_Same : GOK Tryz.prog (Γ_ref12_Same) :=
  GOK.ite ⟨en_ref12_Alike, sig_ref12_Alike⟩ <|
  GOK.nil
theorem sig_ref12_Same : SigOK Tryz.prog n_ref12_Same ⟨.pure, true, [1], 0, fun l => match l with | [[x0], [x1]] => ref12_Same_s x0 x1 | _ => none⟩ :=
  sig_pure (C := C0) (A := A_ref12_Same) (G_ref12_Same) cok_none mixedOrders (f := Tryz.f18) (by kernel_rfl) (by kernel_rfl) (by kernel_rfl) rfl fun bs r h => by
    split at h
    · exact (run_ref12_Same ..).trans h
    · cases h
theorem G_ref13_Alike : GOK Tryz.prog (Γ_ref13_Alike) :=
  GOK.ite ⟨en_ref13_Row, sig_ref13_Row⟩ <|
  GOK.ite ⟨en_ref12_Alike, sig_ref12_Alike⟩ <|
  GOK.nil
theorem sig_ref13_Alike : SigOK Tryz.prog n_ref13_Alike ⟨.pure, true, [1], 0, fun l => match l with | [[x0, x1, x2, x3, x4, x5], [x6, x7, x8, x9, x10, x11]] => ref13_Alike_s x0 x1 x2 x3 x4 x5 x6 x7 x8 x9 x10 x11 | _ => none⟩ :=
  sig_pure (C := C0) (A := A_ref13_Alike) (G_ref13_Alike) cok_none mixedOrders (f := Tryz.f31) (by kernel_rfl) (by kernel_rfl) (by kernel_rfl) rfl fun bs r h => by
    split at h
    · exact (run_ref13_Alike ..).trans h
    · cases h
theorem G_ref13_Same : GOK Tryz.prog (Γ_ref13_Same) :=
  GOK.ite ⟨en_ref13_Alike, sig_ref13_Alike⟩ <|
  GOK.nil
theorem sig_ref13_Same : SigOK Tryz.prog n_ref13_Same ⟨.pure, true, [1], 0, fun l => match l with | [[x0], [x1]] => ref13_Same_s x0 x1 | _ => none⟩ :=
  sig_pure (C := C0) (A := A_ref13_Same) (G_ref13_Same) cok_none mixedOrders (f := Tryz.f68) (by kernel_rfl) (by kernel_rfl) (by kernel_rfl) rfl fun bs r h => by
    split at h
    · exact (run_ref13_Same ..).trans h
    · cases h
theorem G_ref17_Same : GOK Tryz.prog (Γ_ref17_Same) :=
  GOK.nil
theorem sig_ref17_Same : SigOK Tryz.prog n_ref17_Same ⟨.pure, true, [1], 0, fun l => match l with | [[x0], [x1]] => ref17_Same_s x0 x1 | _ => none⟩ :=
  sig_pure (C := C0) (A := A_ref17_Same) (G_ref17_Same) cok_none mixedOrders (f := Tryz.f30) (by kernel_rfl) (by kernel_rfl) (by kernel_rfl) rfl fun bs r h => by
    split at h
    · exact (run_ref17_Same ..).trans h
    · cases h
theorem G_ref18_Same : GOK Tryz.prog (Γ_ref18_Same) :=
  GOK.ite ⟨en_ref12_Same, sig_ref12_Same⟩ <|
  GOK.ite ⟨en_ref13_Same, sig_ref13_Same⟩ <|
  GOK.ite ⟨en_ref17_Same, sig_ref17_Same⟩ <|
  GOK.nil
theorem sig_ref18_Same : SigOK Tryz.prog n_ref18_Same ⟨.pure, true, [1], 0, fun l => match l with | [[x0, x1, x2, x3, x4], [x5, x6, x7, x8, x9]] => ref18_Same_s x0 x1 x2 x3 x4 x5 x6 x7 x8 x9 | _ => none⟩ :=
  sig_pure (C := C0) (A := A_ref18_Same) (G_ref18_Same) cok_none mixedOrders (f := Tryz.f22) (by kernel_rfl) (by kernel_rfl) (by kernel_rfl) rfl fun bs r h => by
    split at h
    · exact (run_ref18_Same ..).trans h
    · cases h
theorem G_law18_FloorTells : GOK Tryz.prog (Γ_law18_FloorTells) :=
  GOK.ite ⟨en_ref18_Few, sig_ref18_Few⟩ <|
  GOK.ite ⟨en_law18_live, sig_law18_live⟩ <|
  GOK.ite ⟨en_floor_Add, sig_floor_Add⟩ <|
  GOK.ite ⟨en_ref18_Add, sig_ref18_Add⟩ <|
  GOK.ite ⟨en_floor_Prune, sig_floor_Prune⟩ <|
  GOK.ite ⟨en_ref18_Prune, sig_ref18_Prune⟩ <|
  GOK.ite ⟨en_floor_May, sig_floor_May⟩ <|
  GOK.ite ⟨en_ref18_May, sig_ref18_May⟩ <|
  GOK.ite ⟨en_floor_Tree, sig_floor_Tree⟩ <|
  GOK.ite ⟨en_ref18_Tree, sig_ref18_Tree⟩ <|
  GOK.ite ⟨en_ref12_Same, sig_ref12_Same⟩ <|
  GOK.ite ⟨en_floor_Same, sig_floor_Same⟩ <|
  GOK.ite ⟨en_ref18_Same, sig_ref18_Same⟩ <|
  GOK.nil
theorem sig_law18_FloorTells : SigOK Tryz.prog n_law18_FloorTells ⟨.pure, true, [1], 0, fun l => match l with | [[x0, x1, x2, x3, x4], [x5, x6, x7, x8, x9], [x10, x11, x12, x13, x14, x15]] => law18_FloorTells_s x0 x1 x2 x3 x4 x5 x6 x7 x8 x9 x10 x11 x12 x13 x14 x15 | _ => none⟩ :=
  sig_pure (C := C0) (A := A_law18_FloorTells) (G_law18_FloorTells) cok_none mixedOrders (f := Tryz.f3) (by kernel_rfl) (by kernel_rfl) (by kernel_rfl) rfl fun bs r h => by
    split at h
    · exact (run_law18_FloorTells ..).trans h
    · cases h
theorem G_ref18_Merge : GOK Tryz.prog (Γ_ref18_Merge) :=
  GOK.ite ⟨en_ref18_Add, sig_ref18_Add⟩ <|
  GOK.nil
theorem sig_ref18_Merge : SigOK Tryz.prog n_ref18_Merge ⟨.pure, false, [5, 1], 0, fun l => match l with | [[x0, x1, x2, x3, x4], [x5]] => ref18_Merge_s x0 x1 x2 x3 x4 x5 | _ => none⟩ :=
  sig_pure (C := C0) (A := A_ref18_Merge) (G_ref18_Merge) cok_none mixedOrders (f := Tryz.f25) (by kernel_rfl) (by kernel_rfl) (by kernel_rfl) rfl fun bs r h => by
    split at h
    · exact (run_ref18_Merge ..).trans h
    · cases h
theorem G_law18_FloorMerges : GOK Tryz.prog (Γ_law18_FloorMerges) :=
  GOK.ite ⟨en_ref18_Few, sig_ref18_Few⟩ <|
  GOK.ite ⟨en_ref13_Few, sig_ref13_Few⟩ <|
  GOK.ite ⟨en_law18_live, sig_law18_live⟩ <|
  GOK.ite ⟨en_floor_Merge, sig_floor_Merge⟩ <|
  GOK.ite ⟨en_ref18_Merge, sig_ref18_Merge⟩ <|
  GOK.ite ⟨en_ref18_Same, sig_ref18_Same⟩ <|
  GOK.nil
theorem sig_law18_FloorMerges : SigOK Tryz.prog n_law18_FloorMerges ⟨.pure, true, [1], 0, fun l => match l with | [[x0, x1, x2, x3, x4], [x5]] => law18_FloorMerges_s x0 x1 x2 x3 x4 x5 | _ => none⟩ :=
  sig_pure (C := C0) (A := A_law18_FloorMerges) (G_law18_FloorMerges) cok_none mixedOrders (f := Tryz.f4) (by kernel_rfl) (by kernel_rfl) (by kernel_rfl) rfl fun bs r h => by
    split at h
    · exact (run_law18_FloorMerges ..).trans h
    · cases h
theorem G_law18_FloorMay : GOK Tryz.prog (Γ_law18_FloorMay) :=
  GOK.ite ⟨en_ref18_Few, sig_ref18_Few⟩ <|
  GOK.ite ⟨en_ref18_May, sig_ref18_May⟩ <|
  GOK.ite ⟨en_law18_live, sig_law18_live⟩ <|
  GOK.ite ⟨en_floor_Add, sig_floor_Add⟩ <|
  GOK.ite ⟨en_floor_Prune, sig_floor_Prune⟩ <|
  GOK.ite ⟨en_floor_May, sig_floor_May⟩ <|
  GOK.ite ⟨en_ref18_Same, sig_ref18_Same⟩ <|
  GOK.ite ⟨en_ref13_One, sig_ref13_One⟩ <|
  GOK.ite ⟨en_ref02_Before, sig_ref02_Before⟩ <|
  GOK.ite ⟨en_marks_Get, sig_marks_Get⟩ <|
  GOK.ite ⟨en_marks_Below, sig_marks_Below⟩ <|
  GOK.nil
theorem sig_law18_FloorMay : SigOK Tryz.prog n_law18_FloorMay ⟨.pure, true, [1], 0, fun l => match l with | [[x0, x1, x2, x3, x4], [x5, x6, x7, x8, x9, x10], [x11, x12]] => law18_FloorMay_s x0 x1 x2 x3 x4 x5 x6 x7 x8 x9 x10 x11 x12 | _ => none⟩ :=
  sig_pure (C := C0) (A := A_law18_FloorMay) (G_law18_FloorMay) cok_none mixedOrders (f := Tryz.f5) (by kernel_rfl) (by kernel_rfl) (by kernel_rfl) rfl fun bs r h => by
    split at h
    · exact (run_law18_FloorMay ..).trans h
    · cases h
theorem G_law18_FloorKeeps : GOK Tryz.prog (Γ_law18_FloorKeeps) :=
  GOK.ite ⟨en_ref18_Few, sig_ref18_Few⟩ <|
  GOK.ite ⟨en_ref13_Few, sig_ref13_Few⟩ <|
  GOK.ite ⟨en_ref18_May, sig_ref18_May⟩ <|
  GOK.ite ⟨en_law18_live, sig_law18_live⟩ <|
  GOK.ite ⟨en_floor_Prune, sig_floor_Prune⟩ <|
  GOK.ite ⟨en_floor_Tree, sig_floor_Tree⟩ <|
  GOK.ite ⟨en_ref12_Same, sig_ref12_Same⟩ <|
  GOK.ite ⟨en_ref17_Same, sig_ref17_Same⟩ <|
  GOK.ite ⟨en_ref18_Same, sig_ref18_Same⟩ <|
  GOK.ite ⟨en_ref02_Before, sig_ref02_Before⟩ <|
  GOK.ite ⟨en_floor_Add, sig_floor_Add⟩ <|
  GOK.ite ⟨en_ref13_One, sig_ref13_One⟩ <|
  GOK.nil
theorem sig_law18_FloorKeeps : SigOK Tryz.prog n_law18_FloorKeeps ⟨.pure, true, [1], 0, fun l => match l with | [[x0, x1, x2, x3, x4], [x5, x6], [x7]] => law18_FloorKeeps_s x0 x1 x2 x3 x4 x5 x6 x7 | _ => none⟩ :=
  sig_pure (C := C0) (A := A_law18_FloorKeeps) (G_law18_FloorKeeps) cok_none mixedOrders (f := Tryz.f6) (by kernel_rfl) (by kernel_rfl) (by kernel_rfl) rfl fun bs r h => by
    split at h
    · exact (run_law18_FloorKeeps ..).trans h
    · cases h
theorem G_law18_FloorOrder : GOK Tryz.prog (Γ_law18_FloorOrder) :=
  GOK.ite ⟨en_ref18_Few, sig_ref18_Few⟩ <|
  GOK.ite ⟨en_ref13_Few, sig_ref13_Few⟩ <|
  GOK.ite ⟨en_ref18_May, sig_ref18_May⟩ <|
  GOK.ite ⟨en_law18_live, sig_law18_live⟩ <|
  GOK.ite ⟨en_ref13_Alike, sig_ref13_Alike⟩ <|
  GOK.ite ⟨en_floor_Merge, sig_floor_Merge⟩ <|
  GOK.ite ⟨en_ref18_Same, sig_ref18_Same⟩ <|
  GOK.nil
theorem sig_law18_FloorOrder : SigOK Tryz.prog n_law18_FloorOrder ⟨.pure, true, [1], 0, fun l => match l with | [[x0, x1, x2, x3, x4], [x5]] => law18_FloorOrder_s x0 x1 x2 x3 x4 x5 | _ => none⟩ :=
  sig_pure (C := C0) (A := A_law18_FloorOrder) (G_law18_FloorOrder) cok_none mixedOrders (f := Tryz.f7) (by kernel_rfl) (by kernel_rfl) (by kernel_rfl) rfl fun bs r h => by
    split at h
    · exact (run_law18_FloorOrder ..).trans h
    · cases h
theorem G_law18_FloorTwice : GOK Tryz.prog (Γ_law18_FloorTwice) :=
  GOK.ite ⟨en_ref18_Few, sig_ref18_Few⟩ <|
  GOK.ite ⟨en_ref18_May, sig_ref18_May⟩ <|
  GOK.ite ⟨en_law18_live, sig_law18_live⟩ <|
  GOK.ite ⟨en_floor_Prune, sig_floor_Prune⟩ <|
  GOK.ite ⟨en_ref18_Same, sig_ref18_Same⟩ <|
  GOK.ite ⟨en_ref02_Before, sig_ref02_Before⟩ <|
  GOK.nil
theorem sig_law18_FloorTwice : SigOK Tryz.prog n_law18_FloorTwice ⟨.pure, true, [1], 0, fun l => match l with | [[x0, x1, x2, x3, x4], [x5, x6], [x7, x8]] => law18_FloorTwice_s x0 x1 x2 x3 x4 x5 x6 x7 x8 | _ => none⟩ :=
  sig_pure (C := C0) (A := A_law18_FloorTwice) (G_law18_FloorTwice) cok_none mixedOrders (f := Tryz.f8) (by kernel_rfl) (by kernel_rfl) (by kernel_rfl) rfl fun bs r h => by
    split at h
    · exact (run_law18_FloorTwice ..).trans h
    · cases h
theorem G_marks_Join : GOK Tryz.prog (Γ_marks_Join) :=
  GOK.ite ⟨en_marks_Raise, sig_marks_Raise⟩ <|
  GOK.nil
theorem sig_marks_Join : SigOK Tryz.prog n_marks_Join ⟨.pure, false, [1], 0, fun l => match l with | [[x0], [x1]] => marks_Join_s x0 x1 | _ => none⟩ :=
  sig_pure (C := C0) (A := A_marks_Join) (G_marks_Join) cok_none mixedOrders (f := Tryz.f32) (by kernel_rfl) (by kernel_rfl) (by kernel_rfl) rfl fun bs r h => by
    split at h
    · exact (run_marks_Join ..).trans h
    · cases h
theorem G_law18_FloorMarks : GOK Tryz.prog (Γ_law18_FloorMarks) :=
  GOK.ite ⟨en_ref18_Few, sig_ref18_Few⟩ <|
  GOK.ite ⟨en_ref13_Few, sig_ref13_Few⟩ <|
  GOK.ite ⟨en_ref18_May, sig_ref18_May⟩ <|
  GOK.ite ⟨en_law18_live, sig_law18_live⟩ <|
  GOK.ite ⟨en_floor_Add, sig_floor_Add⟩ <|
  GOK.ite ⟨en_floor_Prune, sig_floor_Prune⟩ <|
  GOK.ite ⟨en_marks_Of, sig_marks_Of⟩ <|
  GOK.ite ⟨en_marks_Join, sig_marks_Join⟩ <|
  GOK.ite ⟨en_ref17_Same, sig_ref17_Same⟩ <|
  GOK.nil
theorem sig_law18_FloorMarks : SigOK Tryz.prog n_law18_FloorMarks ⟨.pure, true, [1], 0, fun l => match l with | [[x0, x1, x2, x3, x4], [x5], [x6, x7]] => law18_FloorMarks_s x0 x1 x2 x3 x4 x5 x6 x7 | _ => none⟩ :=
  sig_pure (C := C0) (A := A_law18_FloorMarks) (G_law18_FloorMarks) cok_none mixedOrders (f := Tryz.f9) (by kernel_rfl) (by kernel_rfl) (by kernel_rfl) rfl fun bs r h => by
    split at h
    · exact (run_law18_FloorMarks ..).trans h
    · cases h
end Go.AM

/- The laws of undo, second part: what was done goes back. -/
import Derived.Test.YtmmacbkganjkbaaTr
set_option linter.unusedVariables false
set_option linter.unusedSimpArgs false
namespace Go.AM

theorem any_not {α : Type} (p : α → Bool) : ∀ l : List α, (l.any fun x => !p x) = !l.all p
  | [] => rfl
  | x :: l => by simp only [List.any_cons, List.all_cons, any_not p l, Bool.not_and]
def oneR (r : Rw) : Bool := rowB r.ch r.par r.nm
def risR (a b : Rw) : Bool := decide (a.ch < b.ch)
def mayR (l : List Rw) : Bool := decide (l.length ≤ 2000) && (l.all oneR && adjB risR l && !l.any fun r => aboveV l r.ch r.ch)
theorem ref12_May_eq {l : List Rw} (hl : l.length < 2 ^ 16) : ref12_May_s (eRws l) = some [.bool (mayR l)] := by
  unfold ref12_May_s mayR
  simp only [ilenL_lst, Option.bind_some, ibin_gtr, List.length_map, icond_dec]
  by_cases h : l.length ≤ 2000
  · rw [if_neg (by omega)]
    rw [iter_check (vs0 := [.int .i64 0]) (fun i => [IV.int .i64 (i : Int)]) (fun i x => !oneR x || (decide (0 < i) && !risR (l.getD (i - 1) x) x)) 1 [.bool false] 0 [] l rfl (by have := rounds_eq; omega), anyI_or, adj_anyI, anyI_any]
    · rw [iter_check (vs0 := [.int .i64 0]) (fun i => [IV.int .i64 (i : Int)]) (fun _ (r : Rw) => aboveV l r.ch r.ch) 1 [.bool false] 0 [] l rfl (by have := rounds_eq; omega), anyI_any]
      · have e := any_not oneR l
        rw [e]
        cases h1 : l.all oneR <;> cases h2 : adjB risR l <;> cases h3 : (l.any fun r => aboveV l r.ch r.ch) <;> simp [h]
      · intro i x hx
        have hi : i < l.length := (List.getElem?_eq_some_iff.1 hx).1
        unfold ref12_May_l9
        simp only [ilenL_lst, nth_zero, ibin_lss, List.length_map, Int.ofNat_lt, at_Rw hx, decide_true, icond_true, Option.bind_some, ref12_Above_eq hl, icond_bool, ibin_succ (show i < 2 ^ 62 by omega)]
        cases aboveV l x.ch x.ch <;> simp
      · unfold ref12_May_l9
        simp
    · intro i x hx
      have hi : i < l.length := (List.getElem?_eq_some_iff.1 hx).1
      unfold ref12_May_l4
      simp only [ilenL_lst, nth_zero, nth_one, nth_two, nth_three, nth_four, nth_five, ibin_lss, ibin_gtr, List.length_map, Int.ofNat_lt, at_Rw hx, decide_true, icond_true, Option.bind_some, icond_dec, ibin_succ (show i < 2 ^ 62 by omega), ref12_One_eq, iun_not, icond_bool]
      by_cases h1 : oneR x = true
      · have h1' : rowB x.ch x.par x.nm = true := h1
        by_cases h5 : 0 < i
        · have hp : l[i - 1]? = some (l.getD (i - 1) x) := by
            rw [List.getD_eq_getElem?_getD, List.getElem?_eq_getElem (by omega)]; rfl
          simp only [h1, h1', Bool.not_true, Bool.false_eq_true, if_false, show (0 : Int) < (i : Int) by omega, h5, if_true, ibin_pred (show i < 2 ^ 62 by omega) h5, Option.bind_some, at_Rw hp, at_Rw hx, nth_zero, nth_one, ibin_geq, icond_dec, decide_true, Bool.true_and, Bool.false_or, risR]
          generalize l.getD (i - 1) x = y
          by_cases h6 : y.ch < x.ch
          · have : ¬ x.ch ≤ y.ch := by omega
            simp [h6, this]
          · have : x.ch ≤ y.ch := by omega
            simp [h6, this]
        · simp [h1, h1', h5, show ¬ ((0 : Int) < (i : Int)) by omega]
      · have h1' : rowB x.ch x.par x.nm = false := by simpa [oneR] using h1
        simp [h1, h1']
    · unfold ref12_May_l4
      simp
  · rw [if_pos (by omega)]
    simp [h]

/-! ### What was done goes back -/
theorem findIdx_set {l : List Rw} {i : Nat} {r : Rw} {c : Int} (h : l.findIdx? (isC c) = some i) (hr : r.ch = c) : (l.set i r).findIdx? (isC c) = some i := by
  obtain ⟨hi, hp, hn⟩ := List.findIdx?_eq_some_iff_getElem.1 h
  refine List.findIdx?_eq_some_iff_getElem.2 ⟨by simpa using hi, ?_, fun j hj => ?_⟩
  · simp [isC, hr]
  · have := hn j hj
    rw [List.getElem_set_ne (by omega)]
    exact this
theorem findIdx_ins {l : List Rw} {i : Nat} {r : Rw} {c : Int} (h : l.findIdx? (isC c) = none) (hi : i ≤ l.length) (hr : r.ch = c) : (l.take i ++ [r] ++ l.drop i).findIdx? (isC c) = some i := by
  rw [List.findIdx?_eq_none_iff] at h
  have hlen : (l.take i ++ [r] ++ l.drop i).length = l.length + 1 := by simp; omega
  refine List.findIdx?_eq_some_iff_getElem.2 ⟨by omega, ?_, fun j hj => ?_⟩
  · have : (l.take i ++ [r] ++ l.drop i)[i]? = some r := by
      rw [List.append_assoc, List.getElem?_append_right (by simp; omega)]
      simp [Nat.min_eq_left hi]
    rw [List.getElem?_eq_getElem (by omega)] at this
    rw [Option.some.inj this]
    simp [isC, hr]
  · have h2 : (l.take i ++ [r] ++ l.drop i)[j]? = l[j]? := by
      rw [List.append_assoc, List.getElem?_append_left (by simp; omega), List.getElem?_take_of_lt hj]
    have h3 : j < l.length := by omega
    rw [List.getElem?_eq_getElem (by omega), List.getElem?_eq_getElem h3] at h2
    rw [Option.some.inj h2]
    simp [h _ (List.getElem_mem h3)]
theorem undo_do (l : List Rw) (m : Mv) : undoV (doV l m) (stepV l m) = l := by
  unfold doV stepV
  by_cases hb : barV l m = true
  · simp [hb, undoV]
  · simp only [hb, if_false, Bool.false_eq_true]
    rw [findR_ix]
    cases h : l.findIdx? (isC m.ch) with
    | some i =>
      obtain ⟨x, hx, hp⟩ := findIdx_get h
      have hxc : x.ch = m.ch := by simpa [isC] using hp
      simp only [hx, undoV, if_true]
      have h0 : setR l (rowOf m) = l.set i (rowOf m) := by unfold setR; rw [show (rowOf m).ch = m.ch from rfl, h]
      rw [h0]
      unfold setR
      rw [hxc, findIdx_set h rfl]
      simp only
      have hi := (List.getElem?_eq_some_iff.1 hx)
      obtain ⟨hlt, rfl⟩ := hi
      simp
    | none =>
      simp only [undoV, if_true, Bool.false_eq_true, if_false]
      have h0 : setR l (rowOf m) = l.take (atR l m.ch) ++ [rowOf m] ++ l.drop (atR l m.ch) := by unfold setR; rw [show (rowOf m).ch = m.ch from rfl, h]
      rw [h0]
      unfold dropR
      rw [findIdx_ins h (atR_le l m.ch) rfl]
      simp only
      have ha := atR_le l m.ch
      have e1 : (l.take (atR l m.ch) ++ [rowOf m] ++ l.drop (atR l m.ch)).take (atR l m.ch) = l.take (atR l m.ch) := by
        rw [List.append_assoc, List.take_append_of_le_length (by simp; omega), List.take_take, Nat.min_self]
      have e2 : (l.take (atR l m.ch) ++ [rowOf m] ++ l.drop (atR l m.ch)).drop (atR l m.ch + 1) = l.drop (atR l m.ch) := by
        rw [List.drop_append_of_le_length (by simp; omega)]
        rw [List.drop_eq_nil_of_le (by simp; omega)]
        simp
      rw [e1, e2, List.take_append_drop]
theorem back_run : ∀ (ms : List Mv) (l : List Rw), backV (allV l ms) (stepsV l ms) = l
  | [], l => rfl
  | m :: ms, l => by
    show undoV (backV (allV (doV l m) ms) (stepsV (doV l m) ms)) (stepV l m) = l
    rw [back_run ms, undo_do]
theorem stepsV_drop (l : List Rw) (ms : List Mv) (i : Nat) : (stepsV l ms).drop i = stepsV (allV l (ms.take i)) (ms.drop i) := by
  by_cases hi : i ≤ ms.length
  · have h := stepsV_append (ms.take i) (ms.drop i) l
    rw [List.take_append_drop] at h
    rw [h, List.drop_append_of_le_length (by rw [stepsV_length]; simp; omega), List.drop_eq_nil_of_le (by rw [stepsV_length]; simp; omega)]
    rfl
  · rw [List.drop_eq_nil_of_le (by rw [stepsV_length]; omega), List.drop_eq_nil_of_le (by omega : ms.length ≤ i)]
    rfl
theorem back_from (l : List Rw) (ms : List Mv) (i : Nat) : backV (allV l ms) ((stepsV l ms).drop i) = allV l (ms.take i) := by
  rw [stepsV_drop]
  have h : allV l ms = allV (allV l (ms.take i)) (ms.drop i) := by rw [← allV_append, List.take_append_drop]
  rw [h, back_run]
theorem islcL_loS {l : List Stp} {i : Nat} (hi : i ≤ l.length) : islcL 12 (eStps l) (some (.int .i64 (i : Int))) none = some (eStps (l.drop i)) := by
  have h : (l.map eStp).all (fun e => e.length == 12) = true := by simp [eStp]
  simp only [islcL, h, if_true, ibnds, bnd, List.length_map, Option.bind_some]
  rw [if_pos ⟨by omega, by omega⟩]
  simp [List.map_drop]
  rw [List.take_of_length_le (by simp)]

set_option maxHeartbeats 1000000 in
theorem law15_UndoBack_true (l : List Rw) (m : List Mv) (n : Int) (hl : OKl l) (hm : ∀ x ∈ m, OKm x) : law15_UndoBack_s (eRws l) (eMvs m) (.int .i64 n) = some [.bool true] := by
  have hf1 : ref13_Few_s (eMvs m) (.int .i64 60) = some [.bool (fewV m 60)] := ref13_Few_eq (n := 60) (by decide)
  unfold law15_UndoBack_s
  simp only [ref12_Few_eq, hf1, law15_live_eq, Option.bind_some, nth_zero, iun_not, icond_bool]
  by_cases h1 : fewR l = true
  · have b1 := fewR_len h1
    simp only [ref12_May_eq (l := l) (by omega)]
    by_cases h2 : fewV m 60 = true
    · by_cases h3 : mayR l = true
      · have b2 := fewV_len h2
        have hr := undo_Run_eq (l := l) (ms := m) (by omega) hl hm
        have hln := stepsV_length m l
        have hall := allV_length m l
        have hA := OKl.allV hl hm
        have hF := fold_All_eq (l := l) (ms := m) (by omega) hl hm
        have s1 := ref12_Same_eq (a := allV l m) (b := allV l m) (by omega) hA.fl hA.fl
        have hb := undo_Back_eq (l := allV l m) (ss := stepsV l m) (by omega)
        rw [back_run] at hb
        have s2 := ref12_Same_eq (a := l) (b := l) (by omega) hl.fl hl.fl
        have m1 := undo_Moves_eq (ss := stepsV l m) (by omega)
        rw [stepsV_mv] at m1
        have hfl : FlOK m := fun x hx => (hm x hx).rk
        have s6 := ref13_Same_eq (a := m) (b := m) (by omega) hfl hfl
        simp only [sameR_refl, sameV_refl'] at s1 s2 s6
        simp only [h1, h2, h3, Bool.not_true, Bool.false_eq_true, if_false, Option.bind_some, nth_zero, nth_one, icond_false, icond_true, hr, hF, s1, s2, s6, hb, m1, ilenL_lst, List.length_map, hln, ibin_neq, ne_eq, not_true_eq_false, decide_false, ibin_lss, ibin_gtr, icond_dec, icond_bool]
        by_cases h4 : n < 0
        · simp [h4]
        · by_cases h5 : (m.length : Int) < n
          · simp [h4, h5]
          · obtain ⟨i, rfl⟩ : ∃ i : Nat, n = (i : Int) := ⟨n.toNat, by omega⟩
            have hi : i ≤ m.length := by omega
            have hbf := undo_Back_eq (l := allV l m) (ss := (stepsV l m).drop i) (by simp; omega)
            rw [back_from] at hbf
            have hF2 := fold_All_eq (l := l) (ms := m.take i) (by simp; omega) hl fun x hx => hm x (List.mem_of_mem_take hx)
            have hA2 : OKl (allV l (m.take i)) := OKl.allV hl fun x hx => hm x (List.mem_of_mem_take hx)
            have s3 := ref12_Same_eq (a := allV l (m.take i)) (b := allV l (m.take i)) (by have := allV_length (m.take i) l; simp at this; omega) hA2.fl hA2.fl
            simp only [sameR_refl] at s3
            simp only [h4, h5, iun_not, Bool.not_true, if_false, Option.bind_some, nth_zero, icond_false, decide_false, Bool.false_eq_true, islcL_loS (l := stepsV l m) (i := i) (by omega), islcL_hi hi, hbf, hF2, s3, icond_true, scal_bool, scal_nil, Option.map_some]
      · simp [h1, h2, h3]
    · simp [h1, h2]
  · simp [h1]

theorem keyR_zero : keyR zeroRw = keyR zeroRw := rfl
set_option maxHeartbeats 1000000 in
theorem law15_UndoSteps_true (l : List Rw) (m : Mv) (hl : OKl l) (hm : OKm m) : law15_UndoSteps_s (eRws l) (.int .i64 m.c) (.int .i64 m.r) (.int .i64 m.par) (.int .i64 m.ch) (.str m.nm) (.flt .f64 m.rk) = some [.bool true] := by
  unfold law15_UndoSteps_s
  simp only [ref12_Few_eq, law15_live_eq, Option.bind_some, nth_zero, iun_not, ilenS_str, ibin_gtr, icond_dec, icond_bool]
  by_cases h1 : fewR l = true
  · have b1 := fewR_len h1
    simp only [ref12_May_eq (l := l) (by omega)]
    have hdo := undo_Do_eq (l := l) (by omega) hl hm
    have hfi := tree_Find_eq (l := l) (by omega) m.ch
    have hba := fold_Barred_eq (l := l) (by omega) hl hm
    have hu := undo_Undo_eq (l := doV l m) (by have := doV_length l m; omega) (stepV l m)
    rw [undo_do] at hu
    have hsm := ref12_Same_eq (a := l) (b := l) (by omega) hl.fl hl.fl
    simp only [sameR_refl] at hsm
    have hal := ref13_Alike_eq (a := m) (b := m) hm.rk hm.rk
    simp only [decide_true] at hal
    have hzz : ref12_Alike_s (.int .i64 0) (.int .i64 0) (.str ⟨#[]⟩) (.flt .f64 0) (.int .i64 0) (.int .i64 0) (.str ⟨#[]⟩) (.flt .f64 0) = some [.bool true] := by
      have := ref12_AlikeR (a := zeroRw) (b := zeroRw) (by decide) (by decide)
      simp only [zeroRw, decide_true] at this
      exact this
    by_cases h2 : 100 < (m.nm.size : Int)
    · simp [h1, h2]
    · by_cases h3 : mayR l = true
      · simp only [h1, h2, h3, Bool.not_true, Bool.false_eq_true, if_false, Option.bind_some, nth_zero, icond_false, iun_not, hdo, hfi, hba]
        unfold stepV at hu ⊢
        by_cases hb : barV l m = true
        · simp only [hb, if_true, zeroRw] at hu ⊢
          cases hf : findR l m.ch with
          | none => simp [eStp, foundI, hzz, hal, hu, hsm]
          | some x => simp [eStp, foundI, hzz, hal, hu, hsm]
        · have hb' : barV l m = false := by simpa using hb
          simp only [hb', Bool.false_eq_true, if_false] at hu ⊢
          cases hf : findR l m.ch with
          | none =>
            simp only [hf, zeroRw] at hu ⊢
            simp [eStp, foundI, hzz, hal, hu, hsm]
          | some x =>
            have hx := ref12_AlikeR (a := x) (b := x) (findR_ok hl hf).rk (findR_ok hl hf).rk
            simp only [decide_true] at hx
            simp only [hf] at hu ⊢
            simp [eStp, foundI, hzz, hal, hu, hsm, hx]
      · simp [h1, h2, h3]
  · simp [h1]
set_option maxHeartbeats 1000000 in
theorem law15_UndoMiddle_true (l : List Rw) (m o : List Mv) (hl : OKl l) (hm : ∀ x ∈ m, OKm x) (ho : ∀ x ∈ o, OKm x) : law15_UndoMiddle_s (eRws l) (eMvs m) (eMvs o) = some [.bool true] := by
  have hf1 : ref13_Few_s (eMvs m) (.int .i64 30) = some [.bool (fewV m 30)] := ref13_Few_eq (n := 30) (by decide)
  have hf2 : ref13_Few_s (eMvs o) (.int .i64 30) = some [.bool (fewV o 30)] := ref13_Few_eq (n := 30) (by decide)
  unfold law15_UndoMiddle_s
  simp only [ref12_Few_eq, hf1, hf2, law15_live_eq, Option.bind_some, nth_zero, iun_not, ilenL_lst, ibin_gtr, icond_dec, icond_bool, List.length_map]
  by_cases h0 : (30 : Int) < (l.length : Int)
  · simp [h0]
  · by_cases h1 : fewR l = true
    · have b1 := fewR_len h1
      simp only [ref12_May_eq (l := l) (by omega)]
      by_cases h2 : fewV m 30 = true
      · by_cases h3 : fewV o 30 = true
        · by_cases h4 : mayR l = true
          · have b2 := fewV_len h2
            have b3 := fewV_len h3
            have hq : ibin .quo (.int .i64 (m.length : Int)) (.int .i64 2) = some (.int .i64 ((m.length / 2 : Nat) : Int)) := by
              have : IntKind.i64.wrap ((m.length / 2 : Nat) : Int) = ((m.length / 2 : Nat) : Int) := wrap64 (by omega) (by omega)
              have e : (m.length : Int).tdiv 2 = ((m.length / 2 : Nat) : Int) := rfl
              simp only [ibin, ibinInt, if_true]
              rw [if_neg (by decide), e, this]
            generalize hk : m.length / 2 = k at hq
            have hkm : k ≤ m.length := by omega
            have hr := undo_Run_eq (l := l) (ms := m) (by omega) hl hm
            have hln := stepsV_length m l
            have hall := allV_length m l
            have hmk : ∀ x ∈ m.take k, OKm x := fun x hx => hm x (List.mem_of_mem_take hx)
            have hmd : ∀ x ∈ m.drop k, OKm x := fun x hx => hm x (List.mem_of_mem_drop hx)
            have hA := OKl.allV hl hm
            have hM := OKl.allV hl hmk
            have hMl := allV_length (m.take k) l
            simp only [List.length_take] at hMl
            have hb := undo_Back_eq (l := allV l m) (ss := (stepsV l m).drop k) (by simp; omega)
            rw [back_from] at hb
            generalize hmid : allV l (m.take k) = mid at *
            have hr2 := undo_Run_eq (l := mid) (ms := o) (by omega) hM ho
            have hol := allV_length o mid
            have hos := stepsV_length o mid
            have hb2 := undo_Back_eq (l := allV mid o) (ss := stepsV mid o) (by omega)
            rw [back_run] at hb2
            have hr3 := undo_Run_eq (l := mid) (ms := m.drop k) (by simp; omega) hM hmd
            have e1 : allV mid (m.drop k) = allV l m := by rw [← hmid, ← allV_append, List.take_append_drop]
            have e2 : stepsV mid (m.drop k) = (stepsV l m).drop k := by rw [stepsV_drop, hmid]
            rw [e1, e2] at hr3
            have s1 := ref12_Same_eq (a := mid) (b := mid) (by omega) hM.fl hM.fl
            have s2 := ref12_Same_eq (a := allV l m) (b := allV l m) (by omega) hA.fl hA.fl
            have hS : ∀ s ∈ (stepsV l m).drop k, OKs s := fun s hs => OKs.steps hl hm s (List.mem_of_mem_drop hs)
            have s3 := ref15_Same_eq (a := (stepsV l m).drop k) (b := (stepsV l m).drop k) (by simp; omega) hS hS
            simp only [sameR_refl, sameS_refl] at s1 s2 s3
            simp only [h0, h1, h2, h3, h4, Bool.not_true, Bool.false_eq_true, if_false, Option.bind_some, nth_zero, nth_one, icond_false, icond_true, iun_not, hq, hr, hln, ilenL_lst, List.length_map, ibin_neq, ne_eq, not_true_eq_false, decide_false, islcL_loS (l := stepsV l m) (i := k) (by omega), islcL_lo (l := m) hkm, hb, hr2, hb2, hr3, s1, s2, s3, scal_bool, scal_nil, Option.map_some]
          · simp [h0, h1, h2, h3, h4]
        · simp [h0, h1, h2, h3]
      · simp [h0, h1, h2]
    · simp [h0, h1]
end Go.AM

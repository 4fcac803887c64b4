/- A replay's tree, plainly: ReplayScripts. -/
import Derived.Test.YtmmacbkganjkbaaReG
set_option linter.unusedVariables false
set_option linter.unusedSimpArgs false
namespace Go.AM

theorem ref16_Add_eq {b L : IV} {l : List Mv} (hL : L = eMvs l) (hl : l.length < 2 ^ 14) (m : Mv) : ref16_Tree_Add_s b L (.int .i64 m.c) (.int .i64 m.r) (.int .i64 m.par) (.int .i64 m.ch) (.str m.nm) (.flt .f64 m.rk) =
    some [b, eMvs (insV l m), .int .i64 (if newV l m = true then (l.length : Int) - atV l m else 0), .bool (newV l m)] := by
  subst hL
  have hins := ref13_Insert_eq (l := l) (by omega) m
  unfold ref16_Tree_Add_s
  simp only [hins, Option.bind_some, nth_zero, nth_one, nth_two, iun_not]
  cases hnew : newV l m with
  | false =>
    have hi : insV l m = l := by
      unfold newV at hnew
      unfold insV
      rw [if_pos (by simpa using hnew)]
    simp only [Bool.not_false, icond_true, hi]
    rfl
  | true =>
    have hany : l.any (tmB m.c m.r) = false := by unfold newV at hnew; simpa using hnew
    have hpos : posV l m = atV l m := by
      unfold posV
      have : l.findIdx? (tmB m.c m.r) = none := by
        rw [List.findIdx?_eq_none_iff]
        intro x hx
        have := List.any_eq_false.1 hany x hx
        simpa using this
      rw [this]
    have hat := atV_le l m
    have hlen : (insV l m).length = l.length + 1 := by
      unfold insV
      rw [hany]
      simp; omega
    have s1 : ibin .sub (.int .i64 ((insV l m).length : Int)) (.int .i64 1) = some (.int .i64 (l.length : Int)) := by
      have e : (l.length : Int) = ((insV l m).length : Int) - 1 := by omega
      rw [e]
      exact ibin_sub (by omega) (by omega)
    have s2 : ibin .sub (.int .i64 (l.length : Int)) (.int .i64 (atV l m : Int)) = some (.int .i64 ((l.length : Int) - atV l m)) := ibin_sub (by omega) (by omega)
    simp only [Bool.not_true, icond_false, ilenL_lst, List.length_map, Option.bind_some, s1, s2, hpos, if_true]
set_option maxHeartbeats 2000000 in
theorem law16_ReplayScripts_true (b : List Rw) (ms : List Mv) (hob : OKl b) (hom : ∀ x ∈ ms, OKm x) : law16_ReplayScripts_s (eRws b) (eMvs ms) = some [.bool true] := by
  have hf1 : ref13_Few_s (eMvs ms) (.int .i64 40) = some [.bool (fewV ms 40)] := ref13_Few_eq (n := 40) (by decide)
  unfold law16_ReplayScripts_s
  simp only [ilenL_lst, List.length_map, ibin_gtr, ref12_Few_eq, hf1, law16_live_eq, Option.bind_some, nth_zero, iun_not, icond_bool, decide_eq_true_eq]
  by_cases h0 : (40 : Int) < (b.length : Int)
  · simp [h0]
  by_cases h1 : fewR b = true
  case neg => simp [h0, h1]
  by_cases h2 : fewV ms 40 = true
  case neg => simp [h0, h1, h2]
  have b1 := fewR_len h1
  have b2 := fewV_len h2
  have hmay := ref12_May_eq (l := b) (by omega)
  by_cases h3 : mayR b = true
  case neg => simp [h0, h1, h2, hmay, h3]
  have hnew := replay_New_eq (b := b) (by omega)
  have hdr : ∀ a b' c d e : IV, ([a, b', c, d, e] : List IV).drop 3 = [d, e] := fun _ _ _ _ _ => rfl
  have hdr2 : ∀ a b' c d : IV, ([a, b', c, d] : List IV).drop 2 = [c, d] := fun _ _ _ _ => rfl
  have hloop : iter rounds (law16_ReplayScripts_l8 (eMvs ms) (eRws b)) [eRws b, eRws b, eStps [], eRws b, .lst [], .int .i64 0] = some (0, []) := by
    rw [iter_fold (vs0 := [eRws b, eRws b, eStps [], eRws b, .lst [], .int .i64 0]) (fun i (s : List Mv) => [eRws b, eRws (allV b s), eStps (stepsV b s), eRws b, eMvs s, .int .i64 (i : Int)]) insV 0 (fun s => []) (fun i s => s.length ≤ i ∧ i ≤ ms.length ∧ ∀ x ∈ s, OKm x) ms [] rfl (by have := rounds_eq; omega) ⟨by simp, by simp, by simp⟩]
    · intro i s x hx hI
      have hi : i < ms.length := (List.getElem?_eq_some_iff.1 hx).1
      have hxm := hom x (List.mem_of_getElem? hx)
      have hl := insV_length s x
      have hI2 := insV_okm' hI.2.2 hxm
      refine ⟨⟨by omega, by omega, hI2⟩, ?_⟩
      have hadd := replay_Add_eq (b := b) (L := s) (m := x) hob hI.2.2 hxm (by omega)
      have hadd2 := ref16_Add_eq (b := eRws b) (L := eMvs s) (l := s) rfl (by omega) x
      generalize insV s x = t at *
      have a1 := allV_length t b
      have sl : (stepsV b t).length = t.length := stepsV_length _ _
      have e5 : replay_Tree_Rows_s (.ptr [eRws b, eRws (allV b t), eStps (stepsV b t)] 0) = some [eRws (allV b t)] := replay_Rows_eq (b := b) (by omega)
      have e6 : replay_Tree_Log_s (.ptr [eRws b, eRws (allV b t), eStps (stepsV b t)] 0) = some [eMvs t] := by
        have := replay_Log_eq (b := b) (l := allV b t) (ss := stepsV b t) (by omega)
        rw [stepsV_mv] at this; exact this
      have e7 : replay_Tree_Steps_s (.ptr [eRws b, eRws (allV b t), eStps (stepsV b t)] 0) = some [eStps (stepsV b t)] := replay_Steps_eq (b := b) (by omega)
      have e8 : replay_Tree_Base_s (.ptr [eRws b, eRws (allV b t), eStps (stepsV b t)] 0) = some [eRws b] := replay_Base_eq (b := b) (by omega)
      have hrun := ref15_Run_eq (l := b) (ms := t) (by omega)
      have k5 : ref16_Tree_Rows_s (eRws b) (eMvs t) = some [eRws (allV b t)] := by show (ref15_Run_s (eRws b) (eMvs t)).map (fun r => [nth r 0]) = _; rw [hrun]; rfl
      have k7 : ref16_Tree_Steps_s (eRws b) (eMvs t) = some [eStps (stepsV b t)] := by show (ref15_Run_s (eRws b) (eMvs t)).map (fun r => [nth r 1]) = _; rw [hrun]; rfl
      have w1 := hob.allV hI2
      have q1 := ref12_Same_eq (a := allV b t) (b := allV b t) (by omega) w1.fl w1.fl
      have q4 := ref12_Same_eq (a := b) (b := b) (by omega) hob.fl hob.fl
      have hfl : FlOK t := fun m hm => (hI2 m hm).rk
      have q2 := ref13_Same_eq (a := t) (b := t) (by omega) hfl hfl
      have q2' : sameV t t = true := by simp [sameV]
      have q3 := ref15_Same_eq (a := stepsV b t) (b := stepsV b t) (by omega) (OKs.steps hob hI2) (OKs.steps hob hI2)
      simp only [sameR_refl] at q1 q4
      simp only [sameS_refl] at q3
      rw [q2'] at q2
      have hee : ∀ n : Int, ibin .neq (.int .i64 n) (.int .i64 n) = some (.bool false) := fun n => by simp
      have hbb : ∀ c : Bool, ibinB .neq (.bool c) (.bool c) = some (.bool false) := fun c => by cases c <;> rfl
      unfold law16_ReplayScripts_l8
      simp only [nth_zero, nth_one, nth_two, nth_three, nth_four, nth_five, ilenL_lst, ibin_lss, List.length_map, Int.ofNat_lt, hi, at_Mv hx, decide_true, icond_true, Option.bind_some, hadd, hadd2, hdr, hdr2, hee, hbb, icond_false, e5, e6, e7, e8, k5, k7, q1, q2, q3, q4, iun_not, Bool.not_true, ibin_succ (show i < 2 ^ 62 by omega)]
    · intro s _
      unfold law16_ReplayScripts_l8
      simp
  simp only [h0, h1, h2, hmay, h3, if_false, Bool.not_true, Bool.false_eq_true, Option.bind_some, nth_zero, nth_one, nth_two, iun_not, icond_false, hnew, hloop, sel_zero, law16_live_eq, scal_bool, scal_nil, Option.map_some]
end Go.AM

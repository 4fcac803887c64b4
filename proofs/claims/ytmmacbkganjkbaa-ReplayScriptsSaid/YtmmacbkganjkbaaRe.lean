/- A replay's tree, plainly: what each of its methods does to rows, moves, steps. -/
import Derived.Test.YtmmacbkganjkbaaTr
set_option linter.unusedVariables false
set_option linter.unusedSimpArgs false
namespace Go.AM

/-- A tree's cells: its base, its rows, its steps. -/
abbrev eTree (b l : List Rw) (ss : List Stp) : IV := .ptr [eRws b, eRws l, eStps ss] 0
theorem clone_Stp {l : List Stp} (hl : l.length < 2 ^ 16) : slices_Clone_Step_s (eStps l) = some [eStps l] := by
  unfold slices_Clone_Step_s cloneS
  simp only [List.length_map]
  rw [if_pos ⟨by omega, by simp [eStp]⟩]
theorem ipnn_ptr (cs : List IV) (j : Nat) : ipnn (.ptr cs j) = some (.ptr cs j) := rfl
theorem replay_New_eq {b : List Rw} (hb : b.length < 2 ^ 16) : replay_New_s (eRws b) = some [eRws b, eRws b, eStps []] := by
  unfold replay_New_s
  simp only [clone_Rw hb, Option.bind_some]
  rfl
theorem replay_Log_eq {b l : List Rw} {ss : List Stp} (hs : ss.length < 2 ^ 16) : replay_Tree_Log_s (eTree b l ss) = some [eMvs (ss.map (·.mv))] := by
  unfold replay_Tree_Log_s
  show (undo_Moves_s (eStps ss)).bind (fun v5 => if flatI (nth v5 0) = true then some [nth v5 0] else none) = _
  rw [undo_Moves_eq hs]
  show (if flatI (eMvs (ss.map (·.mv))) = true then _ else none) = _
  rw [if_pos (flat_Mvs _)]
  rfl
theorem replay_Rows_eq {b l : List Rw} {ss : List Stp} (hl : l.length < 2 ^ 16) : replay_Tree_Rows_s (eTree b l ss) = some [eRws l] := by
  unfold replay_Tree_Rows_s
  show (slices_Clone_Row_s (eRws l)).bind (fun v5 => if flatI (nth v5 0) = true then some [nth v5 0] else none) = _
  rw [clone_Rw hl]
  show (if flatI (eRws l) = true then _ else none) = _
  rw [if_pos (flat_Rws _)]
  rfl
theorem replay_Base_eq {b l : List Rw} {ss : List Stp} (hb : b.length < 2 ^ 16) : replay_Tree_Base_s (eTree b l ss) = some [eRws b] := by
  unfold replay_Tree_Base_s
  show (slices_Clone_Row_s (eRws b)).bind (fun v5 => if flatI (nth v5 0) = true then some [nth v5 0] else none) = _
  rw [clone_Rw hb]
  show (if flatI (eRws b) = true then _ else none) = _
  rw [if_pos (flat_Rws _)]
  rfl
theorem replay_Steps_eq {b l : List Rw} {ss : List Stp} (hs : ss.length < 2 ^ 16) : replay_Tree_Steps_s (eTree b l ss) = some [eStps ss] := by
  unfold replay_Tree_Steps_s
  show (slices_Clone_Step_s (eStps ss)).bind (fun v5 => if flatI (nth v5 0) = true then some [nth v5 0] else none) = _
  rw [clone_Stp hs]
  show (if flatI (eStps ss) = true then _ else none) = _
  rw [if_pos (flat_Stps _)]
  rfl

/-! ### Turned round -/
theorem iset_Mv {l : List Mv} {i : Nat} {x : Mv} (h : l[i]? = some x) (r : Mv) : iset (eMvs l) i 0 [.int .i64 r.c, .int .i64 r.r, .int .i64 r.par, .int .i64 r.ch, .str r.nm, .flt .f64 r.rk] = some (eMvs (l.set i r)) := by
  simp only [iset, List.getElem?_map, h, Option.map_some, Option.bind_some]
  rw [if_pos (by simp [eMv])]
  simp [setCells, eMv, List.map_set]
theorem rev_loop (l : List Mv) (hl : l.length < 2 ^ 16) : ∀ (d i : Nat) (s : List Mv), s.length = l.length → (∀ p, p < l.length → s[p]? = if p < i ∨ l.length ≤ p + i then l[l.length - 1 - p]? else l[p]?) → i ≤ l.length → l.length ≤ 2 * i + 2 * d + 1 →
    ∀ fuel, d < fuel → iter fuel slices_Reverse_Move_l1 [eMvs s, .int .i64 (i : Int), .int .i64 ((l.length : Int) - 1 - i)] = some (0, [eMvs l.reverse]) := by
  intro d
  induction d with
  | zero =>
    intro i s hs hp hi hd fuel hf
    obtain ⟨n, rfl⟩ : ∃ n, fuel = n + 1 := ⟨fuel - 1, by omega⟩
    have hrev : s = l.reverse := by
      apply List.ext_getElem?
      intro p
      by_cases hpl : p < l.length
      · rw [hp p hpl, List.getElem?_reverse hpl]
        split
        · rfl
        · have : p = l.length - 1 - p := by omega
          rw [← this]
      · rw [List.getElem?_eq_none (by omega), List.getElem?_eq_none (by rw [List.length_reverse]; omega)]
    subst hrev
    have hc : ¬ ((i : Int) < (l.length : Int) - 1 - i) := by omega
    refine iter_done n ?_
    unfold slices_Reverse_Move_l1
    simp only [nth_zero, nth_one, nth_two, ibin_lss, hc, decide_false, icond_false, Option.bind_some]
  | succ d ih =>
    intro i s hs hp hi hd fuel hf
    obtain ⟨n, rfl⟩ : ∃ n, fuel = n + 1 := ⟨fuel - 1, by omega⟩
    by_cases hc : (i : Int) < (l.length : Int) - 1 - i
    · have hil : i < l.length := by omega
      have hj : ((l.length : Int) - 1 - i) = ((l.length - 1 - i : Nat) : Int) := by omega
      generalize hjj : l.length - 1 - i = j at *
      have hjl : j < l.length := by omega
      have hxi : s[i]? = some l[i] := by rw [hp i hil, if_neg (by omega), List.getElem?_eq_getElem hil]
      have hxj : s[j]? = some l[j] := by rw [hp j hjl, if_neg (by omega), List.getElem?_eq_getElem hjl]
      have hb1 : ibidx (llen (eMvs s)) (.int .i64 (j : Int)) = some j := by simp [ibidx, llen, hs, hjl]
      have hb2 : ibidx (llen (eMvs s)) (.int .i64 (i : Int)) = some i := by simp [ibidx, llen, hs, hil]
      have hs1 := iset_Mv hxi l[j]
      have hxj2 : (s.set i l[j])[j]? = some l[j] := by rw [List.getElem?_set_ne (by omega)]; exact hxj
      have hs2 := iset_Mv hxj2 l[i]
      have hstep : slices_Reverse_Move_l1 [eMvs s, .int .i64 (i : Int), .int .i64 (j : Int)] = some (.next [eMvs ((s.set i l[j]).set j l[i]), .int .i64 ((i + 1 : Nat) : Int), .int .i64 ((l.length : Int) - 1 - ((i + 1 : Nat) : Int))]) := by
        have hlt : (i : Int) < (j : Int) := by omega
        have hsub : ibin .sub (.int .i64 (j : Int)) (.int .i64 1) = some (.int .i64 ((l.length : Int) - 1 - ((i + 1 : Nat) : Int))) := by
          have e : ((l.length : Int) - 1 - ((i + 1 : Nat) : Int)) = (j : Int) - 1 := by omega
          rw [e]
          exact ibin_sub (by omega) (by omega)
        unfold slices_Reverse_Move_l1
        simp only [nth_zero, nth_one, nth_two, nth_three, nth_four, nth_five, ibin_lss, hlt, decide_true, icond_true, Option.bind_some, hb1, hb2, at_Mv hxi, at_Mv hxj, hs1, hs2, hsub, ibin_succ (show i < 2 ^ 62 by omega)]
      rw [hj]
      simp only [iter, hstep, Option.bind_some]
      refine ih (i + 1) _ (by simp [hs]) (fun p hpl => ?_) (by omega) (by omega) n (by omega)
      by_cases h1 : p = j
      · subst h1
        rw [List.getElem?_set_self (by simp [hs]; omega), if_pos (by omega), List.getElem?_eq_getElem (by omega)]
        congr 2
        omega
      · rw [List.getElem?_set_ne (Ne.symm h1)]
        by_cases h2 : p = i
        · subst h2
          rw [List.getElem?_set_self (by omega), if_pos (by omega), List.getElem?_eq_getElem (by omega)]
          congr 2
          omega
        · rw [List.getElem?_set_ne (Ne.symm h2), hp p hpl]
          by_cases h3 : p < i ∨ l.length ≤ p + i
          · rw [if_pos h3, if_pos (by omega)]
          · rw [if_neg h3, if_neg (by omega)]
    · exact ih i s hs hp hi (by omega) (n + 1) (by omega)
theorem reverse_Mv {l : List Mv} (hl : l.length < 2 ^ 16) : slices_Reverse_Move_s (eMvs l) = some [eMvs l.reverse] := by
  have h0 : ibin .sub (.int .i64 ((llen (eMvs l) : Nat) : Int)) (.int .i64 1) = some (.int .i64 ((l.length : Int) - 1 - ((0 : Nat) : Int))) := by
    have e : llen (eMvs l) = l.length := by simp [llen]
    rw [e, show (l.length : Int) - 1 - ((0 : Nat) : Int) = (l.length : Int) - 1 by omega]
    exact ibin_sub (by omega) (by omega)
  unfold slices_Reverse_Move_s
  rw [h0]
  simp only [Option.bind_some]
  have h1 := rev_loop l hl l.length 0 l rfl (fun p hp => by rw [if_neg (by omega)]) (Nat.zero_le _) (by omega) rounds (by have := rounds_eq; omega)
  rw [show (IV.int .i64 0) = .int .i64 ((0 : Nat) : Int) from rfl, h1]
  rfl

end Go.AM
/- A replay's tree, plainly: a move that comes. -/
set_option linter.unusedVariables false
set_option linter.unusedSimpArgs false
namespace Go.AM

theorem allV_take {b : List Rw} {L : List Mv} {k : Nat} {x : Mv} (h : L[k]? = some x) : allV b (L.take (k + 1)) = doV (allV b (L.take k)) x := by
  have e : L.take (k + 1) = L.take k ++ [x] := by rw [List.take_add_one, h]; rfl
  rw [e, allV_append]; rfl
theorem stepsV_take {b : List Rw} {L : List Mv} {k : Nat} {x : Mv} (h : L[k]? = some x) : stepsV b (L.take (k + 1)) = stepsV b (L.take k) ++ [stepV (allV b (L.take k)) x] := by
  have e : L.take (k + 1) = L.take k ++ [x] := by rw [List.take_add_one, h]; rfl
  rw [e, stepsV_append]; rfl
/-- The steps go back to a place; behind it come the move and those that were undone. -/
theorem add_loop {b : List Rw} {L : List Mv} {m : Mv} (hob : OKl b) (hom : ∀ x ∈ L, OKm x) (hm : OKm m) (hn : b.length + L.length < 2 ^ 14) {at0 : Nat} (hat : at0 ≤ L.length) (w : List IV) (hw : nth w 1 = .int .i64 (at0 : Int)) : ∀ (d k : Nat), k = at0 + d → k ≤ L.length → ∀ fuel, d < fuel →
    iter fuel (replay_Tree_Add_l7 w (.int .i64 m.c) (.int .i64 m.r) (.int .i64 m.par) (.int .i64 m.ch) (.str m.nm) (.flt .f64 m.rk)) [eRws b, eRws (allV b (L.take k)), eStps (stepsV b (L.take k)), eMvs (L.drop k).reverse] =
      some (1, [eRws b, eRws (allV b (L.take at0 ++ m :: L.drop at0)), eStps (stepsV b (L.take at0 ++ m :: L.drop at0)), .int .i64 ((L.length : Int) - at0), .bool true]) := by
  intro d
  induction d with
  | zero =>
    intro k hk hkl fuel hf
    obtain ⟨n, rfl⟩ : ∃ n, fuel = n + 1 := ⟨fuel - 1, by omega⟩
    have hk' : k = at0 := by omega
    subst hk'
    have hsl : (stepsV b (L.take k)).length = k := by rw [stepsV_length, List.length_take]; omega
    have hll : llen (eStps (stepsV b (L.take k))) = k := by simp [llen, hsl]
    have hal : (allV b (L.take k)).length ≤ b.length + k := by have := allV_length (L.take k) b; rw [List.length_take] at this; omega
    have h5 : ibin .sub (.int .i64 ((k : Nat) : Int)) (.int .i64 1) = some (.int .i64 ((k : Int) - 1)) := ibin_sub (by omega) (by omega)
    have hge : ibin .geq (.int .i64 ((k : Int) - 1)) (.int .i64 (k : Int)) = some (.bool false) := by
      have : ¬ ((k : Int) - 1 ≥ (k : Int)) := by omega
      simp [ibin, ibinInt, this]
    have happ : iapp 6 56 (eMvs (L.drop k).reverse) (.lst [[.int .i64 m.c, .int .i64 m.r, .int .i64 m.par, .int .i64 m.ch, .str m.nm, .flt .f64 m.rk]]) = some (eMvs ((L.drop k).reverse ++ [m])) := iapp_Mv (l := (L.drop k).reverse) (k := [m]) (by simp; omega) (by simp)
    have hrev := reverse_Mv (l := (L.drop k).reverse ++ [m]) (by simp; omega)
    have hre : ((L.drop k).reverse ++ [m]).reverse = m :: L.drop k := by simp
    rw [hre] at hrev
    have hms : ∀ x ∈ m :: L.drop k, OKm x := fun x hx => by
      rcases List.mem_cons.1 hx with rfl | hx
      · exact hm
      · exact hom x (List.mem_of_mem_drop hx)
    have hrun := undo_Run_eq (l := allV b (L.take k)) (ms := m :: L.drop k) (by simp; omega) (hob.allV fun x hx => hom x (List.mem_of_mem_take hx)) hms
    have hst := iapp_Stp (l := stepsV b (L.take k)) (k := stepsV (allV b (L.take k)) (m :: L.drop k)) (by omega) (by rw [stepsV_length]; simp; omega)
    have hl16 : llen (eMvs ((L.drop k).reverse ++ [m])) = L.length - k + 1 := by simp [llen]
    have h16 : ibin .sub (.int .i64 ((L.length - k + 1 : Nat) : Int)) (.int .i64 1) = some (.int .i64 ((L.length : Int) - k)) := by
      have e : (L.length : Int) - k = ((L.length - k + 1 : Nat) : Int) - 1 := by omega
      rw [e]
      exact ibin_sub (by omega) (by omega)
    refine iter_done n ?_
    unfold replay_Tree_Add_l7
    simp only [nth_zero, nth_one, nth_two, nth_three, hw, hll, h5, hge, icond_false, Option.bind_some, happ, hrev, hrun, hst, hl16, h16, ← allV_append, ← stepsV_append]
  | succ d ih =>
    intro k hk hkl fuel hf
    obtain ⟨n, rfl⟩ : ∃ n, fuel = n + 1 := ⟨fuel - 1, by omega⟩
    obtain ⟨q, rfl⟩ : ∃ q, k = q + 1 := ⟨k - 1, by omega⟩
    have hql : q < L.length := by omega
    have hx : L[q]? = some L[q] := List.getElem?_eq_getElem hql
    generalize L[q] = x at hx
    have hsl : (stepsV b (L.take (q + 1))).length = q + 1 := by rw [stepsV_length, List.length_take]; omega
    have hsl0 : (stepsV b (L.take q)).length = q := by rw [stepsV_length, List.length_take]; omega
    have hll : llen (eStps (stepsV b (L.take (q + 1)))) = q + 1 := by simp [llen, hsl]
    have hal : (allV b (L.take (q + 1))).length ≤ b.length + (q + 1) := by have := allV_length (L.take (q + 1)) b; rw [List.length_take] at this; omega
    have h5 : ibin .sub (.int .i64 ((q + 1 : Nat) : Int)) (.int .i64 1) = some (.int .i64 (q : Int)) := by
      have e : (q : Int) = ((q + 1 : Nat) : Int) - 1 := by omega
      rw [e]
      exact ibin_sub (by omega) (by omega)
    have hge : ibin .geq (.int .i64 (q : Int)) (.int .i64 (at0 : Int)) = some (.bool true) := by
      have : (q : Int) ≥ (at0 : Int) := by omega
      simp [ibin, ibinInt, this]
    have hix : ibidx (q + 1) (.int .i64 (q : Int)) = some q := by simp [ibidx]; omega
    have hsq : (stepsV b (L.take (q + 1)))[q]? = some (stepV (allV b (L.take q)) x) := by
      rw [stepsV_take hx, List.getElem?_append_right (by omega), hsl0, Nat.sub_self]; rfl
    have hb3 : bnd3 (.int .i64 (q : Int)) (.int .i64 (q : Int)) (q + 1) = some q := by
      have : bnd (.int .i64 (q : Int)) (q + 1) = some q := by
        have h2 : (q : Int) ≤ ((q + 1 : Nat) : Int) := by omega
        simp [bnd]; omega
      simp [bnd3, this]
    have hsub : lsub (eStps (stepsV b (L.take (q + 1)))) 0 q = eStps (stepsV b (L.take q)) := by
      rw [stepsV_take hx]
      simp only [lsub, List.map_append]
      rw [List.drop_zero, Nat.sub_zero, List.take_append_of_le_length (by simp [hsl0]), List.take_of_length_le (by simp [hsl0])]
    have hundo := undo_Undo_eq (l := allV b (L.take (q + 1))) (by omega) (stepV (allV b (L.take q)) x)
    have hback : undoV (allV b (L.take (q + 1))) (stepV (allV b (L.take q)) x) = allV b (L.take q) := by rw [allV_take hx]; exact undo_do _ _
    rw [hback] at hundo
    have happ : iapp 6 56 (eMvs (L.drop (q + 1)).reverse) (.lst [[.int .i64 x.c, .int .i64 x.r, .int .i64 x.par, .int .i64 x.ch, .str x.nm, .flt .f64 x.rk]]) = some (eMvs ((L.drop (q + 1)).reverse ++ [x])) := iapp_Mv (l := (L.drop (q + 1)).reverse) (k := [x]) (by simp; omega) (by simp)
    have hdr : (L.drop (q + 1)).reverse ++ [x] = (L.drop q).reverse := by
      have : L.drop q = x :: L.drop (q + 1) := by
        rw [← List.getElem_cons_drop hql]
        congr 1
        have := List.getElem?_eq_getElem hql
        rw [hx] at this; exact (Option.some.inj this).symm
      rw [this]; simp
    rw [hdr] at happ
    have hmv := stepV_mv (allV b (L.take q)) x
    have hstep : replay_Tree_Add_l7 w (.int .i64 m.c) (.int .i64 m.r) (.int .i64 m.par) (.int .i64 m.ch) (.str m.nm) (.flt .f64 m.rk) [eRws b, eRws (allV b (L.take (q + 1))), eStps (stepsV b (L.take (q + 1))), eMvs (L.drop (q + 1)).reverse] =
        some (.next [eRws b, eRws (allV b (L.take q)), eStps (stepsV b (L.take q)), eMvs (L.drop q).reverse]) := by
      unfold replay_Tree_Add_l7
      simp only [nth_zero, nth_one, nth_two, nth_three, nth_four, nth_five, nth_six, nth_seven, hw, hll, h5, hge, icond_true, Option.bind_some, hix, at_Stp hsq]
      generalize stepV (allV b (L.take q)) x = s at *
      subst hmv
      simp only [eStp, nth, List.getD_cons_zero, List.getD_cons_succ, Option.bind_some, hundo, hb3, happ, hsub]
    simp only [iter, hstep, Option.bind_some]
    exact ih q (by omega) (by omega) n (by omega)
theorem replay_Add_eq {b : List Rw} {L : List Mv} {m : Mv} (hob : OKl b) (hom : ∀ x ∈ L, OKm x) (hm : OKm m) (hn : b.length + L.length < 2 ^ 14) :
    replay_Tree_Add_s (eRws b) (eRws (allV b L)) (eStps (stepsV b L)) (.int .i64 m.c) (.int .i64 m.r) (.int .i64 m.par) (.int .i64 m.ch) (.str m.nm) (.flt .f64 m.rk) =
      some [eRws b, eRws (allV b (insV L m)), eStps (stepsV b (insV L m)), .int .i64 (if newV L m = true then (L.length : Int) - atV L m else 0), .bool (newV L m)] := by
  have hsl : (stepsV b L).length = L.length := stepsV_length _ _
  have hlog := replay_Log_eq (b := b) (l := allV b L) (ss := stepsV b L) (by omega)
  rw [stepsV_mv] at hlog
  have hins := moves_Insert_eq (l := L) (by omega) m
  have hnot : ∀ x : Bool, iun .not (.bool x) = some (.bool !x) := fun x => rfl
  unfold replay_Tree_Add_s
  have hlog' : replay_Tree_Log_s (.ptr [eRws b, eRws (allV b L), eStps (stepsV b L)] 0) = some [eMvs L] := hlog
  simp only [hlog', Option.bind_some, nth_zero, hins, nth_two, hnot]
  cases hnew : newV L m with
  | false =>
    have hi : insV L m = L := by
      unfold newV at hnew
      unfold insV
      rw [if_pos (by simpa using hnew)]
    simp only [Bool.not_false, icond_true, hi]
    rfl
  | true =>
    have hany : L.any (tmB m.c m.r) = false := by unfold newV at hnew; simpa using hnew
    have hi : insV L m = L.take (atV L m) ++ m :: L.drop (atV L m) := by
      unfold insV
      rw [hany]
      simp
    have hpos : posV L m = atV L m := by
      unfold posV
      have : L.findIdx? (tmB m.c m.r) = none := by
        rw [List.findIdx?_eq_none_iff]
        intro x hx
        have := List.any_eq_false.1 hany x hx
        simpa using this
      rw [this]
    have hloop := add_loop (b := b) (L := L) (m := m) hob hom hm hn (atV_le L m) [eMvs (insV L m), .int .i64 (posV L m : Int), .bool true] (by rw [hpos]; rfl) (L.length - atV L m) L.length (by have := atV_le L m; omega) (Nat.le_refl _) rounds (by have := rounds_eq; omega)
    rw [List.take_length, List.drop_length] at hloop
    simp only [Bool.not_true, icond_false]
    rw [show (IV.lst []) = eMvs ([] : List Mv).reverse from rfl, hloop, ← hi]
    rfl
end Go.AM

/- A replay's tree, plainly: a tree to which moves came. -/
set_option linter.unusedVariables false
set_option linter.unusedSimpArgs false
namespace Go.AM

theorem foldIns_length : ∀ (ms : List Mv) (s : List Mv), (ms.foldl insV s).length ≤ s.length + ms.length
  | [], s => by simp
  | m :: ms, s => by
    have h1 := foldIns_length ms (insV s m)
    have h2 := insV_length s m
    simp only [List.foldl_cons, List.length_cons]; omega
theorem law16_all_eq {b : List Rw} {ms : List Mv} (hob : OKl b) (hom : ∀ x ∈ ms, OKm x) (hn : b.length + ms.length < 2 ^ 13) :
    law16_all_s (eRws b) (eMvs ms) = some [eRws b, eRws (allV b (uniV [] ms)), eStps (stepsV b (uniV [] ms))] := by
  unfold law16_all_s
  rw [replay_New_eq (by omega)]
  simp only [Option.bind_some, nth_zero, nth_one, nth_two]
  rw [show (IV.int .i64 0) = .int .i64 ((0 : Nat) : Int) from rfl]
  rw [iter_fold (vs0 := [eRws b, eRws b, eStps [], .int .i64 ((0 : Nat) : Int)]) (fun i (s : List Mv) => [eRws b, eRws (allV b s), eStps (stepsV b s), .int .i64 (i : Int)]) insV 0 (fun s => [eRws b, eRws (allV b s), eStps (stepsV b s)]) (fun i s => s.length ≤ i ∧ i ≤ ms.length ∧ ∀ x ∈ s, OKm x) ms [] rfl (by have := rounds_eq; omega) ⟨by simp, by simp, by simp⟩]
  · rfl
  · intro i s x hx hI
    have hi : i < ms.length := (List.getElem?_eq_some_iff.1 hx).1
    have hxm := hom x (List.mem_of_getElem? hx)
    refine ⟨⟨by have := insV_length s x; omega, by omega, fun y hy => ?_⟩, ?_⟩
    · rcases insV_mem hy with rfl | hy
      · exact hxm
      · exact hI.2.2 y hy
    · have hadd := replay_Add_eq (b := b) (L := s) (m := x) hob hI.2.2 hxm (by omega)
      unfold law16_all_l3
      simp only [nth_zero, nth_one, nth_two, nth_three, nth_four, nth_five, ilenL_lst, ibin_lss, List.length_map, Int.ofNat_lt, hi, at_Mv hx, decide_true, icond_true, Option.bind_some, hadd, ibin_succ (show i < 2 ^ 62 by omega)]
  · intro s _
    unfold law16_all_l3
    simp
end Go.AM

/- A replay's tree, plainly: ReplayNil. -/
set_option linter.unusedVariables false
set_option linter.unusedSimpArgs false
namespace Go.AM

theorem law16_live_eq : law16_live_s = some [.bool true] := by kernel_rfl
theorem law16_ReplayNil_true (m : Mv) (hm : OKm m) : law16_ReplayNil_s (.int .i64 m.c) (.int .i64 m.r) (.int .i64 m.par) (.int .i64 m.ch) (.str m.nm) (.flt .f64 m.rk) = some [.bool true] := by
  have e1 : replay_Tree_Rows_s .nilp = some [.lst []] := rfl
  have e2 : replay_Tree_Log_s .nilp = some [.lst []] := rfl
  have e3 : replay_Tree_Steps_s .nilp = some [.lst []] := rfl
  have e4 : replay_Tree_Base_s .nilp = some [.lst []] := rfl
  have hs : ilenS (.str m.nm) = some (.int .i64 m.nm.size) := rfl
  have hl : llen (.lst []) = 0 := rfl
  have hz : ibin .eql (.int .i64 ((0 : Nat) : Int)) (.int .i64 0) = some (.bool true) := rfl
  have hn : iun .not (.bool false) = some (.bool true) := rfl
  have h0 : ibin .eql (.int .i64 0) (.int .i64 0) = some (.bool true) := rfl
  unfold law16_ReplayNil_s
  rw [hs]
  simp only [Option.bind_some, ibin_gtr]
  cases decide ((100 : Int) < (m.nm.size : Int)) with
  | true => simp only [icond_true, law16_live_eq, Option.bind_some]; rfl
  | false =>
    simp only [icond_false, replay_Tree_Add_nil, Option.bind_some, nth_zero, nth_one, h0, icond_true, hn, e1, e2, e3, e4, hl, hz, law16_live_eq]
    rfl
end Go.AM

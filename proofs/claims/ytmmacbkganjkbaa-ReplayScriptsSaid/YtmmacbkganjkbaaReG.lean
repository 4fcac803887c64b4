/- A replay's tree, plainly: ReplayParts. -/
import Derived.Test.YtmmacbkganjkbaaReF
set_option linter.unusedVariables false
set_option linter.unusedSimpArgs false
namespace Go.AM

theorem not_same {a b : Mv} (h : befV a b = true) : ¬ (b.c = a.c ∧ b.r = a.r) ∧ ¬ (a.c = b.c ∧ a.r = b.r) := by
  rw [befV_iff] at h; omega
theorem ins_last {s : List Mv} {m : Mv} (h : SortedV (s ++ [m])) : insV s m = s ++ [m] := by
  have hb : ∀ x ∈ s, befV x m = true := fun x hx => (List.pairwise_append.1 h).2.2 x hx m (List.mem_singleton.2 rfl)
  have h1 : s.any (tmB m.c m.r) = false := by
    rw [List.any_eq_false]
    intro x hx
    have := (not_same (hb x hx)).2
    simpa [tmB] using this
  have h2 : atV s m = s.length := by
    unfold atV
    have : s.findIdx? (fun x => befB m.c m.r x.c x.r) = none := by
      rw [List.findIdx?_eq_none_iff]
      intro x hx
      have := hb x hx
      rw [befV_iff] at this
      cases hc : befB m.c m.r x.c x.r with
      | false => rfl
      | true => rw [befB_iff] at hc; omega
    rw [this]; rfl
  unfold insV
  rw [h1, h2]
  simp
theorem uni_sorted : ∀ {ms s : List Mv}, SortedV (s ++ ms) → uniV s ms = s ++ ms
  | [], s, _ => by simp [uniV]
  | m :: ms, s, h => by
    have h' : SortedV ((s ++ [m]) ++ ms) := by simpa using h
    have h1 := ins_last (List.pairwise_append.1 h').1
    have := uni_sorted h'
    simp only [uniV, List.foldl_cons, h1] at this ⊢
    rw [this]; simp
theorem ins_first {s : List Mv} {m : Mv} (h : SortedV (m :: s)) : insV s m = m :: s ∧ atV s m = 0 ∧ newV s m = true := by
  obtain ⟨hb, _⟩ := List.pairwise_cons.1 h
  have h1 : s.any (tmB m.c m.r) = false := by
    rw [List.any_eq_false]
    intro x hx
    have := (not_same (hb x hx)).1
    simpa [tmB] using this
  have h2 : atV s m = 0 := by
    unfold atV
    cases s with
    | nil => rfl
    | cons x s =>
      have := hb x List.mem_cons_self
      have hc : befB m.c m.r x.c x.r = true := this
      rw [List.findIdx?_cons, hc]; rfl
  refine ⟨?_, h2, by simp [newV, h1]⟩
  unfold insV
  rw [h1, h2]
  simp
theorem parts_loop {b : List Rw} {rest : List Mv} (hob : OKl b) (hom : ∀ x ∈ rest, OKm x) (hs : SortedV rest) (hl : b.length + rest.length < 2 ^ 12) (w : List IV) (hw : nth w 0 = eMvs rest) : ∀ (k n : Nat), k ≤ rest.length → k < n →
    iter n (law16_ReplayParts_l11 w) [eRws b, eRws (allV b (rest.drop k)), eStps (stepsV b (rest.drop k)), .int .i64 ((k : Int) - 1)] = some (0, [eRws b, eRws (allV b rest), eStps (stepsV b rest)]) := by
  intro k
  induction k with
  | zero =>
    intro n _ hn
    obtain ⟨n, rfl⟩ : ∃ n', n = n' + 1 := ⟨n - 1, by omega⟩
    rw [iter_done n (k := 0) (o := [eRws b, eRws (allV b rest), eStps (stepsV b rest)])]
    unfold law16_ReplayParts_l11
    simp
  | succ k ih =>
    intro n hk hn
    obtain ⟨n, rfl⟩ : ∃ n', n = n' + 1 := ⟨n - 1, by omega⟩
    have hkl : k < rest.length := by omega
    have hx : rest[k]? = some rest[k] := List.getElem?_eq_getElem hkl
    have hd : rest.drop k = rest[k] :: rest.drop (k + 1) := by rw [List.getElem_cons_drop]
    generalize rest[k] = x at hx hd
    have hsd : SortedV (x :: rest.drop (k + 1)) := by rw [← hd]; exact List.Pairwise.sublist (List.drop_sublist k rest) hs
    obtain ⟨i1, i2, i3⟩ := ins_first hsd
    rw [← hd] at i1
    have hdl : (rest.drop (k + 1)).length = rest.length - (k + 1) := List.length_drop
    have hadd := replay_Add_eq (b := b) (L := rest.drop (k + 1)) (m := x) hob (fun y hy => hom y (List.mem_of_mem_drop hy)) (hom x (List.mem_of_getElem? hx)) (by omega)
    rw [i1, i2, i3, if_pos rfl, hdl] at hadd
    have hk' : (((k + 1 : Nat) : Int) - 1) = (k : Int) := by omega
    rw [hk']
    have hge : (0 : Int) ≤ (k : Int) := by omega
    have sb : ibin .sub (.int .i64 (k : Int)) (.int .i64 1) = some (.int .i64 ((k : Int) - 1)) := ibin_sub (by omega) (by omega)
    have s1 : ibin .sub (.int .i64 (rest.length : Int)) (.int .i64 1) = some (.int .i64 ((rest.length : Int) - 1)) := ibin_sub (by omega) (by omega)
    have s2 : ibin .sub (.int .i64 ((rest.length : Int) - 1)) (.int .i64 (k : Int)) = some (.int .i64 ((rest.length : Int) - 1 - k)) := ibin_sub (by omega) (by omega)
    have e : ((rest.length - (k + 1) : Nat) : Int) - ((0 : Nat) : Int) = (rest.length : Int) - 1 - k := by omega
    rw [e] at hadd
    have hdr : ∀ a b' c d e : IV, ([a, b', c, d, e] : List IV).drop 3 = [d, e] := fun _ _ _ _ _ => rfl
    have hst : law16_ReplayParts_l11 w [eRws b, eRws (allV b (rest.drop (k + 1))), eStps (stepsV b (rest.drop (k + 1))), .int .i64 (k : Int)] = some (.next [eRws b, eRws (allV b (rest.drop k)), eStps (stepsV b (rest.drop k)), .int .i64 ((k : Int) - 1)]) := by
      unfold law16_ReplayParts_l11
      rw [hw]
      simp only [nth_zero, nth_one, nth_two, nth_three, nth_four, nth_five, ibin_geq, hge, decide_true, icond_true, Option.bind_some, at_Mv hx, hadd, hdr, iun_not, Bool.not_true, icond_false, ilenL_lst, List.length_map, s1, s2, sb, ibin_neq, ne_eq, not_true_eq_false, decide_false]
    have hn : iter (n + 1) (law16_ReplayParts_l11 w) [eRws b, eRws (allV b (rest.drop (k + 1))), eStps (stepsV b (rest.drop (k + 1))), .int .i64 (k : Int)] = iter n (law16_ReplayParts_l11 w) [eRws b, eRws (allV b (rest.drop k)), eStps (stepsV b (rest.drop k)), .int .i64 ((k : Int) - 1)] := by
      rw [iter, hst]; rfl
    rw [hn]
    exact ih n (by omega) (by omega)
set_option maxHeartbeats 2000000 in
theorem law16_ReplayParts_true (b : List Rw) (ms : List Mv) (c r : Int) (hob : OKl b) (hom : ∀ x ∈ ms, OKm x) (hc : in64 c) (hr : in64 r) : law16_ReplayParts_s (eRws b) (eMvs ms) (.int .i64 c) (.int .i64 r) = some [.bool true] := by
  have hf1 : ref13_Few_s (eMvs ms) (.int .i64 30) = some [.bool (fewV ms 30)] := ref13_Few_eq (n := 30) (by decide)
  unfold law16_ReplayParts_s
  simp only [ilenL_lst, List.length_map, ibin_gtr, ref12_Few_eq, hf1, law16_live_eq, Option.bind_some, nth_zero, iun_not, icond_bool, decide_eq_true_eq]
  by_cases h0 : (30 : Int) < (b.length : Int)
  · simp [h0]
  by_cases h1 : fewR b = true
  case neg => simp [h0, h1]
  by_cases h2 : fewV ms 30 = true
  case neg => simp [h0, h1, h2]
  have b1 := fewR_len h1
  have b2 := fewV_len h2
  have hmay := ref12_May_eq (l := b) (by omega)
  by_cases h3 : mayR b = true
  case neg => simp [h0, h1, h2, hmay, h3]
  have hmay2 := ref13_May_eq ms
  by_cases h4 : mayV ms = true
  case neg => simp [h0, h1, h2, hmay, h3, hmay2, h4]
  obtain ⟨_, _, hs⟩ := mayV_parts.1 h4
  obtain ⟨d1, d2⟩ := since_drop hs c r
  have hle : (sinV ms c r).length ≤ ms.length := List.length_filter_le _ _
  have hsin := ref13_Since_eq (l := ms) (by omega) c r
  generalize hrest : sinV ms c r = rest at *
  obtain ⟨k, hk⟩ : ∃ k, k = ms.length - rest.length := ⟨_, rfl⟩
  rw [← hk] at d1
  have hsub : ibin .sub (.int .i64 (ms.length : Int)) (.int .i64 (rest.length : Int)) = some (.int .i64 (k : Int)) := by
    rw [ibin_sub (by omega) (by omega)]; congr 2; omega
  have hkl : k ≤ ms.length := by omega
  have htk : ∀ x ∈ ms.take k, OKm x := fun x hx => hom x (List.mem_of_mem_take hx)
  have hrk : ∀ x ∈ rest, OKm x := fun x hx => hom x (by rw [d1] at hx; exact List.mem_of_mem_drop hx)
  have hsr : SortedV rest := by rw [d1]; exact List.Pairwise.sublist (List.drop_sublist k ms) hs
  have hall := law16_all_eq (b := b) (ms := ms) hob hom (by omega)
  have hu : uniV [] ms = ms := by have := uni_sorted (s := []) (ms := ms) (by simpa using hs); simpa using this
  rw [hu] at hall
  have htl : (ms.take k).length = k := by rw [List.length_take]; omega
  have fa := fold_All_eq (l := b) (ms := ms.take k) (by omega) hob htk
  have hb2 := hob.allV htk
  have hb2l := allV_length (ms.take k) b
  have hwhole : allV b ms = allV (allV b (ms.take k)) rest := by rw [← allV_append, d1, List.take_append_drop]
  have a1 := allV_length ms b
  have w1 := hob.allV hom
  have r1 : replay_Tree_Rows_s (.ptr [eRws b, eRws (allV b ms), eStps (stepsV b ms)] 0) = some [eRws (allV b ms)] := replay_Rows_eq (b := b) (by omega)
  rw [htl] at hb2l
  generalize allV b (ms.take k) = b2 at *
  have hnew := replay_New_eq (b := b2) (by omega)
  have hloop := parts_loop (b := b2) (rest := rest) hb2 hrk hsr (by omega) [eMvs rest] rfl rest.length rounds (Nat.le_refl _) (by have := rounds_eq; omega)
  rw [List.drop_length] at hloop
  have a2 := allV_length rest b2
  have w2 := hb2.allV hrk
  have sl : (stepsV b2 rest).length = rest.length := stepsV_length _ _
  have r2 : replay_Tree_Rows_s (.ptr [eRws b2, eRws (allV b2 rest), eStps (stepsV b2 rest)] 0) = some [eRws (allV b2 rest)] := replay_Rows_eq (b := b2) (by omega)
  have g2 : replay_Tree_Log_s (.ptr [eRws b2, eRws (allV b2 rest), eStps (stepsV b2 rest)] 0) = some [eMvs rest] := by
    have := replay_Log_eq (b := b2) (l := allV b2 rest) (ss := stepsV b2 rest) (by omega)
    rw [stepsV_mv] at this; exact this
  have q1 := ref12_Same_eq (a := allV b2 rest) (b := allV b2 rest) (by omega) w2.fl w2.fl
  have hfl : FlOK rest := fun m hm => (hrk m hm).rk
  have q2 := ref13_Same_eq (a := rest) (b := rest) (by omega) hfl hfl
  have q2' : sameV rest rest = true := by simp [sameV]
  simp only [sameR_refl] at q1
  rw [q2'] at q2
  rw [hwhole] at r1 hall
  have s1 : ibin .sub (.int .i64 (rest.length : Int)) (.int .i64 1) = some (.int .i64 ((rest.length : Int) - 1)) := ibin_sub (by omega) (by omega)
  simp only [h0, h1, h2, hmay, h3, hmay2, h4, if_false, Bool.not_true, Bool.false_eq_true, Option.bind_some, nth_zero, nth_one, nth_two, iun_not, icond_false, icond_bool, hall, hsin, ilenL_lst, List.length_map, hsub, islcL_hi hkl, fa, hnew, s1]
  have e0 : eRws b2 = eRws (allV b2 []) := rfl
  have e1 : eStps (stepsV b2 []) = eStps [] := rfl
  rw [e1] at hloop
  have hloop' : iter rounds (law16_ReplayParts_l11 [eMvs rest]) [eRws b2, eRws b2, eStps [], .int .i64 ((rest.length : Int) - 1)] = some (0, [eRws b2, eRws (allV b2 rest), eStps (stepsV b2 rest)]) := hloop
  simp only [hloop', Option.bind_some, sel_zero, nth_zero, nth_one, nth_two, r1, r2, q1, g2, q2, icond_true, law16_live_eq, scal_bool, scal_nil, Option.map_some]
end Go.AM

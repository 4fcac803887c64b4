/- A replay's tree, plainly: ReplayTells. -/
import Derived.Test.YtmmacbkganjkbaaRe
import Derived.Test.YtmmacbkganjkbaaTs
set_option linter.unusedVariables false
set_option linter.unusedSimpArgs false
namespace Go.AM

theorem uniV_sorted0 (ms : List Mv) : SortedV (uniV [] ms) := uniV_sorted List.Pairwise.nil
theorem uniV_len0 (ms : List Mv) : (uniV [] ms).length ≤ ms.length := by have := uniV_length ms []; simpa using this
theorem uniV_okm {ms : List Mv} (h : ∀ x ∈ ms, OKm x) : ∀ x ∈ uniV [] ms, OKm x := fun x hx => by
  rcases uniV_mem hx with hx | hx
  · simp at hx
  · exact h x hx
theorem insV_okm' {l : List Mv} {m : Mv} (h : ∀ x ∈ l, OKm x) (hm : OKm m) : ∀ x ∈ insV l m, OKm x := fun x hx => by
  rcases insV_mem hx with rfl | hx
  · exact hm
  · exact h x hx
theorem mayR_allV {ms : List Mv} : ∀ {l : List Rw}, mayR l = true → (∀ m ∈ ms, oneV m = true) → l.length + ms.length ≤ 2000 → mayR (allV l ms) = true := by
  induction ms with
  | nil => intro l h _ _; exact h
  | cons m ms ih =>
    intro l h ho hl
    simp only [List.length_cons] at hl
    have hd : mayR (doV l m) = true := by
      cases hb : barV l m with
      | true => rw [doV_bar hb]; exact h
      | false => exact mayR_do h (ho m List.mem_cons_self) hb (by omega)
    have h2 := doV_length l m
    exact ih hd (fun x hx => ho x (List.mem_cons_of_mem _ hx)) (by omega)
/-- In a sorted list those that stand behind a time are the last ones. -/
theorem count_behind {l : List Mv} (hs : SortedV l) (m : Mv) : (l.filter fun x => befB m.c m.r x.c x.r).length = l.length - atV l m := by
  have hp : ∀ (k : List Mv), SortedV k → ∀ x, k.head? = some x → befB m.c m.r x.c x.r = true → (k.filter fun x => befB m.c m.r x.c x.r) = k := by
    intro k hk x hx hb
    rw [List.filter_eq_self]
    intro y hy
    cases k with
    | nil => simp at hx
    | cons z k =>
      simp at hx; subst hx
      rcases List.mem_cons.1 hy with rfl | hy
      · exact hb
      · have := (List.pairwise_cons.1 hk).1 y hy
        rw [befV_iff] at this
        rw [befB_iff] at hb ⊢
        omega
  unfold atV
  induction l with
  | nil => rfl
  | cons y l ih =>
    obtain ⟨_, h2⟩ := List.pairwise_cons.1 hs
    by_cases hb : befB m.c m.r y.c y.r = true
    · rw [hp (y :: l) hs y rfl hb]
      simp [List.findIdx?_cons, hb]
    · rw [List.filter_cons_of_neg (by simpa using hb), ih h2, List.findIdx?_cons]
      simp only [hb, if_false, Bool.false_eq_true]
      cases l.findIdx? fun x => befB m.c m.r x.c x.r with
      | none => simp
      | some i => simp
theorem tells_ones {ms : List Mv} (hl : ms.length < 2 ^ 16) : iter rounds (law16_ReplayTells_l4 (eMvs ms)) [.int .i64 0] = some (if ms.all oneV = true then (0, []) else (1, [.bool true])) := by
  rw [iter_check (vs0 := [.int .i64 0]) (fun k => [IV.int .i64 (k : Int)]) (fun _ y => !oneV y) 1 [.bool true] 0 [] ms rfl (by have := rounds_eq; omega), anyI_any, any_not]
  · cases ms.all oneV <;> rfl
  · intro i x hx
    have hi : i < ms.length := (List.getElem?_eq_some_iff.1 hx).1
    unfold law16_ReplayTells_l4
    simp only [ilenL_lst, nth_zero, nth_one, nth_two, nth_three, nth_four, nth_five, ibin_lss, List.length_map, Int.ofNat_lt, hi, at_Mv hx, decide_true, icond_true, Option.bind_some, ref13_One_eq, iun_not, icond_bool, law16_live_eq, ibin_succ (show i < 2 ^ 62 by omega)]
    cases oneV x <;> rfl
  · unfold law16_ReplayTells_l4
    simp
theorem tells_count {L : List Mv} (hl : L.length < 2 ^ 16) (w : List IV) (hw : nth w 0 = eMvs L) (m : Mv) : iter rounds (law16_ReplayTells_l16 w (.int .i64 m.c) (.int .i64 m.r)) [.int .i64 0, .bool false, .int .i64 0] =
    some (0, [.int .i64 ((L.filter fun x => befB m.c m.r x.c x.r).length : Int), .bool (L.any (tmB m.c m.r))]) := by
  rw [iter_fold (vs0 := [.int .i64 0, .bool false, .int .i64 0]) (fun i (s : Nat × Bool) => [.int .i64 (s.1 : Int), .bool s.2, .int .i64 (i : Int)]) (fun s x => (if befB m.c m.r x.c x.r = true then s.1 + 1 else s.1, s.2 || tmB m.c m.r x)) 0 (fun s => [.int .i64 (s.1 : Int), .bool s.2]) (fun i s => s.1 ≤ i) L (0, false) rfl (by have := rounds_eq; omega) (Nat.le_refl _)]
  · have key : ∀ (L : List Mv) (a : Nat) (b : Bool), L.foldl (fun (s : Nat × Bool) x => (if befB m.c m.r x.c x.r = true then s.1 + 1 else s.1, s.2 || tmB m.c m.r x)) (a, b) = (a + (L.filter fun x => befB m.c m.r x.c x.r).length, b || L.any (tmB m.c m.r)) := by
      intro L
      induction L with
      | nil => intro a b; simp
      | cons x L ih =>
        intro a b
        rw [List.foldl_cons, ih]
        by_cases h : befB m.c m.r x.c x.r = true
        · simp [h, Bool.or_assoc]; omega
        · simp [h, Bool.or_assoc]
    rw [key]
    simp
  · intro i s x hx hI
    have hi : i < L.length := (List.getElem?_eq_some_iff.1 hx).1
    have hll : llen (eMvs L) = L.length := by simp [llen]
    have h2 : ildN (eMvs L) i 0 2 = some [.int .i64 x.c, .int .i64 x.r] := by
      simp only [ildN, List.getElem?_map, hx, Option.map_some, Option.bind_some, eMv, List.length_cons, List.length_nil]
      rw [if_pos (by decide)]
      rfl
    have he : ieqs .eql [.i, .i] [.int .i64 x.c, .int .i64 x.r] [.int .i64 m.c, .int .i64 m.r] = some (.bool (tmB m.c m.r x)) := by
      simp [ieqs, ieqL, ieq1, tmB, Bool.decide_and]
      rfl
    refine ⟨by dsimp only; split <;> omega, ?_⟩
    unfold law16_ReplayTells_l16
    rw [hw]
    simp only [nth_zero, nth_one, nth_two, hll, ibin_lss, Int.ofNat_lt, hi, decide_true, icond_true, Option.bind_some, ibidx_lt hi, h2, ref02_Before_eq, icond_bool, he, ibin_succ (show i < 2 ^ 62 by omega), ibin_succ (show s.1 < 2 ^ 62 by omega)]
    cases s.2 <;> by_cases hb : befB m.c m.r x.c x.r = true <;> simp [hb]
  · intro s _
    have hll : llen (eMvs L) = L.length := by simp [llen]
    unfold law16_ReplayTells_l16
    rw [hw]
    simp [hll]
set_option maxHeartbeats 2000000 in
theorem law16_ReplayTells_true (b : List Rw) (ms : List Mv) (m : Mv) (hob : OKl b) (hom : ∀ x ∈ ms, OKm x) (hm : OKm m) :
    law16_ReplayTells_s (eRws b) (eMvs ms) (.int .i64 m.c) (.int .i64 m.r) (.int .i64 m.par) (.int .i64 m.ch) (.str m.nm) (.flt .f64 m.rk) = some [.bool true] := by
  have hf1 : ref13_Few_s (eMvs ms) (.int .i64 40) = some [.bool (fewV ms 40)] := ref13_Few_eq (n := 40) (by decide)
  unfold law16_ReplayTells_s
  simp only [ilenL_lst, List.length_map, ibin_gtr, ref12_Few_eq, hf1, ref13_One_eq, law16_live_eq, Option.bind_some, nth_zero, iun_not, icond_bool, decide_eq_true_eq]
  by_cases h0 : (40 : Int) < (b.length : Int)
  · simp [h0]
  by_cases h1 : fewR b = true
  case neg => simp [h0, h1]
  by_cases h2 : fewV ms 40 = true
  case neg => simp [h0, h1, h2]
  have b1 := fewR_len h1
  have b2 := fewV_len h2
  have hmay := ref12_May_eq (l := b) (by omega)
  by_cases h3 : mayR b = true
  case neg => simp [h0, h1, h2, hmay, h3]
  by_cases h4 : oneV m = true
  case neg => simp [h0, h1, h2, hmay, h3, h4]
  simp only [h0, h1, h2, hmay, h3, h4, if_false, Bool.not_true, Bool.false_eq_true, Option.bind_some, nth_zero, iun_not, icond_false, tells_ones (show ms.length < 2 ^ 16 by omega), icond_bool, if_false]
  by_cases h5 : ms.all oneV = true
  case neg => simp [h5, sel]
  have hall := law16_all_eq (b := b) (ms := ms) hob hom (by omega)
  have hL := uniV_okm hom
  have hLl := uniV_len0 ms
  have hsort := uniV_sorted0 ms
  have hone : ∀ x ∈ uniV [] ms, oneV x = true := fun x hx => by
    rcases uniV_mem hx with hx | hx
    · simp at hx
    · exact List.all_eq_true.1 h5 x hx
  generalize uniV [] ms = L at *
  have hrl := allV_length L b
  have e1 : replay_Tree_Rows_s (.ptr [eRws b, eRws (allV b L), eStps (stepsV b L)] 0) = some [eRws (allV b L)] := replay_Rows_eq (b := b) (by omega)
  have hsl : (stepsV b L).length = L.length := stepsV_length _ _
  have e2 : replay_Tree_Log_s (.ptr [eRws b, eRws (allV b L), eStps (stepsV b L)] 0) = some [eMvs L] := by
    have := replay_Log_eq (b := b) (l := allV b L) (ss := stepsV b L) (by omega)
    rw [stepsV_mv] at this; exact this
  have e3 := tells_count (L := L) (by omega) [eMvs L] rfl m
  rw [count_behind hsort m] at e3
  have e4 := replay_Add_eq (b := b) (L := L) (m := m) hob hL hm (by omega)
  have hI := insV_okm' hL hm
  have hIl := insV_length L m
  have hIrl := allV_length (insV L m) b
  have hIsl : (stepsV b (insV L m)).length = (insV L m).length := stepsV_length _ _
  have e5 : replay_Tree_Rows_s (.ptr [eRws b, eRws (allV b (insV L m)), eStps (stepsV b (insV L m))] 0) = some [eRws (allV b (insV L m))] := replay_Rows_eq (b := b) (by omega)
  have e6 : replay_Tree_Log_s (.ptr [eRws b, eRws (allV b (insV L m)), eStps (stepsV b (insV L m))] 0) = some [eMvs (insV L m)] := by
    have := replay_Log_eq (b := b) (l := allV b (insV L m)) (ss := stepsV b (insV L m)) (by omega)
    rw [stepsV_mv] at this; exact this
  have e7 : replay_Tree_Steps_s (.ptr [eRws b, eRws (allV b (insV L m)), eStps (stepsV b (insV L m))] 0) = some [eStps (stepsV b (insV L m))] := replay_Steps_eq (b := b) (by omega)
  have hA := hob.allV hI
  have e8 := tree_May_eq (l := allV b (insV L m)) (by omega) hA
  have h6 : mayR (allV b (insV L m)) = true := mayR_allV h3 (fun x hx => by
    rcases insV_mem hx with rfl | hx
    · exact h4
    · exact hone x hx) (by omega)
  rw [h6] at e8
  have hat := atV_le L m
  have hal2 := hob.allV hL
  have s1 := ref12_Same_eq (a := allV b L) (b := allV b L) (by omega) hal2.fl hal2.fl
  simp only [sameR_refl] at s1
  have hsub : ((L.length - atV L m : Nat) : Int) = (L.length : Int) - (atV L m : Int) := by omega
  rw [hsub] at e3
  have hll : llen (eStps (stepsV b (insV L m))) = (insV L m).length := by simp [llen, hIsl]
  have hll2 : llen (eMvs (insV L m)) = (insV L m).length := by simp [llen]
  have hn : newV L m = !L.any (tmB m.c m.r) := rfl
  have hdr : ∀ a b' c d e : IV, ([a, b', c, d, e] : List IV).drop 3 = [d, e] := fun _ _ _ _ _ => rfl
  have hzz : ibin .neq (.int .i64 0) (.int .i64 0) = some (.bool false) := rfl
  have hee : ∀ n : Int, ibin .neq (.int .i64 n) (.int .i64 n) = some (.bool false) := fun n => by simp
  have hel : ∀ n : Int, ibin .eql (.int .i64 n) (.int .i64 n) = some (.bool true) := fun n => by simp
  simp only [h5, if_true, sel_zero, hall, Option.bind_some, nth_zero, nth_one, nth_two, e1, e2, e3, e4]
  cases hany : L.any (tmB m.c m.r) with
  | true =>
    rw [hany] at hn
    have hins : insV L m = L := by unfold insV; rw [if_pos hany]
    rw [hins] at e5 e6 e7 e8 hll hll2
    simp only [hn, hins, hdr, nth_zero, nth_one, nth_two, Bool.not_true, ibinB_eql, Option.bind_some, Bool.false_eq_true, if_false, icond_false, icond_bool, iun_not, if_true, hzz, e5, s1, e6, e7, e8, hll, hll2, hel, law16_live_eq, icond_true, scal_bool, scal_nil, Option.map_some, BEq.rfl, Bool.not_false, Bool.true_eq_false]
    simp
  | false =>
    rw [hany] at hn
    simp only [hn, hdr, nth_zero, nth_one, nth_two, Bool.not_false, ibinB_eql, Option.bind_some, Bool.false_eq_true, if_false, icond_false, icond_bool, iun_not, if_true, hee, e5, e6, e7, e8, hll, hll2, hel, law16_live_eq, icond_true, Bool.not_true, scal_bool, scal_nil, Option.map_some]
    simp
end Go.AM

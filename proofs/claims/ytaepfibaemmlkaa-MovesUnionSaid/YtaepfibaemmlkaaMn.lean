/- Moves, plainly: the laws of many. -/
import Derived.Test.YtaepfibaemmlkaaMm
set_option linter.unusedVariables false
set_option linter.unusedSimpArgs false
namespace Go.AM

/-- Are two of one time unlike? -/
def clashB (l : List Mv) : Bool := anyI (fun i x => (l.take i).any fun y => decide (x.c = y.c ∧ x.r = y.r) && !decide (keyV x = keyV y)) l 0
theorem no_clash {l : List Mv} (h : clashB l = false) : ∀ x ∈ l, ∀ y ∈ l, x.c = y.c → x.r = y.r → keyV x = keyV y := by
  have key : ∀ (i j : Nat) (x y : Mv), l[i]? = some x → l[j]? = some y → j < i → x.c = y.c → x.r = y.r → keyV x = keyV y := fun i j x y hx hy hj hc hr => by
    have := anyI_false.1 h i x hx
    rw [Nat.zero_add, List.any_eq_false] at this
    have hm : y ∈ l.take i := List.mem_of_getElem? (by rw [List.getElem?_take_of_lt hj]; exact hy)
    have h2 := this y hm
    by_cases hk : keyV x = keyV y
    · exact hk
    · exact absurd (by simp [hc, hr, hk]) h2
  intro x hx y hy hc hr
  obtain ⟨i, hi⟩ := List.getElem?_of_mem hx
  obtain ⟨j, hj⟩ := List.getElem?_of_mem hy
  rcases Nat.lt_trichotomy i j with h1 | h1 | h1
  · exact (key j i y x hj hi h1 hc.symm hr.symm).symm
  · subst h1; rw [hi] at hj; cases hj; rfl
  · exact key i j x y hi hj h1 hc hr
theorem getK_of_mem {l : List Mv} (hn : ∀ x ∈ l, ∀ y ∈ l, x.c = y.c → x.r = y.r → keyV x = keyV y) {x : Mv} (hx : x ∈ l) : getK l x.c x.r = some (keyV x) := by
  cases h : getK l x.c x.r with
  | none => exact absurd ⟨rfl, rfl⟩ (getK_none.1 h x hx)
  | some k =>
    obtain ⟨y, hy, h1, h2, h3⟩ := getK_some h
    rw [← h3, hn y hy x hx h1 h2]

theorem clash_inner {l : List Mv} (hl : l.length < 2 ^ 16) (hf : FlOK l) {i : Nat} {x : Mv} (hx : l[i]? = some x) :
    iter rounds (law13_MovesOrder_l7 [.int .i64 (i : Int)] (eMvs l)) [.int .i64 0] = some (if ((l.take i).any fun y => decide (x.c = y.c ∧ x.r = y.r) && !decide (keyV x = keyV y)) = true then (1, [.bool true]) else (0, [])) := by
  have hi : i < l.length := (List.getElem?_eq_some_iff.1 hx).1
  have htl : (l.take i).length = i := by simp; omega
  rw [iter_check (vs0 := [.int .i64 0]) (fun k => [IV.int .i64 (k : Int)]) (fun _ y => decide (x.c = y.c ∧ x.r = y.r) && !decide (keyV x = keyV y)) 1 [.bool true] 0 [] (l.take i) rfl (by have := rounds_eq; omega), anyI_any]
  · intro k y hy
    have hk : k < i := by have := (List.getElem?_eq_some_iff.1 hy).1; omega
    rw [List.getElem?_take_of_lt hk] at hy
    have ha := ref13_Alike_eq (hf x (List.mem_of_getElem? hx)) (hf y (List.mem_of_getElem? hy))
    unfold law13_MovesOrder_l7
    simp only [nth_zero, nth_one, nth_two, nth_three, nth_four, nth_five, ibin_lss, Int.ofNat_lt, hk, decide_true, icond_true, Option.bind_some, at_Mv hx, at_Mv hy, ieqs, ieqL, ieq1, if_true, Option.map_some, Bool.and_true, ha, iun_not, icond_bool, law13_live_eq, ibin_succ (show k < 2 ^ 62 by omega)]
    by_cases h1 : x.c = y.c <;> by_cases h2 : x.r = y.r <;> by_cases h3 : keyV x = keyV y <;> simp [h1, h2, h3]
  · rw [htl]
    unfold law13_MovesOrder_l7
    simp
theorem clash_loop {l : List Mv} (hl : l.length < 2 ^ 16) (hf : FlOK l) :
    iter rounds (law13_MovesOrder_l4 (eMvs l)) [.int .i64 0] = some (if clashB l = true then (1, [.bool true]) else (0, [])) := by
  rw [iter_check (vs0 := [.int .i64 0]) (fun k => [IV.int .i64 (k : Int)]) (fun i x => (l.take i).any fun y => decide (x.c = y.c ∧ x.r = y.r) && !decide (keyV x = keyV y)) 1 [.bool true] 0 [] l rfl (by have := rounds_eq; omega)]
  · rfl
  · intro i x hx
    have hi : i < l.length := (List.getElem?_eq_some_iff.1 hx).1
    unfold law13_MovesOrder_l4
    simp only [ilenL_lst, nth_zero, ibin_lss, List.length_map, Int.ofNat_lt, hi, decide_true, icond_true, Option.bind_some, clash_inner hl hf hx, ibin_succ (show i < 2 ^ 62 by omega)]
    cases (l.take i).any fun y => decide (x.c = y.c ∧ x.r = y.r) && !decide (keyV x = keyV y) <;> rfl
  · unfold law13_MovesOrder_l4
    simp
/-- What comes in by places. -/
def stepP (l : List Mv) (s : List Mv) (p : Int) : List Mv := if 0 ≤ p then (match l[p.toNat]? with | some m => insV s m | none => s) else s
theorem stepP_len (l s : List Mv) (p : Int) : (stepP l s p).length ≤ s.length + 1 := by
  unfold stepP
  split
  · split
    · exact insV_length _ _
    · omega
  · omega
theorem stepP_fold {l : List Mv} (hf : FlOK l) : ∀ (ps : List Int) (s : List Mv), SortedV s → FlOK s → (∀ m ∈ s, m ∈ l) → SortedV (ps.foldl (stepP l) s) ∧ FlOK (ps.foldl (stepP l) s) ∧ (∀ m ∈ ps.foldl (stepP l) s, m ∈ l) ∧ (ps.foldl (stepP l) s).length ≤ s.length + ps.length
  | [], s, h1, h2, h3 => ⟨h1, h2, h3, by simp⟩
  | p :: ps, s, h1, h2, h3 => by
    have hs := stepP_len l s p
    have g : SortedV (stepP l s p) ∧ FlOK (stepP l s p) ∧ ∀ m ∈ stepP l s p, m ∈ l := by
      unfold stepP
      split
      · split
        · rename_i m hm
          have hml := List.mem_of_getElem? hm
          exact ⟨insV_sorted h1, insV_fl h2 (hf m hml), fun x hx => by
            rcases insV_mem hx with rfl | hx
            · exact hml
            · exact h3 x hx⟩
        · exact ⟨h1, h2, h3⟩
      · exact ⟨h1, h2, h3⟩
    obtain ⟨a, b, c, d⟩ := stepP_fold hf ps (stepP l s p) g.1 g.2.1 g.2.2
    refine ⟨a, b, c, ?_⟩
    simp only [List.foldl_cons, List.length_cons] at d ⊢
    omega
theorem places_loop {l : List Mv} (hl : l.length < 2 ^ 15) {ps : List Int} (hps : ps.length < 2 ^ 15) :
    iter rounds (law13_MovesOrder_l13 (eInts ps) (eMvs l)) [.lst [], .int .i64 0] = some (0, [eMvs (ps.foldl (stepP l) [])]) := by
  rw [iter_fold (vs0 := [.lst [], .int .i64 0]) (fun i (v : List Mv) => [eMvs v, .int .i64 (i : Int)]) (stepP l) 0 (fun v => [eMvs v]) (fun i v => v.length ≤ i) ps [] rfl (by have := rounds_eq; omega) (by simp)]
  · intro i s p hp hI
    have hi : i < ps.length := (List.getElem?_eq_some_iff.1 hp).1
    have hs := stepP_len l s p
    refine ⟨by omega, ?_⟩
    unfold law13_MovesOrder_l13
    simp only [ilenL_lst, nth_zero, nth_one, ibin_lss, ibin_geq, List.length_map, Int.ofNat_lt, at_Int hp, decide_true, icond_true, Option.bind_some, icond_dec, ibin_succ (show i < 2 ^ 62 by omega)]
    unfold stepP
    by_cases h0 : 0 ≤ p
    · obtain ⟨k, rfl⟩ : ∃ k : Nat, p = (k : Int) := ⟨p.toNat, by omega⟩
      by_cases hk : k < l.length
      · have hm : l[k]? = some l[k] := List.getElem?_eq_getElem hk
        generalize l[k] = m at hm
        simp only [h0, if_true, Int.ofNat_lt, hk, decide_true, Option.bind_some, nth_zero, icond_true, at_Mv hm, nth_one, nth_two, nth_three, nth_four, nth_five, moves_Insert_eq (show s.length < 2 ^ 16 by omega), Int.toNat_natCast, hm]
      · have hm : l[k]? = none := List.getElem?_eq_none (by omega)
        simp only [h0, if_true, Int.ofNat_lt, hk, decide_false, Option.bind_some, nth_zero, icond_false, Int.toNat_natCast, hm]
    · simp only [h0, if_false, Option.bind_some, nth_zero, icond_false]
  · intro s _
    unfold law13_MovesOrder_l13
    simp
theorem order_loop {a : List Mv} (hl : a.length < 2 ^ 16) (hs : SortedV a) (w : List IV) (hw : nth w 0 = eMvs a) : iter rounds (law13_MovesOrder_l20 w) [.int .i64 1] = some (0, []) := by
  by_cases h0 : a = []
  · subst h0
    have : law13_MovesOrder_l20 w [.int .i64 1] = some (.done 0 []) := by unfold law13_MovesOrder_l20; rw [hw]; simp
    exact iter_done 999999 this
  · have hpos : 1 ≤ a.length := by cases a with | nil => exact absurd rfl h0 | cons x l => simp
    have hloop := iter_check_from (f := law13_MovesOrder_l20 w) (fun i => [IV.int .i64 (i : Int)]) (fun i x => !befV (a.getD (i - 1) x) x) 1 [.bool false] 0 [] a 1 hpos (by have := rounds_eq; omega) (fun i x hi1 hx => by
      have hi : i < a.length := (List.getElem?_eq_some_iff.1 hx).1
      have hp : a[i - 1]? = some (a.getD (i - 1) x) := by
        rw [List.getD_eq_getElem?_getD, List.getElem?_eq_getElem (by omega)]; rfl
      unfold law13_MovesOrder_l20
      rw [hw]
      simp only [ilenL_lst, nth_zero, nth_one, ibin_lss, List.length_map, Int.ofNat_lt, at_Mv hx, decide_true, icond_true, Option.bind_some, ibin_pred (show i < 2 ^ 62 by omega) (show 0 < i by omega), at_Mv hp, ref02_Before_eq, iun_not, icond_bool, ibin_succ (show i < 2 ^ 62 by omega), befV, if_true]
      by_cases hb : befB (a.getD (i - 1) x).c (a.getD (i - 1) x).r x.c x.r = true <;> simp only [hb, Bool.not_true, Bool.not_false, if_true, if_false, Bool.false_eq_true]) (by unfold law13_MovesOrder_l20; rw [hw]; simp)
    rw [adj_drop, adj_sorted.2 hs] at hloop
    exact hloop
theorem law13_MovesOrder_true (l : List Mv) (ps : List Int) (hl : FlOK l) : law13_MovesOrder_s (eMvs l) (eInts ps) = some [.bool true] := by
  unfold law13_MovesOrder_s
  rw [show IV.int .i64 40 = .int .i64 ((40 : Nat) : Int) from rfl, ref13_Few_eq (by decide)]
  simp only [Option.bind_some, nth_zero, iun_not, law13_live_eq, icond_bool, scal_bool, scal_nil, Option.map_some, Bool.not_eq_true', ilenL_lst, ibin_gtr, List.length_map, decide_eq_true_eq]
  by_cases h1 : fewV l 40 = true
  case neg => simp [h1]
  by_cases h2 : (80 : Int) < (ps.length : Int)
  · simp [h1, h2]
  have n1 := fewV_len h1
  simp only [h1, h2, Bool.true_eq_false, if_false, Option.bind_some, nth_zero, icond_bool, Bool.false_eq_true, clash_loop (show l.length < 2 ^ 16 by omega) hl, decide_false]
  by_cases hc : clashB l = true
  · simp only [hc, if_true, Option.bind_some, sel_one, nth_zero, scal_bool, scal_nil, Option.map_some]
  · rw [Bool.not_eq_true] at hc
    have hnc := no_clash hc
    obtain ⟨s1, s2, s3, s4⟩ := stepP_fold hl ps [] List.Pairwise.nil (fun m hm => by simp at hm) (fun m hm => by simp at hm)
    simp only [hc, Bool.false_eq_true, if_false, Option.bind_some, sel_zero, places_loop (show l.length < 2 ^ 15 by omega) (show ps.length < 2 ^ 15 by omega), nth_zero]
    generalize ps.foldl (stepP l) [] = F at s1 s2 s3 s4 ⊢
    simp only [List.length_nil, Nat.zero_add] at s4
    have u1 := uniV_length l F
    have u2 := uniV_length l []
    have u3 := uniV_length F (uniV [] l)
    simp only [List.length_nil, Nat.zero_add] at u2
    have f1 := uniV_fl s2 hl
    have f2 := uniV_fl (a := []) (fun m hm => by simp at hm) hl
    have f3 := uniV_fl f2 s2
    have o1 := uniV_sorted (b := l) s1
    have o2 : SortedV (uniV [] l) := uniV_sorted List.Pairwise.nil
    have o3 := uniV_sorted (b := F) o2
    have g0 : ∀ c r, getK ([] : List Mv) c r = none := fun c r => rfl
    have gF : ∀ c r k, getK F c r = some k → getK l c r = some k := fun c r k h => by
      obtain ⟨x, hx, rfl, rfl, rfl⟩ := getK_some h
      exact getK_of_mem hnc (s3 x hx)
    have e1 : (uniV F l).map keyV = (uniV [] l).map keyV := key_ext o1 o2 fun c r => by
      rw [getK_uni, getK_uni, g0]
      cases h : getK F c r with
      | none => rfl
      | some k => rw [gF c r k h]; rfl
    have e2 : (uniV (uniV [] l) F).map keyV = (uniV [] l).map keyV := key_ext o3 o2 fun c r => by
      rw [getK_uni, getK_uni, g0]
      cases h : getK l c r with
      | some k => rfl
      | none =>
        cases h2 : getK F c r with
        | none => rfl
        | some k => rw [gF c r k h2] at h; cases h
    have e4' : IV.lst [] = eMvs [] := rfl
    rw [e4']
    simp only [moves_Union_eq (show F.length < 2 ^ 15 by omega) (show l.length < 2 ^ 15 by omega), moves_Union_eq (show ([] : List Mv).length < 2 ^ 15 by simp) (show l.length < 2 ^ 15 by omega), Option.bind_some, order_loop (show (uniV F l).length < 2 ^ 16 by omega) o1 [eMvs (uniV F l)] rfl, sel_zero, nth_zero, ref13_Same_eq (show (uniV F l).length < 2 ^ 16 by omega) f1 f2, sameV, e1, decide_true, icond_true,
      moves_Union_eq (show (uniV [] l).length < 2 ^ 15 by omega) (show F.length < 2 ^ 15 by omega), ref13_Same_eq (show (uniV (uniV [] l) F).length < 2 ^ 16 by omega) f3 f2, e2, scal_bool, scal_nil, Option.map_some, if_true]

/-! ### Those since a time -/
theorem since_drop {l : List Mv} (h : SortedV l) (c r : Int) : sinV l c r = l.drop (l.length - (sinV l c r).length) ∧ ∀ i x, l[i]? = some x → (befB c r x.c x.r = decide (l.length - (sinV l c r).length ≤ i)) := by
  induction l with
  | nil => exact ⟨rfl, fun i x hx => by simp at hx⟩
  | cons y l ih =>
    obtain ⟨h1, h2⟩ := List.pairwise_cons.1 h
    obtain ⟨i1, i2⟩ := ih h2
    have hle : (sinV l c r).length ≤ l.length := List.length_filter_le _ _
    by_cases hy : befB c r y.c y.r = true
    · have hall : sinV l c r = l := List.filter_eq_self.2 fun x hx => by
        have := h1 x hx
        rw [befV_iff] at this
        rw [befB_iff] at hy ⊢
        omega
      have hs : sinV (y :: l) c r = y :: l := by
        show List.filter _ _ = _
        rw [List.filter_cons, if_pos hy]
        congr 1
      rw [hs]
      refine ⟨by simp, fun i x hx => ?_⟩
      have : befB c r x.c x.r = true := by
        rcases List.mem_cons.1 (List.mem_of_getElem? hx) with rfl | hm
        · exact hy
        · have := h1 x hm
          rw [befV_iff] at this
          rw [befB_iff] at hy ⊢
          omega
      rw [this]; simp
    · have hs : sinV (y :: l) c r = sinV l c r := by
        show List.filter _ _ = _
        rw [List.filter_cons, if_neg hy]
        rfl
      rw [hs]
      have e : (y :: l).length - (sinV l c r).length = (l.length - (sinV l c r).length) + 1 := by simp; omega
      rw [e]
      refine ⟨by rw [List.drop_succ_cons]; exact i1, fun i x hx => ?_⟩
      cases i with
      | zero =>
        cases hx
        simp only [Bool.not_eq_true] at hy
        rw [hy]; simp
      | succ i =>
        rw [i2 i x (by simpa using hx)]
        exact decide_eq_decide.2 (by omega)
theorem law13_MovesSince_true (l : List Mv) (c r : Int) (hl : FlOK l) : law13_MovesSince_s (eMvs l) (.int .i64 c) (.int .i64 r) = some [.bool true] := by
  unfold law13_MovesSince_s
  rw [show IV.int .i64 60 = .int .i64 ((60 : Nat) : Int) from rfl, ref13_Few_eq (by decide)]
  simp only [Option.bind_some, nth_zero, iun_not, law13_live_eq, icond_bool, scal_bool, scal_nil, Option.map_some, Bool.not_eq_true', ref13_May_eq]
  by_cases h1 : fewV l 60 = true
  case neg => simp [h1]
  by_cases h2 : mayV l = true
  case neg => simp [h1, h2]
  have n1 := fewV_len h1
  obtain ⟨_, _, hs⟩ := mayV_parts.1 h2
  obtain ⟨d1, d2⟩ := since_drop hs c r
  have hle : (sinV l c r).length ≤ l.length := List.length_filter_le _ _
  have hfs : FlOK (sinV l c r) := fun m hm => hl m (List.mem_filter.1 hm).1
  obtain ⟨k, hk⟩ : ∃ k, k = l.length - (sinV l c r).length := ⟨_, rfl⟩
  rw [← hk] at d1 d2
  have hsub : ibin .sub (.int .i64 (l.length : Int)) (.int .i64 ((sinV l c r).length : Int)) = some (.int .i64 (k : Int)) := by
    rw [ibin_sub (by omega) (by omega)]; congr 2; omega
  have hkl : k ≤ l.length := by omega
  have hft : FlOK (l.take k) := fun m hm => hl m (List.mem_of_mem_take hm)
  have htl : (l.take k).length = k := by simp; omega
  have hu := uniV_length (sinV l c r) (l.take k)
  have hfu := uniV_fl hft hfs
  have g1 : ¬ ((k : Int) < 0) := by omega
  have ho : SortedV (uniV (l.take k) (sinV l c r)) := uniV_sorted (List.Pairwise.sublist (List.take_sublist k l) hs)
  have e1 : (uniV (l.take k) (sinV l c r)).map keyV = l.map keyV := key_ext ho hs fun c' r' => by
    rw [getK_uni, d1, ← getK_append, List.take_append_drop]
  have hsame : sameV (l.drop k) (sinV l c r) = true := by unfold sameV; rw [← d1]; exact decide_eq_true rfl
  have hfd : FlOK (l.drop k) := fun m hm => hl m (List.mem_of_mem_drop hm)
  simp only [h1, h2, Bool.true_eq_false, if_false, Option.bind_some, nth_zero, icond_bool, Bool.false_eq_true, Bool.not_true, moves_Since_eq (show l.length < 2 ^ 16 by omega), ilenL_lst, List.length_map, hsub, ibin_lss, g1, decide_false, islcL_lo hkl, ref13_Same_eq (show (l.drop k).length < 2 ^ 16 by simp; omega) hfd hfs, hsame, iun_not]
  rw [iter_check (vs0 := [.int .i64 0]) (fun i => [IV.int .i64 (i : Int)]) (fun _ _ => false) 1 [.bool false] 0 [] l rfl (by have := rounds_eq; omega), anyI_any]
  · have hno : (l.any fun _ => false) = false := by simp
    simp only [hno, Bool.false_eq_true, if_false, Option.bind_some, sel_zero, islcL_hi hkl, moves_Union_eq (show (l.take k).length < 2 ^ 15 by omega) (show (sinV l c r).length < 2 ^ 15 by omega), nth_zero, ref13_Same_eq (show (uniV (l.take k) (sinV l c r)).length < 2 ^ 16 by omega) hfu hl, sameV, e1, decide_true, if_true, icond_true, scal_bool, scal_nil, Option.map_some]
  · intro i x hx
    have hi : i < l.length := (List.getElem?_eq_some_iff.1 hx).1
    have hd := d2 i x hx
    unfold law13_MovesSince_l8
    simp only [ilenL_lst, nth_zero, nth_one, ibin_lss, ibin_geq, List.length_map, Int.ofNat_lt, Int.ofNat_le, at_Mv hx, decide_true, icond_true, Option.bind_some, ref02_Before_eq, hd, ibinB_neq, beq_self_eq_true, Bool.not_true, icond_false, ibin_succ (show i < 2 ^ 62 by omega), Bool.false_eq_true, if_false]
  · unfold law13_MovesSince_l8
    simp

/-! ### Three lists together -/
theorem clash_inner2 {l : List Mv} (hl : l.length < 2 ^ 16) (hf : FlOK l) {i : Nat} {x : Mv} (hx : l[i]? = some x) :
    iter rounds (law13_MovesUnion_l8 [.int .i64 (i : Int)] (eMvs l)) [.int .i64 0] = some (if ((l.take i).any fun y => decide (x.c = y.c ∧ x.r = y.r) && !decide (keyV x = keyV y)) = true then (1, [.bool true]) else (0, [])) := by
  have hi : i < l.length := (List.getElem?_eq_some_iff.1 hx).1
  have htl : (l.take i).length = i := by simp; omega
  rw [iter_check (vs0 := [.int .i64 0]) (fun k => [IV.int .i64 (k : Int)]) (fun _ y => decide (x.c = y.c ∧ x.r = y.r) && !decide (keyV x = keyV y)) 1 [.bool true] 0 [] (l.take i) rfl (by have := rounds_eq; omega), anyI_any]
  · intro k y hy
    have hk : k < i := by have := (List.getElem?_eq_some_iff.1 hy).1; omega
    rw [List.getElem?_take_of_lt hk] at hy
    have ha := ref13_Alike_eq (hf x (List.mem_of_getElem? hx)) (hf y (List.mem_of_getElem? hy))
    unfold law13_MovesUnion_l8
    simp only [llen_lst, List.length_map, nth_zero, nth_one, nth_two, nth_three, nth_four, nth_five, ibin_lss, Int.ofNat_lt, hk, decide_true, icond_true, Option.bind_some, at_Mv hx, at_Mv hy, ieqs, ieqL, ieq1, if_true, Option.map_some, Bool.and_true, ha, iun_not, icond_bool, law13_live_eq, ibin_succ (show k < 2 ^ 62 by omega)]
    by_cases h1 : x.c = y.c <;> by_cases h2 : x.r = y.r <;> by_cases h3 : keyV x = keyV y <;> simp [h1, h2, h3]
  · rw [htl]
    unfold law13_MovesUnion_l8
    simp
theorem clash_loop2 {l : List Mv} (hl : l.length < 2 ^ 16) (hf : FlOK l) :
    iter rounds (law13_MovesUnion_l5 (eMvs l)) [.int .i64 0] = some (if clashB l = true then (1, [.bool true]) else (0, [])) := by
  rw [iter_check (vs0 := [.int .i64 0]) (fun k => [IV.int .i64 (k : Int)]) (fun i x => (l.take i).any fun y => decide (x.c = y.c ∧ x.r = y.r) && !decide (keyV x = keyV y)) 1 [.bool true] 0 [] l rfl (by have := rounds_eq; omega)]
  · rfl
  · intro i x hx
    have hi : i < l.length := (List.getElem?_eq_some_iff.1 hx).1
    unfold law13_MovesUnion_l5
    simp only [llen_lst, nth_zero, ibin_lss, List.length_map, Int.ofNat_lt, hi, decide_true, icond_true, Option.bind_some, clash_inner2 hl hf hx, ibin_succ (show i < 2 ^ 62 by omega)]
    cases (l.take i).any fun y => decide (x.c = y.c ∧ x.r = y.r) && !decide (keyV x = keyV y) <;> rfl
  · unfold law13_MovesUnion_l5
    simp
theorem law13_MovesUnion_true (a b c : List Mv) (ha : FlOK a) (hb : FlOK b) (hc : FlOK c) : law13_MovesUnion_s (eMvs a) (eMvs b) (eMvs c) = some [.bool true] := by
  unfold law13_MovesUnion_s
  rw [show IV.int .i64 20 = .int .i64 ((20 : Nat) : Int) from rfl, ref13_Few_eq (by decide), ref13_Few_eq (by decide), ref13_Few_eq (by decide)]
  simp only [Option.bind_some, nth_zero, iun_not, law13_live_eq, icond_bool, scal_bool, scal_nil, Option.map_some, Bool.not_eq_true', ref13_May_eq]
  by_cases h1 : fewV a 20 = true
  case neg => simp [h1]
  by_cases h2 : fewV b 20 = true
  case neg => simp [h1, h2]
  by_cases h3 : fewV c 20 = true
  case neg => simp [h1, h2, h3]
  by_cases h4 : mayV a = true
  case neg => simp [h1, h2, h3, h4]
  by_cases h5 : mayV b = true
  case neg => simp [h1, h2, h3, h4, h5]
  by_cases h6 : mayV c = true
  case neg => simp [h1, h2, h3, h4, h5, h6]
  have na := fewV_len h1
  have nb := fewV_len h2
  have nc := fewV_len h3
  have e4' : IV.lst [] = eMvs [] := rfl
  have hfall : FlOK (a ++ b ++ c) := fun m hm => by
    rcases List.mem_append.1 hm with hm | hm
    · rcases List.mem_append.1 hm with hm | hm
      · exact ha m hm
      · exact hb m hm
    · exact hc m hm
  have hlall : (a ++ b ++ c).length < 2 ^ 16 := by simp; omega
  have hi0 : iapp 6 56 (.lst []) (eMvs a) = some (eMvs a) := by rw [e4', iapp_Mv (by simp) (by omega), List.nil_append]
  have hi1 : iapp 6 56 (eMvs a) (eMvs b) = some (eMvs (a ++ b)) := iapp_Mv (by omega) (by omega)
  have hi2 : iapp 6 56 (eMvs (a ++ b)) (eMvs c) = some (eMvs (a ++ b ++ c)) := iapp_Mv (by simp; omega) (by omega)
  simp only [h1, h2, h3, h4, h5, h6, Bool.true_eq_false, if_false, Option.bind_some, nth_zero, icond_bool, Bool.false_eq_true, Bool.not_true, hi0, hi1, hi2, clash_loop2 hlall hfall]
  by_cases hcl : clashB (a ++ b ++ c) = true
  · simp only [hcl, if_true, Option.bind_some, sel_one, nth_zero, scal_bool, scal_nil, Option.map_some]
  rw [Bool.not_eq_true] at hcl
  have hnc := no_clash hcl
  simp only [hcl, Bool.false_eq_true, if_false, Option.bind_some, sel_zero, nth_zero]
  obtain ⟨_, a2, a3⟩ := mayV_parts.1 h4
  obtain ⟨_, b2, b3⟩ := mayV_parts.1 h5
  obtain ⟨_, c2, c3⟩ := mayV_parts.1 h6
  have l1 := uniV_length b a
  have l2 := uniV_length c (uniV a b)
  have l3 := uniV_length c b
  have l4 := uniV_length (uniV b c) a
  have l5 := uniV_length a b
  have l6 := uniV_length (uniV b a) c
  have fx := uniV_fl (uniV_fl ha hb) hc
  have fy := uniV_fl ha (uniV_fl hb hc)
  have fz := uniV_fl hc (uniV_fl hb ha)
  have ox := uniV_sorted (b := c) (uniV_sorted (b := b) a3)
  have oy := uniV_sorted (b := uniV b c) a3
  have oz := uniV_sorted (b := uniV b a) c3
  have memA : ∀ {m : Mv}, m ∈ a → m ∈ a ++ b ++ c := fun h => List.mem_append_left _ (List.mem_append_left _ h)
  have memB : ∀ {m : Mv}, m ∈ b → m ∈ a ++ b ++ c := fun h => List.mem_append_left _ (List.mem_append_right _ h)
  have memC : ∀ {m : Mv}, m ∈ c → m ∈ a ++ b ++ c := fun h => List.mem_append_right _ h
  have compat : ∀ {p q : List Mv}, (∀ m ∈ p, m ∈ a ++ b ++ c) → (∀ m ∈ q, m ∈ a ++ b ++ c) → ∀ c' r' k k', getK p c' r' = some k → getK q c' r' = some k' → k = k' := fun hp hq c' r' k k' e1 e2 => by
    obtain ⟨x, hx, x1, x2, rfl⟩ := getK_some e1
    obtain ⟨y, hy, y1, y2, rfl⟩ := getK_some e2
    exact hnc x (hp x hx) y (hq y hy) (by omega) (by omega)
  have kx : ∀ c' r', getK (uniV (uniV a b) c) c' r' = ((getK a c' r').or (getK b c' r')).or (getK c c' r') := fun c' r' => by rw [getK_uni, getK_uni]
  have exy : (uniV (uniV a b) c).map keyV = (uniV a (uniV b c)).map keyV := key_ext ox oy fun c' r' => by
    rw [kx, getK_uni, getK_uni, Option.or_assoc]
  have exz : (uniV (uniV a b) c).map keyV = (uniV c (uniV b a)).map keyV := key_ext ox oz fun c' r' => by
    rw [kx, getK_uni, getK_uni]
    cases e1 : getK a c' r' with
    | none => cases e2 : getK b c' r' with
      | none => cases e3 : getK c c' r' <;> rfl
      | some k2 => cases e3 : getK c c' r' with
        | none => rfl
        | some k3 => rw [compat (fun m => memB) (fun m => memC) c' r' k2 k3 e2 e3]; rfl
    | some k1 => cases e2 : getK b c' r' with
      | none => cases e3 : getK c c' r' with
        | none => rfl
        | some k3 => rw [compat (fun m => memA) (fun m => memC) c' r' k1 k3 e1 e3]; rfl
      | some k2 => cases e3 : getK c c' r' with
        | none => rw [compat (fun m => memA) (fun m => memB) c' r' k1 k2 e1 e2]; rfl
        | some k3 => rw [compat (fun m => memA) (fun m => memC) c' r' k1 k3 e1 e3]; rfl
  have mx : ∀ {m : Mv}, m ∈ uniV (uniV a b) c → m ∈ a ++ b ++ c := fun h => by
    rcases uniV_mem h with h | h
    · rcases uniV_mem h with h | h
      · exact memA h
      · exact memB h
    · exact memC h
  have hmayx : mayV (uniV (uniV a b) c) = true := mayV_parts.2 ⟨by omega, fun m hm => by
    rcases uniV_mem hm with h | h
    · rcases uniV_mem h with h | h
      · exact a2 m h
      · exact b2 m h
    · exact c2 m h, ox⟩
  have hallx : ∀ m ∈ a ++ b ++ c, (uniV (uniV a b) c).any (tmB m.c m.r) = true := fun m hm => by
    rw [any_tm]
    cases e : getK (uniV (uniV a b) c) m.c m.r with
    | some k => obtain ⟨x, hx, x1, x2, _⟩ := getK_some e; exact ⟨x, hx, x1, x2⟩
    | none =>
      exfalso
      rw [kx] at e
      have e' : getK (a ++ b ++ c) m.c m.r = none := by rw [getK_append, getK_append]; exact e
      exact getK_none.1 e' m hm ⟨rfl, rfl⟩
  simp only [moves_Union_eq (show a.length < 2 ^ 15 by omega) (show b.length < 2 ^ 15 by omega), moves_Union_eq (show (uniV a b).length < 2 ^ 15 by omega) (show c.length < 2 ^ 15 by omega), moves_Union_eq (show b.length < 2 ^ 15 by omega) (show c.length < 2 ^ 15 by omega), moves_Union_eq (show a.length < 2 ^ 15 by omega) (show (uniV b c).length < 2 ^ 15 by omega),
    moves_Union_eq (show b.length < 2 ^ 15 by omega) (show a.length < 2 ^ 15 by omega), moves_Union_eq (show c.length < 2 ^ 15 by omega) (show (uniV b a).length < 2 ^ 15 by omega), Option.bind_some, nth_zero]
  generalize hX : uniV (uniV a b) c = X at *
  rw [iter_check (vs0 := [.int .i64 0]) (fun i => [IV.int .i64 (i : Int)]) (fun _ _ => false) 1 [.bool false] 0 [] (a ++ b ++ c) rfl (by have := rounds_eq; omega), anyI_any]
  · have hno : ((a ++ b ++ c).any fun _ => false) = false := by simp
    simp only [hno, Bool.false_eq_true, if_false, Option.bind_some, sel_zero, moves_May_eq (show X.length < 2 ^ 16 by omega), hmayx, nth_zero, icond_true, ref13_Same_eq (show X.length < 2 ^ 16 by omega) fx fy, ref13_Same_eq (show X.length < 2 ^ 16 by omega) fx fz, sameV, ← exy, ← exz, decide_true, if_true, scal_bool, scal_nil, Option.map_some]
  · intro i m hm
    have hi : i < (a ++ b ++ c).length := (List.getElem?_eq_some_iff.1 hm).1
    have hmm := List.mem_of_getElem? hm
    have hany := hallx m hmm
    have hins : insV X m = X := by unfold insV; rw [hany]; rfl
    have hnew : newV X m = false := by unfold newV; rw [hany]; rfl
    obtain ⟨_, x, e2, e3, e4, _⟩ := posV_again (l := X) (m := m)
    rw [hins] at e2
    have hlt : posV X m < X.length := (List.getElem?_eq_some_iff.1 e2).1
    have g1 : ¬ ((posV X m : Int) < 0) := by omega
    have g2 : ¬ ((X.length : Int) ≤ (posV X m : Int)) := by omega
    have hkey : keyV x = keyV m := hnc x (mx (List.mem_of_getElem? e2)) m hmm e3 e4
    have hal := ref13_Alike_eq (fx x (List.mem_of_getElem? e2)) (hfall m hmm)
    rw [decide_eq_true hkey] at hal
    have hla : (a ++ b ++ c).length < 2 ^ 62 := by omega
    unfold law13_MovesUnion_l16
    generalize a ++ b ++ c = A at *
    simp only [llen_lst, nth_zero, nth_one, nth_two, nth_three, nth_four, nth_five, ibin_lss, ibin_geq, List.length_map, Int.ofNat_lt, at_Mv hm, decide_true, icond_true, Option.bind_some, moves_Insert_eq (show X.length < 2 ^ 16 by omega), hnew, icond_false, g1, decide_false, ilenL_lst, g2, at_Mv e2, hal, iun_not, Bool.not_true, ibin_succ (show i < 2 ^ 62 by omega), Bool.false_eq_true, if_false]
  · unfold law13_MovesUnion_l16
    generalize a ++ b ++ c = A at *
    simp
end Go.AM

/- A replay's tree, plainly: ReplayOrder. -/
import Derived.Test.YtmmacbkganjkbaaReE
import Derived.Test.YtmmacbkganjkbaaMv
set_option linter.unusedVariables false
set_option linter.unusedSimpArgs false
namespace Go.AM

/-! ### Rows that are alike, moves that are alike -/
theorem findIdx_key (c : Int) : ∀ {l k : List Rw}, l.map keyR = k.map keyR → l.findIdx? (isC c) = k.findIdx? (isC c)
  | [], [], _ => rfl
  | [], _ :: _, h => by simp at h
  | _ :: _, [], h => by simp at h
  | x :: l, y :: k, h => by
    simp only [List.map_cons, List.cons.injEq] at h
    have h1 : x.ch = y.ch := congrArg Prod.fst h.1
    have e : isC c x = isC c y := by unfold isC; rw [h1]
    simp only [List.findIdx?_cons, e, findIdx_key c h.2]
theorem atR_key (c : Int) : ∀ {l k : List Rw}, l.map keyR = k.map keyR → atR l c = atR k c := by
  have key : ∀ {l k : List Rw}, l.map keyR = k.map keyR → (l.findIdx? fun x => decide (c < x.ch)) = k.findIdx? fun x => decide (c < x.ch) := by
    intro l
    induction l with
    | nil => intro k h; cases k with | nil => rfl | cons _ _ => simp at h
    | cons x l ih =>
      intro k h
      cases k with
      | nil => simp at h
      | cons y k =>
        simp only [List.map_cons, List.cons.injEq] at h
        have h1 : x.ch = y.ch := congrArg Prod.fst h.1
        simp only [List.findIdx?_cons, h1, ih h.2]
  intro l k h
  have hl : l.length = k.length := by simpa using congrArg List.length h
  unfold atR
  rw [key h, hl]
theorem prR_key {l k : List Rw} (h : l.map keyR = k.map keyR) : l.map prR = k.map prR := by
  have : ∀ l : List Rw, l.map prR = (l.map keyR).map fun q => (q.1, q.2.1) := fun l => by rw [List.map_map]; rfl
  rw [this l, this k, h]
theorem setR_key {l k : List Rw} {r s : Rw} (h : l.map keyR = k.map keyR) (hr : keyR r = keyR s) : (setR l r).map keyR = (setR k s).map keyR := by
  have h1 : r.ch = s.ch := congrArg Prod.fst hr
  unfold setR
  rw [← h1, findIdx_key r.ch h, atR_key r.ch h]
  cases k.findIdx? (isC r.ch) with
  | some i => simp only [List.map_set, h, hr]
  | none => simp only [List.map_append, List.map_take, List.map_drop, h, List.map_cons, List.map_nil, hr]
theorem findR_key (c : Int) : ∀ {l k : List Rw}, l.map keyR = k.map keyR → (findR l c).map keyR = (findR k c).map keyR
  | [], [], _ => rfl
  | [], _ :: _, h => by simp at h
  | _ :: _, [], h => by simp at h
  | x :: l, y :: k, h => by
    simp only [List.map_cons, List.cons.injEq] at h
    have h1 : x.ch = y.ch := congrArg Prod.fst h.1
    have ih := findR_key c h.2
    unfold findR at ih ⊢
    simp only [List.find?_cons, isC, h1]
    cases decide (y.ch = c) with
    | true => simp [h.1]
    | false => exact ih
theorem keyV_row {m n : Mv} (h : keyV m = keyV n) : keyR (rowOf m) = keyR (rowOf n) := by
  simp only [keyV, Key.mk.injEq] at h
  simp only [keyR, rowOf, h.2.2.1, h.2.2.2.1, h.2.2.2.2.1, h.2.2.2.2.2]
theorem barV_key {l k : List Rw} {m n : Mv} (h : l.map keyR = k.map keyR) (hm : keyV m = keyV n) : barV l m = barV k n := by
  simp only [keyV, Key.mk.injEq] at hm
  have hl : l.length = k.length := by simpa using congrArg List.length h
  unfold barV aboveV upR
  rw [prR_key h, hl, hm.2.2.1, hm.2.2.2.1]
theorem doV_key {l k : List Rw} {m n : Mv} (h : l.map keyR = k.map keyR) (hm : keyV m = keyV n) : (doV l m).map keyR = (doV k n).map keyR := by
  unfold doV
  rw [barV_key h hm]
  split
  · exact h
  · exact setR_key h (keyV_row hm)
theorem stepV_key {l k : List Rw} {m n : Mv} (h : l.map keyR = k.map keyR) (hm : keyV m = keyV n) : keyS (stepV l m) = keyS (stepV k n) := by
  have hc : m.ch = n.ch := by simp only [keyV, Key.mk.injEq] at hm; exact hm.2.2.1
  have hf := findR_key m.ch h
  unfold stepV
  rw [barV_key h hm, ← hc]
  split
  · simp [keyS, keyO, hm]
  · cases h1 : findR l m.ch with
    | none =>
      cases h2 : findR k m.ch with
      | none => simp [keyS, keyO, hm]
      | some y => rw [h1, h2] at hf; cases hf
    | some x =>
      cases h2 : findR k m.ch with
      | none => rw [h1, h2] at hf; cases hf
      | some y =>
        rw [h1, h2] at hf
        have : keyR x = keyR y := Option.some.inj hf
        simp [keyS, keyO, hm, this]
theorem allV_key : ∀ {ms ns : List Mv} {l k : List Rw}, l.map keyR = k.map keyR → ms.map keyV = ns.map keyV → (allV l ms).map keyR = (allV k ns).map keyR ∧ (stepsV l ms).map keyS = (stepsV k ns).map keyS
  | [], [], l, k, h, _ => ⟨h, rfl⟩
  | [], _ :: _, _, _, _, h => by simp at h
  | _ :: _, [], _, _, _, h => by simp at h
  | m :: ms, n :: ns, l, k, h, hm => by
    simp only [List.map_cons, List.cons.injEq] at hm
    obtain ⟨h1, h2⟩ := allV_key (doV_key h hm.1) hm.2
    refine ⟨h1, ?_⟩
    simp only [stepsV, List.map_cons, stepV_key h hm.1, h2]

/-! ### The loops -/
theorem order16_inner {l : List Mv} (hl : l.length < 2 ^ 16) (hf : FlOK l) {i : Nat} {x : Mv} (hx : l[i]? = some x) :
    iter rounds (law16_ReplayOrder_l7 [.int .i64 (i : Int)] (eMvs l)) [.int .i64 0] = some (if ((l.take i).any fun y => decide (x.c = y.c ∧ x.r = y.r) && !decide (keyV x = keyV y)) = true then (1, [.bool true]) else (0, [])) := by
  have hi : i < l.length := (List.getElem?_eq_some_iff.1 hx).1
  have htl : (l.take i).length = i := by simp; omega
  rw [iter_check (vs0 := [.int .i64 0]) (fun k => [IV.int .i64 (k : Int)]) (fun _ y => decide (x.c = y.c ∧ x.r = y.r) && !decide (keyV x = keyV y)) 1 [.bool true] 0 [] (l.take i) rfl (by have := rounds_eq; omega), anyI_any]
  · intro k y hy
    have hk : k < i := by have := (List.getElem?_eq_some_iff.1 hy).1; omega
    rw [List.getElem?_take_of_lt hk] at hy
    have ha := ref13_Alike_eq (hf x (List.mem_of_getElem? hx)) (hf y (List.mem_of_getElem? hy))
    have tx : ildN (eMvs l) i 0 2 = some [.int .i64 x.c, .int .i64 x.r] := by
      simp only [ildN, List.getElem?_map, hx, Option.map_some, Option.bind_some, eMv, List.length_cons, List.length_nil]
      rw [if_pos (by decide)]
      rfl
    have ty : ildN (eMvs l) k 0 2 = some [.int .i64 y.c, .int .i64 y.r] := by
      simp only [ildN, List.getElem?_map, hy, Option.map_some, Option.bind_some, eMv, List.length_cons, List.length_nil]
      rw [if_pos (by decide)]
      rfl
    unfold law16_ReplayOrder_l7
    simp only [nth_zero, nth_one, nth_two, nth_three, nth_four, nth_five, ibin_lss, Int.ofNat_lt, hk, decide_true, icond_true, Option.bind_some, tx, ty, at_Mv hx, at_Mv hy, ieqs, ieqL, ieq1, if_true, Option.map_some, Bool.and_true, ha, iun_not, icond_bool, law16_live_eq, ibin_succ (show k < 2 ^ 62 by omega)]
    by_cases h1 : x.c = y.c <;> by_cases h2 : x.r = y.r <;> by_cases h3 : keyV x = keyV y <;> simp [h1, h2, h3]
  · rw [htl]
    unfold law16_ReplayOrder_l7
    simp
theorem order16_clash {l : List Mv} (hl : l.length < 2 ^ 16) (hf : FlOK l) :
    iter rounds (law16_ReplayOrder_l4 (eMvs l)) [.int .i64 0] = some (if clashB l = true then (1, [.bool true]) else (0, [])) := by
  rw [iter_check (vs0 := [.int .i64 0]) (fun k => [IV.int .i64 (k : Int)]) (fun i x => (l.take i).any fun y => decide (x.c = y.c ∧ x.r = y.r) && !decide (keyV x = keyV y)) 1 [.bool true] 0 [] l rfl (by have := rounds_eq; omega)]
  · rfl
  · intro i x hx
    have hi : i < l.length := (List.getElem?_eq_some_iff.1 hx).1
    unfold law16_ReplayOrder_l4
    simp only [ilenL_lst, nth_zero, ibin_lss, List.length_map, Int.ofNat_lt, hi, decide_true, icond_true, Option.bind_some, order16_inner hl hf hx, ibin_succ (show i < 2 ^ 62 by omega)]
    cases (l.take i).any fun y => decide (x.c = y.c ∧ x.r = y.r) && !decide (keyV x = keyV y) <;> rfl
  · unfold law16_ReplayOrder_l4
    simp
/-- What comes by places. -/
def placeP (l : List Mv) (s : List Mv) (p : Int) : List Mv := if 0 ≤ p then (match l[p.toNat]? with | some m => s ++ [m] | none => s) else s
theorem placeP_len (l s : List Mv) (p : Int) : (placeP l s p).length ≤ s.length + 1 := by
  unfold placeP
  split
  · split <;> simp
  · simp
theorem places_mem (l : List Mv) : ∀ (ps : List Int) (s : List Mv), (∀ m ∈ s, m ∈ l) → (∀ m ∈ ps.foldl (placeP l) s, m ∈ l) ∧ (ps.foldl (placeP l) s).length ≤ s.length + ps.length
  | [], s, h => ⟨h, by simp⟩
  | p :: ps, s, h => by
    have h1 : ∀ m ∈ placeP l s p, m ∈ l := fun m hm => by
      unfold placeP at hm
      split at hm
      · split at hm
        · rename_i x hx
          rcases List.mem_append.1 hm with hm | hm
          · exact h m hm
          · rw [List.mem_singleton.1 hm]; exact List.mem_of_getElem? hx
        · exact h m hm
      · exact h m hm
    obtain ⟨a, b⟩ := places_mem l ps (placeP l s p) h1
    have := placeP_len l s p
    exact ⟨a, by simp only [List.foldl_cons, List.length_cons]; omega⟩
theorem order16_places {l : List Mv} (hl : l.length < 2 ^ 15) {ps : List Int} (hps : ps.length < 2 ^ 15) :
    iter rounds (law16_ReplayOrder_l13 (eInts ps) (eMvs l)) [.lst [], .int .i64 0] = some (0, [eMvs (ps.foldl (placeP l) [])]) := by
  rw [iter_fold (vs0 := [.lst [], .int .i64 0]) (fun i (v : List Mv) => [eMvs v, .int .i64 (i : Int)]) (placeP l) 0 (fun v => [eMvs v]) (fun i v => v.length ≤ i) ps [] rfl (by have := rounds_eq; omega) (by simp)]
  · intro i s p hp hI
    have hi : i < ps.length := (List.getElem?_eq_some_iff.1 hp).1
    have hs := placeP_len l s p
    refine ⟨by omega, ?_⟩
    unfold law16_ReplayOrder_l13
    simp only [ilenL_lst, nth_zero, nth_one, ibin_lss, ibin_geq, List.length_map, Int.ofNat_lt, at_Int hp, decide_true, icond_true, Option.bind_some, icond_dec, ibin_succ (show i < 2 ^ 62 by omega)]
    unfold placeP
    by_cases h0 : 0 ≤ p
    · obtain ⟨k, rfl⟩ : ∃ k : Nat, p = (k : Int) := ⟨p.toNat, by omega⟩
      by_cases hk : k < l.length
      · have hm : l[k]? = some l[k] := List.getElem?_eq_getElem hk
        generalize l[k] = m at hm
        have ap : iapp 6 56 (eMvs s) (.lst [[.int .i64 m.c, .int .i64 m.r, .int .i64 m.par, .int .i64 m.ch, .str m.nm, .flt .f64 m.rk]]) = some (eMvs (s ++ [m])) := iapp_Mv (l := s) (k := [m]) (by omega) (by simp)
        simp only [h0, if_true, Int.ofNat_lt, hk, decide_true, Option.bind_some, nth_zero, icond_true, at_Mv hm, nth_one, nth_two, nth_three, nth_four, nth_five, ap, Int.toNat_natCast, hm]
      · have hm : l[k]? = none := List.getElem?_eq_none (by omega)
        simp only [h0, if_true, Int.ofNat_lt, hk, decide_false, Option.bind_some, nth_zero, icond_false, Int.toNat_natCast, hm]
    · simp only [h0, if_false, Option.bind_some, nth_zero, icond_false]
  · intro s _
    unfold law16_ReplayOrder_l13
    simp
theorem order16_back {l : List Mv} (hl : l.length ≤ 100) : ∀ (k n : Nat) (out : List Mv), k ≤ l.length → k < n → out.length + k ≤ 200 →
    iter n (law16_ReplayOrder_l18 (eMvs l)) [eMvs out, .int .i64 ((k : Int) - 1)] = some (0, [eMvs (out ++ (l.take k).reverse)]) := by
  intro k
  induction k with
  | zero =>
    intro n out _ hn _
    obtain ⟨n, rfl⟩ : ∃ n', n = n' + 1 := ⟨n - 1, by omega⟩
    rw [iter_done n (k := 0) (o := [eMvs out])]
    · simp
    · unfold law16_ReplayOrder_l18
      simp
  | succ k ih =>
    intro n out hk hn ho
    obtain ⟨n, rfl⟩ : ∃ n', n = n' + 1 := ⟨n - 1, by omega⟩
    obtain ⟨x, hx⟩ : ∃ x, l[k]? = some x := ⟨l[k], List.getElem?_eq_getElem (by omega)⟩
    have hk' : (((k + 1 : Nat) : Int) - 1) = (k : Int) := by omega
    rw [hk']
    have ap : iapp 6 56 (eMvs out) (.lst [[.int .i64 x.c, .int .i64 x.r, .int .i64 x.par, .int .i64 x.ch, .str x.nm, .flt .f64 x.rk]]) = some (eMvs (out ++ [x])) := iapp_Mv (l := out) (k := [x]) (by omega) (by simp)
    have hge : (0 : Int) ≤ (k : Int) := by omega
    have sb : ibin .sub (.int .i64 (k : Int)) (.int .i64 1) = some (.int .i64 ((k : Int) - 1)) := ibin_sub (by omega) (by omega)
    have hst : law16_ReplayOrder_l18 (eMvs l) [eMvs out, .int .i64 (k : Int)] = some (.next [eMvs (out ++ [x]), .int .i64 ((k : Int) - 1)]) := by
      unfold law16_ReplayOrder_l18
      simp only [nth_zero, nth_one, nth_two, nth_three, nth_four, nth_five, ibin_geq, hge, decide_true, icond_true, Option.bind_some, at_Mv hx, ap, sb]
    have hn : iter (n + 1) (law16_ReplayOrder_l18 (eMvs l)) [eMvs out, .int .i64 (k : Int)] = iter n (law16_ReplayOrder_l18 (eMvs l)) [eMvs (out ++ [x]), .int .i64 ((k : Int) - 1)] := by
      rw [iter, hst]; rfl
    rw [hn, ih n (out ++ [x]) (by omega) (by omega) (by simp; omega), take_snocM hx]
    simp
theorem order16_rises {a : List Mv} (hl : a.length < 2 ^ 16) (hs : SortedV a) (w : List IV) (hw : nth w 0 = eMvs a) : iter rounds (law16_ReplayOrder_l27 w) [.int .i64 1] = some (0, []) := by
  have hll : llen (eMvs a) = a.length := by simp [llen]
  by_cases h0 : a = []
  · subst h0
    have : law16_ReplayOrder_l27 w [.int .i64 1] = some (.done 0 []) := by unfold law16_ReplayOrder_l27; rw [hw]; simp
    exact iter_done 999999 this
  · have hpos : 1 ≤ a.length := by cases a with | nil => exact absurd rfl h0 | cons x l => simp
    have hloop := iter_check_from (f := law16_ReplayOrder_l27 w) (fun i => [IV.int .i64 (i : Int)]) (fun i x => !befV (a.getD (i - 1) x) x) 1 [.bool false] 0 [] a 1 hpos (by have := rounds_eq; omega) (fun i x hi1 hx => by
      have hi : i < a.length := (List.getElem?_eq_some_iff.1 hx).1
      have hp : a[i - 1]? = some (a.getD (i - 1) x) := by
        rw [List.getD_eq_getElem?_getD, List.getElem?_eq_getElem (by omega)]; rfl
      generalize a.getD (i - 1) x = y at hp ⊢
      have tx : ildN (eMvs a) i 0 2 = some [.int .i64 x.c, .int .i64 x.r] := by
        simp only [ildN, List.getElem?_map, hx, Option.map_some, Option.bind_some, eMv, List.length_cons, List.length_nil]
        rw [if_pos (by decide)]
        rfl
      have ty : ildN (eMvs a) (i - 1) 0 2 = some [.int .i64 y.c, .int .i64 y.r] := by
        simp only [ildN, List.getElem?_map, hp, Option.map_some, Option.bind_some, eMv, List.length_cons, List.length_nil]
        rw [if_pos (by decide)]
        rfl
      unfold law16_ReplayOrder_l27
      rw [hw]
      simp only [hll, nth_zero, nth_one, ibin_lss, Int.ofNat_lt, hi, tx, ty, ibidx_lt hi, ibidx_lt (show i - 1 < a.length by omega), decide_true, icond_true, Option.bind_some, ibin_pred (show i < 2 ^ 62 by omega) (show 0 < i by omega), ref02_Before_eq, iun_not, icond_bool, ibin_succ (show i < 2 ^ 62 by omega), befV, if_true]
      by_cases hb : befB y.c y.r x.c x.r = true <;> simp only [hb, Bool.not_true, Bool.not_false, if_true, if_false, Bool.false_eq_true]) (by unfold law16_ReplayOrder_l27; rw [hw]; simp [hll])
    rw [adj_drop, adj_sorted.2 hs] at hloop
    exact hloop
set_option maxHeartbeats 2000000 in
theorem law16_ReplayOrder_true (b : List Rw) (ms : List Mv) (ps : List Int) (hob : OKl b) (hom : ∀ x ∈ ms, OKm x) : law16_ReplayOrder_s (eRws b) (eMvs ms) (eInts ps) = some [.bool true] := by
  have hf1 : ref13_Few_s (eMvs ms) (.int .i64 40) = some [.bool (fewV ms 40)] := ref13_Few_eq (n := 40) (by decide)
  unfold law16_ReplayOrder_s
  simp only [ilenL_lst, List.length_map, ibin_gtr, ref12_Few_eq, hf1, law16_live_eq, Option.bind_some, nth_zero, iun_not, icond_bool, decide_eq_true_eq]
  by_cases h0 : (40 : Int) < (b.length : Int)
  · simp [h0]
  by_cases h1 : fewR b = true
  case neg => simp [h0, h1]
  by_cases h2 : fewV ms 40 = true
  case neg => simp [h0, h1, h2]
  have b1 := fewR_len h1
  have b2 := fewV_len h2
  have hmay := ref12_May_eq (l := b) (by omega)
  by_cases h3 : mayR b = true
  case neg => simp [h0, h1, h2, hmay, h3]
  by_cases h4 : (60 : Int) < (ps.length : Int)
  · simp [h0, h1, h2, hmay, h3, h4]
  have hfl : FlOK ms := fun m hm => (hom m hm).rk
  simp only [h0, h1, h2, hmay, h3, h4, if_false, Bool.not_true, Bool.false_eq_true, Option.bind_some, nth_zero, iun_not, icond_false, icond_bool, decide_false, order16_clash (show ms.length < 2 ^ 16 by omega) hfl]
  by_cases hc : clashB ms = true
  · simp [hc, sel]
  rw [Bool.not_eq_true] at hc
  have hnc := no_clash hc
  obtain ⟨p1, p2⟩ := places_mem ms ps [] (fun m hm => by simp at hm)
  have hplaces := order16_places (l := ms) (by omega) (ps := ps) (by omega)
  simp only [List.length_nil, Nat.zero_add] at p2
  generalize ps.foldl (placeP ms) [] = F at p1 p2 hplaces
  have hback := order16_back (l := ms) (by omega) ms.length rounds F (Nat.le_refl _) (by have := rounds_eq; omega) (by omega)
  rw [List.take_length] at hback
  have hsub : ibin .sub (.int .i64 (ms.length : Int)) (.int .i64 1) = some (.int .i64 ((ms.length : Int) - 1)) := ibin_sub (by omega) (by omega)
  have hoO : ∀ x ∈ F ++ ms.reverse, x ∈ ms := fun x hx => by
    rcases List.mem_append.1 hx with hx | hx
    · exact p1 x hx
    · exact List.mem_reverse.1 hx
  have hoOk : ∀ x ∈ F ++ ms.reverse, OKm x := fun x hx => hom x (hoO x hx)
  have hOl : (F ++ ms.reverse).length ≤ 100 := by simp; omega
  have hall1 := law16_all_eq (b := b) (ms := ms) hob hom (by omega)
  have hall2 := law16_all_eq (b := b) (ms := F ++ ms.reverse) hob hoOk (by omega)
  have hkey : (uniV [] ms).map keyV = (uniV [] (F ++ ms.reverse)).map keyV := key_ext (uniV_sorted0 _) (uniV_sorted0 _) fun c r => by
    have g0 : getK ([] : List Mv) c r = none := rfl
    have gsub : ∀ k, getK (F ++ ms.reverse) c r = some k → getK ms c r = some k := fun k h => by
      obtain ⟨x, hx, rfl, rfl, rfl⟩ := getK_some h
      exact getK_of_mem hnc (hoO x hx)
    rw [getK_uni, getK_uni, g0]
    show getK ms c r = getK (F ++ ms.reverse) c r
    cases h : getK (F ++ ms.reverse) c r with
    | some k => exact gsub k h
    | none =>
      rw [getK_none] at h ⊢
      exact fun x hx => h x (List.mem_append_right _ (List.mem_reverse.2 hx))
  obtain ⟨k1, k2⟩ := allV_key (l := b) (k := b) rfl hkey
  have l1 := uniV_len0 ms
  have l2 := uniV_len0 (F ++ ms.reverse)
  have o1 := uniV_okm hom
  have o2 := uniV_okm hoOk
  have hs1 := uniV_sorted0 ms
  generalize uniV [] ms = L at *
  generalize uniV [] (F ++ ms.reverse) = K at *
  have a1 := allV_length L b
  have a2 := allV_length K b
  have sl1 : (stepsV b L).length = L.length := stepsV_length _ _
  have sl2 : (stepsV b K).length = K.length := stepsV_length _ _
  have r1 : replay_Tree_Rows_s (.ptr [eRws b, eRws (allV b L), eStps (stepsV b L)] 0) = some [eRws (allV b L)] := replay_Rows_eq (b := b) (by omega)
  have r2 : replay_Tree_Rows_s (.ptr [eRws b, eRws (allV b K), eStps (stepsV b K)] 0) = some [eRws (allV b K)] := replay_Rows_eq (b := b) (by omega)
  have g1 : replay_Tree_Log_s (.ptr [eRws b, eRws (allV b L), eStps (stepsV b L)] 0) = some [eMvs L] := by
    have := replay_Log_eq (b := b) (l := allV b L) (ss := stepsV b L) (by omega)
    rw [stepsV_mv] at this; exact this
  have g2 : replay_Tree_Log_s (.ptr [eRws b, eRws (allV b K), eStps (stepsV b K)] 0) = some [eMvs K] := by
    have := replay_Log_eq (b := b) (l := allV b K) (ss := stepsV b K) (by omega)
    rw [stepsV_mv] at this; exact this
  have t1 : replay_Tree_Steps_s (.ptr [eRws b, eRws (allV b L), eStps (stepsV b L)] 0) = some [eStps (stepsV b L)] := replay_Steps_eq (b := b) (by omega)
  have t2 : replay_Tree_Steps_s (.ptr [eRws b, eRws (allV b K), eStps (stepsV b K)] 0) = some [eStps (stepsV b K)] := replay_Steps_eq (b := b) (by omega)
  have w1 := hob.allV o1
  have w2 := hob.allV o2
  have q1 := ref12_Same_eq (a := allV b L) (b := allV b K) (by omega) w1.fl w2.fl
  have q1' : sameR (allV b L) (allV b K) = true := by unfold sameR; exact decide_eq_true k1
  have q2 := ref13_Same_eq (a := L) (b := K) (by omega) (fun m hm => (o1 m hm).rk) (fun m hm => (o2 m hm).rk)
  have q2' : sameV L K = true := by unfold sameV; exact decide_eq_true hkey
  have q3 := ref15_Same_eq (a := stepsV b L) (b := stepsV b K) (by omega) (OKs.steps hob o1) (OKs.steps hob o2)
  have q3' : sameS (stepsV b L) (stepsV b K) = true := by unfold sameS; exact decide_eq_true k2
  have q4 := ref12_Same_eq (a := allV b L) (b := allV b L) (by omega) w1.fl w1.fl
  rw [q1'] at q1
  rw [q2'] at q2
  rw [q3'] at q3
  simp only [sameR_refl] at q4
  have fa := fold_All_eq (l := b) (ms := L) (by omega) hob o1
  have hri := order16_rises (a := L) (by omega) hs1 [eMvs L] rfl
  simp only [hc, Bool.false_eq_true, if_false, sel_zero, hplaces, hsub, hback, hall1, hall2, Option.bind_some, nth_zero, nth_one, nth_two, r1, r2, q1, g1, g2, q2, t1, t2, q3, iun_not, Bool.not_true, icond_false, hri, fa, q4, icond_true, law16_live_eq, scal_bool, scal_nil, Option.map_some]
end Go.AM

/- Trees, plainly: kids, in order. -/
import Derived.Test.YtcnafacmpplhbaaTk
import Derived.Test.YtcnafacmpplhbaaTs
import Derived.Test.YtcnafacmpplhbaaFl
set_option linter.unusedVariables false
set_option linter.unusedSimpArgs false
namespace Go.AM
def toRv (r : Rw) : Rv := if h : r.rk < 2 ^ 64 then ⟨r.ch, r.par, r.nm, r.rk, h⟩ else default
theorem toRv_ok {r : Rw} (h : r.rk < 2 ^ 64) : toRv r = ⟨r.ch, r.par, r.nm, r.rk, h⟩ := dif_pos h
/-- Stands a row ahead of another one? -/
def lessR (x y : Rw) : Bool := decide (keyN x.rk < keyN y.rk) || decide (keyN x.rk = keyN y.rk) && decide (x.ch < y.ch)
theorem swo_lessR : Go.Sort.SWO lessR where
  irrefl x := by simp [lessR]
  trans x y z h1 h2 := by
    simp only [lessR, Bool.or_eq_true, Bool.and_eq_true, decide_eq_true_eq] at *
    omega
  ntrans x y z h1 h2 := by
    simp only [lessR, Bool.or_eq_false_iff, Bool.and_eq_false_iff, decide_eq_false_iff_not] at *
    omega
theorem lessV_toRv {x y : Rw} (hx : x.rk < 2 ^ 64) (hy : y.rk < 2 ^ 64) : lessV (toRv x) (toRv y) = lessR x y := by
  rw [toRv_ok hx, toRv_ok hy]; rfl
theorem rvI_toRv {r : Rw} (h : r.rk < 2 ^ 64) : rvI (toRv r) = eRw r := by rw [toRv_ok h]; rfl
theorem rvOf_eRw {r : Rw} (h : r.rk < 2 ^ 64) : rvOf (eRw r) = some (toRv r) := by rw [← rvI_toRv h, rvOf_rvI]
theorem mapM_rvOfR : ∀ {l : List Rw}, (∀ r ∈ l, r.rk < 2 ^ 64) → (l.map eRw).mapM rvOf = some (l.map toRv)
  | [], _ => rfl
  | r :: l, h => by
    have h1 := rvOf_eRw (h r (by simp))
    have h2 := mapM_rvOfR (l := l) fun x hx => h x (by simp [hx])
    rw [List.map_cons, List.mapM_cons, h1, h2]
    rfl
theorem ins_map {α β : Type} {lt : α → α → Bool} {lt' : β → β → Bool} {f : α → β} (x : α) : ∀ (l : List α), (∀ y ∈ l, lt' (f x) (f y) = lt x y) → ins lt' (f x) (l.map f) = (ins lt x l).map f
  | [], _ => rfl
  | y :: l, h => by
    simp only [List.map_cons, ins, h y (by simp)]
    split
    · rfl
    · rw [ins_map x l fun z hz => h z (by simp [hz])]; rfl
theorem mg_map {α β : Type} {lt : α → α → Bool} {lt' : β → β → Bool} {f : α → β} (p : α → Prop) (hf : ∀ x y, p x → p y → lt' (f x) (f y) = lt x y) : ∀ (R L : List α), (∀ x ∈ R, p x) → (∀ x ∈ L, p x) → mg lt' (L.map f) (R.map f) = (mg lt L R).map f
  | [], L, _, _ => rfl
  | x :: R, L, h1, h2 => by
    rw [List.map_cons, mg_cons, mg_cons, ins_map x L fun y hy => hf x y (h1 x (by simp)) (h2 y hy)]
    exact mg_map p hf R _ (fun y hy => h1 y (by simp [hy])) fun y hy => by
      rcases (mem_ins x y L).1 hy with rfl | h
      · exact h1 y (by simp)
      · exact h2 y h
theorem isrt_toRv {l : List Rw} (h : ∀ r ∈ l, r.rk < 2 ^ 64) : (isrt lessV (l.map toRv)).map rvI = (isrt lessR l).map eRw := by
  have := mg_map (lt := lessR) (lt' := lessV) (f := toRv) (fun r => r.rk < 2 ^ 64) (fun x y hx hy => lessV_toRv hx hy) l [] h (by simp)
  have e : isrt lessV (l.map toRv) = (isrt lessR l).map toRv := this
  rw [e, List.map_map]
  apply List.map_congr_left
  intro r hr
  exact rvI_toRv (h r ((mem_isrt r l).1 hr))
def kidsR (l : List Rw) (p : Int) : List Rw := isrt lessR (l.filter fun r => decide (r.par = p))
theorem mem_kidsR {l : List Rw} {p : Int} {r : Rw} : r ∈ kidsR l p ↔ r ∈ l ∧ r.par = p := by
  unfold kidsR
  rw [mem_isrt, List.mem_filter]
  simp
theorem kidsR_length (l : List Rw) (p : Int) : (kidsR l p).length ≤ l.length := by
  unfold kidsR
  rw [length_isrt]
  exact List.length_filter_le _ _
theorem iapp_one {l : List Rw} {r : Rw} (hl : l.length < 2 ^ 20) : iapp 4 40 (eRws l) (.lst [[.int .i64 r.ch, .int .i64 r.par, .str r.nm, .flt .f64 r.rk]]) = some (eRws (l ++ [r])) := by
  have := iapp_Rw (l := l) (k := [r]) hl (by simp)
  exact this
theorem tree_Kids_eq {l : List Rw} (hl : l.length < 2 ^ 16) (hf : ∀ r ∈ l, r.rk < 2 ^ 64) (p : Int) : tree_Kids_s (eRws l) (.int .i64 p) = some [eRws (kidsR l p)] := by
  unfold tree_Kids_s
  simp only [ilenL_lst, Option.bind_some]
  have key := iter_fold (f := tree_Kids_l3 (.int .i64 ((l.map eRw).length : Nat)) (eRws l) (.int .i64 p)) (vs0 := [.lst [], .int .i64 0]) (fun i (s : List Rw) => [eRws s, .int .i64 (i : Int)]) (fun s r => if r.par = p then s ++ [r] else s) 0 (fun s => [eRws s]) (fun i s => s.length ≤ i) l [] rfl (by have := rounds_eq; omega) (by simp) (by
    intro i s x hx hI
    have hi : i < l.length := (List.getElem?_eq_some_iff.1 hx).1
    have ha := iapp_one (l := s) (r := x) (by omega)
    refine ⟨by split <;> (try rw [List.length_append, List.length_singleton]) <;> omega, ?_⟩
    unfold tree_Kids_l3
    simp only [nth_zero, nth_one, nth_two, nth_three, ibin_lss, List.length_map, Int.ofNat_lt, hi, at_Rw hx, decide_true, icond_true, Option.bind_some, ibin_eql, icond_dec, ha, ibin_succ (show i < 2 ^ 62 by omega)]
    split <;> rfl) (by
    intro s _
    unfold tree_Kids_l3
    simp)
  rw [key]
  have hfold : ∀ (l s : List Rw), l.foldl (fun s r => if r.par = p then s ++ [r] else s) s = s ++ l.filter fun r => decide (r.par = p) := by
    intro l
    induction l with
    | nil => intro s; simp
    | cons r l ih =>
      intro s
      rw [List.foldl_cons, ih]
      by_cases h : r.par = p <;> simp [h]
  rw [hfold, List.nil_append]
  have hm := mapM_rvOfR (l := l.filter fun r => decide (r.par = p)) fun r hr => hf r (List.mem_filter.1 hr).1
  have hlen : (l.filter fun r => decide (r.par = p)).length ≤ l.length := List.length_filter_le _ _
  have hs : slices_SortStableFunc_Row_s (eRws (l.filter fun r => decide (r.par = p))) (.clo (.func n_tree_Kids_1) []) = some [eRws (kidsR l p)] := by
    show sortS n_tree_Kids_1 _ _ = _
    unfold sortS
    simp only
    rw [if_pos ⟨trivial, by rw [List.length_map]; omega⟩, hm, Option.map_some, isrt_toRv fun r hr => hf r (List.mem_filter.1 hr).1]
    rfl
  simp only [Option.bind_some, sel_zero, nth_zero]
  rw [hs]
  rfl
/-! The reference's. -/
theorem sub_lit {u : Nat} (h : u < 2 ^ 64) : ibin .sub (.int .u64 18446744073709551615) (.int .u64 (u : Int)) = some (.int .u64 ((2 ^ 64 - 1 - u : Nat) : Int)) := by
  have hw : IntKind.u64.wrap (18446744073709551615 - (u : Int)) = ((2 ^ 64 - 1 - u : Nat) : Int) := by
    have : (18446744073709551615 - (u : Int)) = ((2 ^ 64 - 1 - u : Nat) : Int) := by omega
    rw [this, wrapU (by omega)]
  simp only [ibin, ibinInt, if_true, hw]
theorem add_lit {u : Nat} (h : u < 2 ^ 63) : ibin .add (.int .u64 (u : Int)) (.int .u64 9223372036854775808) = some (.int .u64 ((u + 2 ^ 63 : Nat) : Int)) := by
  have hw : IntKind.u64.wrap ((u : Int) + 9223372036854775808) = ((u + 2 ^ 63 : Nat) : Int) := by
    have : ((u : Int) + 9223372036854775808) = ((u + 2 ^ 63 : Nat) : Int) := by omega
    rw [this, wrapU (by omega)]
  simp only [ibin, ibinInt, if_true, hw]
def keyU (u : Nat) : Nat := if 2 ^ 63 ≤ u then 2 ^ 64 - 1 - u else u + 2 ^ 63
theorem c2a (u : Nat) (c : 2 ^ 63 ≤ u) : decide ((u : Int) < 9223372036854775808) = false := by rw [decide_eq_false_iff_not]; omega
theorem c2b (u : Nat) (c : ¬ 2 ^ 63 ≤ u) : decide ((u : Int) < 9223372036854775808) = true := by rw [decide_eq_true_iff]; omega
theorem key_of (a0 : IV) (u : Nat) (hu : u < 2 ^ 64) (h : ref01_Bits_s a0 = some [.int .u64 (u : Int)]) : ref02_Key_s a0 = some [.int .u64 (keyU u : Int)] := by
  unfold ref02_Key_s keyU
  rw [h, Option.bind_some, nth_zero, ibin_lss, Option.bind_some]
  by_cases c : 2 ^ 63 ≤ u
  · rw [c2a u c, icond_false, sub_lit hu, Option.bind_some, if_pos c]
    rfl
  · rw [c2b u c, icond_true, add_lit (show u < 2 ^ 63 by omega), Option.bind_some, if_neg c]
    rfl
theorem ref02_Key_eq {w : Nat} (h : w < 2 ^ 64) : ref02_Key_s (.flt .f64 w) = some [.int .u64 (keyN w : Int)] :=
  key_of _ (wordN w) (wordN_lt h) (ref01_Bits_eq h)
theorem ref02_Compare_eq {a b : Nat} (ha : a < 2 ^ 64) (hb : b < 2 ^ 64) : ref02_Compare_s (.flt .f64 a) (.flt .f64 b) = some [.int .i64 (cmpI (keyN a) (keyN b))] := by
  unfold ref02_Compare_s cmpI
  simp only [ref02_Key_eq ha, ref02_Key_eq hb, Option.bind_some, nth_zero, ibin_lss, ibin_gtr, icond_dec, scal_int, scal_nil, Option.map_some]
  split
  · rfl
  · split <;> rfl
theorem ref02_Less_eq {x y : Rw} (hx : x.rk < 2 ^ 64) (hy : y.rk < 2 ^ 64) (a b c d : IV) : ref02_Less_s (.int .i64 x.ch) a b (.flt .f64 x.rk) (.int .i64 y.ch) c d (.flt .f64 y.rk) = some [.bool (lessR x y)] := by
  unfold ref02_Less_s
  simp only [ref02_Compare_eq hx hy, Option.bind_some, nth_zero, ibin_eql, icond_dec, ibin_lss]
  unfold lessR cmpI
  by_cases c1 : keyN x.rk < keyN y.rk
  · have h1 : (keyN x.rk : Int) < (keyN y.rk : Int) := by omega
    simp [c1, h1]
  · by_cases c2 : keyN y.rk < keyN x.rk
    · have h1 : ¬ (keyN x.rk : Int) < (keyN y.rk : Int) := by omega
      have h2 : (keyN y.rk : Int) < (keyN x.rk : Int) := by omega
      have h3 : ¬ keyN x.rk = keyN y.rk := by omega
      simp [c1, h1, h2, h3]
    · have h1 : ¬ (keyN x.rk : Int) < (keyN y.rk : Int) := by omega
      have h2 : ¬ (keyN y.rk : Int) < (keyN x.rk : Int) := by omega
      have h3 : keyN x.rk = keyN y.rk := by omega
      simp [c1, h1, h2, h3]
/-- From the right: down to whom it is not ahead of. -/
def dnR (x : Rw) (acc : List Rw) : Nat → Nat
  | 0 => 0
  | k + 1 => if lessR x (acc.getD k default) = true then dnR x acc k else k + 1
theorem dnR_le (x : Rw) (acc : List Rw) : ∀ k, dnR x acc k ≤ k
  | 0 => Nat.le_refl _
  | k + 1 => by
    unfold dnR
    split
    · have := dnR_le x acc k; omega
    · exact Nat.le_refl _
theorem dnR_above (x : Rw) (acc : List Rw) : ∀ k j, dnR x acc k ≤ j → j < k → lessR x (acc.getD j default) = true
  | 0, j, _, h => by omega
  | k + 1, j, h1, h2 => by
    unfold dnR at h1
    split at h1
    · rename_i h
      by_cases e : j = k
      · subst e; exact h
      · exact dnR_above x acc k j h1 (by omega)
    · omega
theorem dnR_at (x : Rw) (acc : List Rw) : ∀ k, 0 < dnR x acc k → lessR x (acc.getD (dnR x acc k - 1) default) = false
  | 0, h => by simp [dnR] at h
  | k + 1, h => by
    unfold dnR at h ⊢
    split at h
    · rename_i c
      rw [if_pos c]
      exact dnR_at x acc k h
    · rename_i c
      rw [if_neg c]
      simpa using c
theorem dnR_ins {x : Rw} {acc : List Rw} (hs : Srt lessR acc) : acc.take (dnR x acc acc.length) ++ [x] ++ acc.drop (dnR x acc acc.length) = ins lessR x acc := by
  obtain ⟨k, hk⟩ : ∃ k, k = dnR x acc acc.length := ⟨_, rfl⟩
  have hle := dnR_le x acc acc.length
  have hab := dnR_above x acc acc.length
  have hat := dnR_at x acc acc.length
  rw [← hk] at hle hab hat ⊢
  have h1 : ∀ y ∈ acc.take k, lessR x y = false := by
    intro y hy
    obtain ⟨j, hj, rfl⟩ := List.mem_iff_getElem.1 hy
    have hjk : j < k := by simp at hj; omega
    have hjl : j < acc.length := by omega
    rw [List.getElem_take]
    have h0 := hat (by omega)
    rw [List.getD_eq_getElem?_getD, List.getElem?_eq_getElem (by omega), Option.getD_some] at h0
    by_cases e : j = k - 1
    · subst e; exact h0
    · exact swo_lessR.ntrans _ _ _ h0 (List.pairwise_iff_getElem.1 hs j (k - 1) hjl (by omega) (by omega))
  have h2 : ∀ y ∈ acc.drop k, lessR x y = true := by
    intro y hy
    obtain ⟨j, hj, rfl⟩ := List.mem_iff_getElem.1 hy
    rw [List.getElem_drop]
    have h0 := hab (k + j) (by omega) (by simp at hj; omega)
    rwa [List.getD_eq_getElem?_getD, List.getElem?_eq_getElem (by simp at hj; omega), Option.getD_some] at h0
  have := ins_of_split x (acc.take k) (acc.drop k) h1 h2
  rw [List.take_append_drop] at this
  rw [this]
  simp
theorem ref12_Kids_inner {l acc : List Rw} {i : Nat} {x : Rw} (hx : l[i]? = some x) (hxf : x.rk < 2 ^ 64) (haf : ∀ r ∈ acc, r.rk < 2 ^ 64) (hal : acc.length < 2 ^ 16) (vi : IV) (hvi : vi = .int .i64 (i : Int)) : ∀ (k m : Nat), k ≤ acc.length → k < m →
    iter m (ref12_Kids_l7 (eRws l) [eRws acc, vi]) [.int .i64 (k : Int)] = some (0, [.int .i64 (dnR x acc k : Int)]) := by
  subst hvi
  intro k
  induction k with
  | zero =>
    intro m _ hm
    obtain ⟨m, rfl⟩ : ∃ m', m = m' + 1 := ⟨m - 1, by omega⟩
    refine iter_done m ?_
    unfold ref12_Kids_l7
    simp [dnR]
  | succ k ih =>
    intro m hk hm
    obtain ⟨m, rfl⟩ : ∃ m', m = m' + 1 := ⟨m - 1, by omega⟩
    obtain ⟨y, hy⟩ : ∃ y, acc[k]? = some y := ⟨_, List.getElem?_eq_getElem (by omega)⟩
    have hyf := haf y (List.mem_of_getElem? hy)
    have hd : acc.getD k default = y := by rw [List.getD_eq_getElem?_getD, hy]; rfl
    have hlt : k < acc.length := by omega
    have hpos : (0 : Int) < ((k + 1 : Nat) : Int) := by omega
    have hpred := ibin_pred (i := k + 1) (by omega) (by omega)
    simp only [Nat.add_sub_cancel] at hpred
    have hless := ref02_Less_eq hxf hyf (.int .i64 x.par) (.str x.nm) (.int .i64 y.par) (.str y.nm)
    have hb : ibidx (acc.map eRw).length (.int .i64 (k : Int)) = some k := ibidx_lt (by simpa using hlt)
    by_cases c : lessR x y = true
    · rw [iter]
      have hstep : ref12_Kids_l7 (eRws l) [eRws acc, .int .i64 (i : Int)] [.int .i64 ((k + 1 : Nat) : Int)] = some (.next [.int .i64 (k : Int)]) := by
        unfold ref12_Kids_l7
        simp only [nth_zero, nth_one, nth_two, nth_three, ibin_gtr, hpos, decide_true, icond_true, at_Rw hx, Option.bind_some, hpred, llen_lst, List.length_map, hb, at_Rw hy, hless, c, hlt, ibidx_lt]
      rw [hstep]
      simp only [Option.bind_some]
      rw [ih m (by omega) (by omega)]
      have hst : dnR x acc (k + 1) = dnR x acc k := by simp only [dnR, hd, c, if_true]
      rw [hst]
    · refine iter_done m ?_
      have c' : lessR x y = false := by simpa using c
      unfold ref12_Kids_l7
      simp only [nth_zero, nth_one, nth_two, nth_three, ibin_gtr, hpos, decide_true, icond_true, at_Rw hx, Option.bind_some, hpred, llen_lst, List.length_map, hb, at_Rw hy, hless, c', hlt, ibidx_lt, icond_false]
      have hst : dnR x acc (k + 1) = k + 1 := by simp only [dnR, hd, c', Bool.false_eq_true, if_false]
      rw [hst]
theorem ref12_Kids_eq {l : List Rw} (hl : l.length < 2 ^ 16) (hf : ∀ r ∈ l, r.rk < 2 ^ 64) (p : Int) : ref12_Kids_s (eRws l) (.int .i64 p) = some [eRws (kidsR l p)] := by
  unfold ref12_Kids_s
  have key := iter_fold (f := ref12_Kids_l3 (eRws l) (.int .i64 p)) (vs0 := [.lst [], .int .i64 0]) (fun i (s : List Rw) => [eRws s, .int .i64 (i : Int)]) (fun s r => if r.par = p then ins lessR r s else s) 0 (fun s => [eRws s]) (fun i s => s.length ≤ i ∧ Srt lessR s ∧ ∀ r ∈ s, r.rk < 2 ^ 64) l [] rfl (by have := rounds_eq; omega) ⟨by simp, by simp [Srt], by simp⟩ (by
    intro i s x hx hI
    have hi : i < l.length := (List.getElem?_eq_some_iff.1 hx).1
    have hxf := hf x (List.mem_of_getElem? hx)
    refine ⟨?_, ?_⟩
    · split
      · refine ⟨by rw [length_ins]; omega, srt_ins swo_lessR x s hI.2.1, fun r hr => ?_⟩
        rcases (mem_ins x r s).1 hr with rfl | h
        · exact hxf
        · exact hI.2.2 r h
      · exact ⟨by omega, hI.2⟩
    · unfold ref12_Kids_l3
      by_cases c : x.par = p
      · have hin := ref12_Kids_inner (l := l) (acc := s) hx hxf hI.2.2 (by omega) _ rfl s.length rounds (Nat.le_refl _) (by have := rounds_eq; omega)
        have hdl := dnR_le x s s.length
        have e1 : ibnds s.length (some (.int .i64 (dnR x s s.length : Int))) none = some (dnR x s s.length, s.length) := by
          simp [ibnds, bnd, hdl]
        have e2 : ibnds s.length none (some (.int .i64 (dnR x s s.length : Int))) = some (0, dnR x s s.length) := by
          simp [ibnds, bnd, hdl]
        have s1 : lsub (eRws s) (dnR x s s.length) s.length = eRws (s.drop (dnR x s s.length)) := by
          show IV.lst (((s.map eRw).drop (dnR x s s.length)).take (s.length - dnR x s s.length)) = _
          rw [List.take_of_length_le (by simp), ← List.map_drop]
        have s2 : lsub (eRws s) 0 (dnR x s s.length) = eRws (s.take (dnR x s s.length)) := by
          simp [lsub, List.map_take]
        have a0 : ∀ k : List Rw, k.length ≤ s.length → iapp 4 40 (.lst []) (eRws k) = some (eRws k) := fun k hk => by
          have := iapp_Rw (l := []) (k := k) (by simp) (by omega)
          rw [List.nil_append] at this
          exact this
        have a1 := iapp_one (l := s.take (dnR x s s.length)) (r := x) (by simp; omega)
        have a2 := iapp_Rw (l := s.take (dnR x s s.length) ++ [x]) (k := s.drop (dnR x s s.length)) (by simp; omega) (by simp; omega)
        rw [dnR_ins hI.2.1] at a2
        have a3 := a0 (s.drop (dnR x s s.length)) (by simp)
        have a4 := a0 (s.take (dnR x s s.length)) (by rw [List.length_take]; omega)
        have cn : decide (x.par ≠ p) = false := by simp [c]
        rw [if_pos c]
        simp only [ilenL_lst, nth_zero, nth_one, nth_two, nth_three, ibin_lss, List.length_map, Int.ofNat_lt, hi, at_Rw hx, decide_true, icond_true, Option.bind_some, ibin_neq, cn, icond_false, llen_lst, hin, sel_zero, e1, e2, s1, s2, a1, a2, a3, a4, ibin_succ (show i < 2 ^ 62 by omega)]
      · simp only [ilenL_lst, nth_zero, nth_one, ibin_lss, List.length_map, Int.ofNat_lt, hi, at_Rw hx, decide_true, icond_true, Option.bind_some, ibin_neq, ne_eq, c, not_false_eq_true, ibin_succ (show i < 2 ^ 62 by omega), if_false]) (by
    intro s _
    unfold ref12_Kids_l3
    simp)
  rw [key]
  have hfold : ∀ (l s : List Rw), l.foldl (fun s r => if r.par = p then ins lessR r s else s) s = mg lessR s (l.filter fun r => decide (r.par = p)) := by
    intro l
    induction l with
    | nil => intro s; simp [mg]
    | cons r l ih =>
      intro s
      rw [List.foldl_cons, ih]
      by_cases h : r.par = p <;> simp [h, mg_cons]
  rw [hfold]
  simp [sel_zero, kidsR, isrt]
end Go.AM
/- Trees, plainly: ways up; who is reached. -/
set_option linter.unusedVariables false
set_option linter.unusedSimpArgs false
namespace Go.AM
/-- A way up, so many at most. -/
def wayR (f : Int → Option Int) : Nat → List Int → Int → Option (List Int)
  | 0, _, _ => none
  | n + 1, out, x => match f x with | none => if x = 0 then some out else none | some y => if out.contains y then none else wayR f n (out ++ [y]) y
theorem pathQ_gen (f : Int → Option Int) : ∀ (n : Nat) (out : List Int) (x : Int), out.getLast? = some x →
    (match pathL out (upto f n x) with | none => none | some o => if o.getLast? = some 0 ∧ (f 0).isNone = true then some o else none) = wayR f (n + 1) out x
  | 0, out, x, h => by
    unfold wayR upto pathL
    simp only [h, Option.some.injEq]
    cases hf : f x with
    | none =>
      by_cases c : x = 0
      · subst c; simp [hf]
      · simp [c]
    | some y =>
      have : ¬ (x = 0 ∧ (f 0).isNone = true) := by
        rintro ⟨rfl, h2⟩; rw [hf] at h2; cases h2
      rw [if_neg this]
      simp only
      split
      · rfl
      · unfold wayR; rfl
  | n + 1, out, x, h => by
    unfold wayR upto
    cases hf : f x with
    | none =>
      simp only [pathL, h, Option.some.injEq]
      by_cases c : x = 0
      · subst c; simp [hf]
      · simp [c]
    | some y =>
      simp only [pathL]
      by_cases hc : out.contains y = true
      · simp only [hc, if_true]
      · simp only [hc, if_false, Bool.false_eq_true]
        exact pathQ_gen f n (out ++ [y]) y (by simp)
theorem pathQ_way (f : Int → Option Int) (N : Nat) (c : Int) : pathQ f N c = wayR f (N + 1) [c] c := pathQ_gen f N [c] c rfl
theorem way_more {f : Int → Option Int} {K : List Int} (hK : ∀ x, (f x).isSome = true → x ∈ K) : ∀ (n : Nat) (out : List Int) (x : Int), out.Nodup → out.getLast? = some x → (∀ y ∈ out.dropLast, (f y).isSome = true) → K.length + 2 ≤ n + out.length → wayR f n out x = wayR f (n + 1) out x
  | 0, out, x, h1, h2, h3, h4 => by
    exfalso
    have h5 : out.dropLast.Nodup := h1.sublist (List.dropLast_sublist out)
    have := List.Nodup.length_le_of_subset h5 (fun y hy => hK y (h3 y hy))
    rw [List.length_dropLast] at this
    omega
  | n + 1, out, x, h1, h2, h3, h4 => by
    conv => rhs; unfold wayR
    unfold wayR
    cases hf : f x with
    | none => rfl
    | some y =>
      simp only
      split
      · rfl
      · rename_i hc
        refine way_more hK n (out ++ [y]) y ?_ (by simp) ?_ (by simp; omega)
        · rw [List.nodup_append]
          refine ⟨h1, by simp, fun a ha b hb => ?_⟩
          simp only [List.mem_singleton] at hb
          subst hb
          intro e
          subst e
          exact hc (by simpa using ha)
        · intro z hz
          rw [List.dropLast_concat] at hz
          have hne : out ≠ [] := by intro e; rw [e] at h2; cases h2
          rw [← List.dropLast_concat_getLast hne] at hz
          rcases List.mem_append.1 hz with h | h
          · exact h3 z h
          · simp only [List.mem_singleton] at h
            rw [List.getLast?_eq_some_getLast hne] at h2
            cases h2
            rw [h, hf]; rfl
theorem way_enough {f : Int → Option Int} {K : List Int} (hK : ∀ x, (f x).isSome = true → x ∈ K) (c : Int) : ∀ (n m : Nat), K.length + 1 ≤ n → n ≤ m → wayR f n [c] c = wayR f m [c] c := by
  intro n m h1 h2
  induction m with
  | zero => obtain rfl : n = 0 := by omega
            rfl
  | succ m ih =>
    by_cases e : n = m + 1
    · rw [e]
    · rw [ih (by omega), way_more hK m [c] c (by simp) rfl (by simp) (by simp; omega)]
def wayV (l : List Rw) (c : Int) : Option (List Int) := wayR (upR l) (l.length + 1) [c] c
def foundW : Option (List Int) → List IV
  | some o => [eInts o, .bool true]
  | none => [.lst [], .bool false]
theorem pathQ_rows (l : List Rw) (c : Int) : pathQ (lkp (l.map prR)) (ksof (l.map prR)).length c = wayV l c := by
  have hk := ksof_le (l.map prR)
  rw [List.length_map] at hk
  have hm : ∀ x, (lkp (l.map prR) x).isSome = true → x ∈ ksof (l.map prR) := fun x h => (mem_ksof _ x).2 h
  rw [pathQ_way]
  exact way_enough hm c _ _ (Nat.le_refl _) (by omega)
theorem tree_Path_eq {l : List Rw} (hl : l.length ≤ 50000) (ho : OKl l) {c : Int} (hc : in64 c) : tree_Path_s (eRws l) (.int .i64 c) = some (foundW (wayV l c)) := by
  show pathS _ _ = _
  unfold pathS
  simp only
  rw [if_pos ⟨by simpa using hl, in64_wf hc⟩, mapM_rowI ho, Option.map_some, pathQ_rows]
  cases wayV l c <;> rfl
theorem ref12_Path_eq {l : List Rw} (hl : l.length < 2 ^ 16) (c : Int) : ref12_Path_s (eRws l) (.int .i64 c) = some (foundW (wayV l c)) := by
  unfold ref12_Path_s
  have inner : ∀ (out : List Int) (n : Nat) (r : Rw) (v3 : IV), out.length = n + 1 → n < 2 ^ 17 → iter rounds (ref12_Path_l11 [eInts out, .int .i64 (n : Int)] [.int .i64 r.ch, .int .i64 r.par, .str r.nm, .flt .f64 r.rk, v3]) [.int .i64 0] = some (if out.contains r.par then (1, [.lst [], .bool false]) else (0, [])) := by
    intro out n r v3 hlen hn
    rw [iter_search (vs0 := [IV.int .i64 0]) (fun i => [IV.int .i64 (i : Int)]) (fun z => decide (z = r.par)) 1 (fun _ => [.lst [], .bool false]) 0 [] out rfl (by have := rounds_eq; omega)]
    · have hcn : out.contains r.par = (out.findIdx? fun z => decide (z = r.par)).isSome := by
        rw [List.findIdx?_isSome, Bool.eq_iff_iff]
        simp
      rw [hcn]
      cases out.findIdx? (fun z => decide (z = r.par)) <;> simp
    · intro i z hz
      have hi : i < out.length := (List.getElem?_eq_some_iff.1 hz).1
      have hi2 : i ≤ n := by omega
      have hb : ibidx out.length (.int .i64 (i : Int)) = some i := ibidx_lt hi
      have hld : ild (eInts out) i 0 = some (.int .i64 z) := ild_map hz
      unfold ref12_Path_l11
      simp only [nth_zero, nth_one, ibin_leq, Int.ofNat_le, hi2, decide_true, icond_true, llen_lst, List.length_map, hb, hld, Option.bind_some, ibin_eql, icond_dec, decide_eq_true_eq, ibin_succ (show i < 2 ^ 62 by omega)]
      split <;> rfl
    · have : ¬ out.length ≤ n := by omega
      unfold ref12_Path_l11
      simp only [nth_zero, nth_one, ibin_leq, Int.ofNat_le, this, decide_false, icond_false, Option.bind_some]
  have outer : ∀ (k n m : Nat) (out : List Int) (x : Int), n + k = l.length + 1 → k < m → out.length = n + 1 → out[n]? = some x →
      ∃ e o, iter m (ref12_Path_l3 (eRws l)) [eInts out, .int .i64 (n : Int)] = some (e, o) ∧ ((e = 0 ∧ wayR (upR l) k out x = none) ∨ (e = 1 ∧ o = foundW (wayR (upR l) k out x))) := by
    intro k
    induction k with
    | zero =>
      intro n m out x hn hm hlen hx
      obtain ⟨m, rfl⟩ : ∃ m', m = m' + 1 := ⟨m - 1, by omega⟩
      refine ⟨0, [], iter_done m ?_, .inl ⟨rfl, rfl⟩⟩
      unfold ref12_Path_l3
      have : ¬ n ≤ l.length := by omega
      simp [this]
    | succ k ih =>
      intro n m out x hn hm hlen hx
      obtain ⟨m, rfl⟩ : ∃ m', m = m' + 1 := ⟨m - 1, by omega⟩
      have hle : n ≤ l.length := by omega
      have hb : ibidx out.length (.int .i64 (n : Int)) = some n := ibidx_lt (by omega)
      have hld : ild (eInts out) n 0 = some (.int .i64 x) := ild_map hx
      have hfind := ref12_Find_eq hl x
      cases hf : findR l x with
      | none =>
        have hu : upR l x = none := by rw [upR_find, hf]; rfl
        rw [hf] at hfind
        by_cases hx0 : x = 0
        · subst hx0
          refine ⟨1, [eInts out, .bool true], iter_done m ?_, .inr ⟨rfl, ?_⟩⟩
          · unfold ref12_Path_l3
            simp only [ilenL_lst, nth_zero, nth_one, List.length_map, ibin_leq, Int.ofNat_le, hle, decide_true, icond_true, llen_lst, hb, hld, Option.bind_some, hfind, foundI, nth_four, iun_not, Bool.not_false, ibin_neq, ne_eq, not_true_eq_false, decide_false, icond_false]
          · unfold wayR; rw [hu]; simp [foundW]
        · refine ⟨1, [.lst [], .bool false], iter_done m ?_, .inr ⟨rfl, ?_⟩⟩
          · unfold ref12_Path_l3
            simp only [ilenL_lst, nth_zero, nth_one, List.length_map, ibin_leq, Int.ofNat_le, hle, decide_true, icond_true, llen_lst, hb, hld, Option.bind_some, hfind, foundI, nth_four, iun_not, Bool.not_false, ibin_neq, hx0, ne_eq, not_false_eq_true]
          · unfold wayR; rw [hu]; simp [hx0, foundW]
      | some r =>
        have hu : upR l x = some r.par := by rw [upR_find, hf]; rfl
        rw [hf] at hfind
        have hin := inner out n r (.bool true) hlen (by omega)
        have hap : iapp 1 8 (eInts out) (.lst [[.int .i64 r.par]]) = some (eInts (out ++ [r.par])) := iapp_Ints (l := out) (k := [r.par]) (by omega) (by simp)
        have hstep : ref12_Path_l3 (eRws l) [eInts out, .int .i64 (n : Int)] = if out.contains r.par then some (.done 1 [.lst [], .bool false]) else some (.next [eInts (out ++ [r.par]), .int .i64 ((n + 1 : Nat) : Int)]) := by
          unfold ref12_Path_l3
          simp only [ilenL_lst, nth_zero, nth_one, List.length_map, ibin_leq, Int.ofNat_le, hle, decide_true, icond_true, llen_lst, hb, hld, Option.bind_some, hfind, foundI, nth_four, iun_not, Bool.not_true, icond_false]
          rw [hin]
          split
          · simp [sel]
          · simp only [Option.bind_some, sel_zero, hap, ibin_succ (show n < 2 ^ 62 by omega)]
        by_cases hc : out.contains r.par = true
        · rw [if_pos hc] at hstep
          refine ⟨1, _, iter_done m hstep, .inr ⟨rfl, ?_⟩⟩
          unfold wayR; rw [hu]; simp only [hc, if_true]; rfl
        · rw [if_neg hc] at hstep
          obtain ⟨e, o, h1, h2⟩ := ih (n + 1) m (out ++ [r.par]) r.par (by omega) (by omega) (by simp; omega) (by rw [List.getElem?_append_right (by omega), hlen, Nat.sub_self]; rfl)
          refine ⟨e, o, ?_, ?_⟩
          · rw [iter, hstep]; exact h1
          · have hw : wayR (upR l) (k + 1) out x = wayR (upR l) k (out ++ [r.par]) r.par := by
              conv => lhs; unfold wayR
              rw [hu]; simp only [hc, if_false, Bool.false_eq_true]
            rw [hw]; exact h2
  obtain ⟨e, o, h1, h2⟩ := outer (l.length + 1) 0 rounds [c] c (by omega) (by have := rounds_eq; omega) rfl rfl
  have h1' : iter rounds (ref12_Path_l3 (eRws l)) [.lst [[.int .i64 c]], .int .i64 0] = some (e, o) := h1
  rw [h1']
  rcases h2 with ⟨rfl, h3⟩ | ⟨rfl, rfl⟩
  · simp [wayV, h3, foundW]
  · unfold wayV
    cases wayR (upR l) (l.length + 1) [c] c <;> simp [foundW, sel]
/-! Who is reached. -/
def reachR (l : List Rw) : List Int := (l.filter fun r => (wayV l r.ch).isSome).foldl (fun k r => putI k r.ch) [0]
theorem reachR_spec (l : List Rw) : Rises (reachR l) ∧ ∀ x, x ∈ reachR l ↔ x = 0 ∨ (x ∈ l.map (·.ch) ∧ (wayV l x).isSome = true) := by
  have h := puts_spec ((l.filter fun r => (wayV l r.ch).isSome).map (·.ch)) (l := [0]) (List.pairwise_singleton _ _)
  rw [List.foldl_map] at h
  refine ⟨h.1, fun x => ?_⟩
  show x ∈ List.foldl _ _ _ ↔ _
  rw [h.2]
  simp only [List.mem_singleton, List.mem_map, List.mem_filter]
  constructor
  · rintro (h | ⟨r, ⟨h1, h2⟩, rfl⟩)
    · exact .inl h
    · exact .inr ⟨⟨r, h1, rfl⟩, h2⟩
  · rintro (h | ⟨⟨r, h1, rfl⟩, h2⟩)
    · exact .inl h
    · exact .inr ⟨r, ⟨h1, h2⟩, rfl⟩
theorem reachQ_rows (l : List Rw) : reachQ (l.map prR) = reachR l := by
  unfold reachQ
  have hs := sortI_spec (0 :: (ksof (l.map prR)).filter fun k => (pathQ (lkp (l.map prR)) (ksof (l.map prR)).length k).isSome)
  refine rises_ext hs.1 (reachR_spec l).1 fun x => ?_
  rw [hs.2, (reachR_spec l).2]
  simp only [List.mem_cons, List.mem_filter, pathQ_rows]
  have hk : x ∈ ksof (l.map prR) ↔ x ∈ l.map (·.ch) := by
    rw [mem_ksof]
    show (upR l x).isSome = true ↔ _
    constructor
    · exact upR_key
    · intro h
      rw [upR_find]
      obtain ⟨r, h1, h2⟩ := List.mem_map.1 h
      cases hf : findR l x with
      | some q => rfl
      | none => exact absurd h2 (findR_none hf r h1)
  rw [hk]
theorem tree_Reached_eq {l : List Rw} (hl : l.length ≤ 50000) (ho : OKl l) : tree_Reached_s (eRws l) = some [eInts (reachR l)] := by
  show reachS _ = _
  unfold reachS
  simp only
  rw [if_pos (by simpa using hl), mapM_rowI ho, Option.map_some, reachQ_rows]
  rfl
theorem foldl_putI_length : ∀ (l : List Rw) (k : List Int), (l.foldl (fun k r => putI k r.ch) k).length ≤ k.length + l.length
  | [], k => by simp
  | r :: l, k => by
    have h1 := foldl_putI_length l (putI k r.ch)
    have h2 := putI_length k r.ch
    simp only [List.foldl_cons, List.length_cons]
    omega
theorem reachR_length (l : List Rw) : (reachR l).length ≤ 1 + l.length := by
  have h1 := foldl_putI_length (l.filter fun r => (wayV l r.ch).isSome) [0]
  have h2 := List.length_filter_le (fun r : Rw => (wayV l r.ch).isSome) l
  unfold reachR
  simp only [List.length_singleton] at h1
  omega
theorem ref12_Reached_eq {l : List Rw} (hl : l.length < 2 ^ 15) : ref12_Reached_s (eRws l) = some [eInts (reachR l)] := by
  unfold ref12_Reached_s
  have key := iter_fold (f := ref12_Reached_l3 (eRws l)) (vs0 := [eInts [0], .int .i64 0]) (fun i (s : List Int) => [eInts s, .int .i64 (i : Int)]) (fun s (r : Rw) => if (wayV l r.ch).isSome = true then putI s r.ch else s) 0 (fun s => [eInts s]) (fun i s => s.length ≤ i + 1) l [0] rfl (by have := rounds_eq; omega) (by simp) (by
    intro i s x hx hI
    have hi : i < l.length := (List.getElem?_eq_some_iff.1 hx).1
    have hpl := putI_length s x.ch
    refine ⟨by split <;> omega, ?_⟩
    have hp := ref12_Path_eq (l := l) (by omega) x.ch
    have hinc := ibin_succ (i := i) (by omega)
    cases hw : wayV l x.ch with
    | none =>
      rw [hw] at hp
      unfold ref12_Reached_l3
      simp only [ilenL_lst, nth_zero, nth_one, ibin_lss, List.length_map, Int.ofNat_lt, hi, at_Rw hx, decide_true, icond_true, Option.bind_some, hp, foundW, iun_not, Bool.not_false, hinc, Option.isSome_none, Bool.false_eq_true, if_false]
    | some o =>
      rw [hw] at hp
      have hit : iter rounds (ref12_Reached_l8 [eInts s, .int .i64 (i : Int)] (eRws l)) [IV.int .i64 0] = some (0, [IV.int .i64 (atI s x.ch : Int)]) := by
        rw [iter_search (vs0 := [IV.int .i64 0]) (fun j => [IV.int .i64 (j : Int)]) (fun y => !decide (y < x.ch)) 0 (fun j => [IV.int .i64 (j : Int)]) 0 [IV.int .i64 (s.length : Int)] s rfl (by have := rounds_eq; omega)]
        · unfold atI
          cases s.findIdx? (fun y => !decide (y < x.ch)) <;> rfl
        · intro j y hy
          have hj : j < s.length := (List.getElem?_eq_some_iff.1 hy).1
          have hb : ibidx s.length (.int .i64 (j : Int)) = some j := ibidx_lt hj
          have hld : ild (eInts s) j 0 = some (.int .i64 y) := ild_map hy
          unfold ref12_Reached_l8
          simp only [nth_zero, nth_one, llen_lst, List.length_map, ibin_lss, Int.ofNat_lt, hj, decide_true, icond_true, Option.bind_some, hb, hld, at_Rw hx, ibin_succ (show j < 2 ^ 62 by omega)]
          by_cases hc : y < x.ch <;> simp [hc]
        · unfold ref12_Reached_l8
          simp
      have hle : atI s x.ch ≤ s.length := by
        unfold atI
        cases h : s.findIdx? (fun y => !decide (y < x.ch)) with
        | none => simp
        | some i => have := (List.findIdx?_eq_some_iff_getElem.1 h).1; simp; omega
      obtain ⟨k, hk⟩ : ∃ k, k = atI s x.ch := ⟨_, rfl⟩
      have hput : putI s x.ch = if s[k]? = some x.ch then s else s.take k ++ [x.ch] ++ s.drop k := by rw [hk]; rfl
      rw [← hk] at hit hle
      have e1 : ibnds s.length (some (.int .i64 (k : Int))) none = some (k, s.length) := by simp [ibnds, bnd, hle]
      have e2 : ibnds s.length none (some (.int .i64 (k : Int))) = some (0, k) := by simp [ibnds, bnd, hle]
      have s1 : lsub (eInts s) k s.length = eInts (s.drop k) := by
        show IV.lst (((s.map eInt).drop k).take (s.length - k)) = _
        rw [List.take_of_length_le (by simp), ← List.map_drop]
      have s2 : lsub (eInts s) 0 k = eInts (s.take k) := by
        simp [lsub, List.map_take]
      have a1 : iapp 1 8 (.lst []) (eInts (s.drop k)) = some (eInts (s.drop k)) := iapp_Ints (l := []) (k := s.drop k) (by simp) (by simp; omega)
      have a2 : iapp 1 8 (.lst []) (eInts (s.take k)) = some (eInts (s.take k)) := iapp_Ints (l := []) (k := s.take k) (by simp) (by simp; omega)
      have a3 : iapp 1 8 (eInts (s.take k)) (.lst [[.int .i64 x.ch]]) = some (eInts (s.take k ++ [x.ch])) := iapp_Ints (l := s.take k) (k := [x.ch]) (by simp; omega) (by simp)
      have a4 : iapp 1 8 (eInts (s.take k ++ [x.ch])) (eInts (s.drop k)) = some (eInts (s.take k ++ [x.ch] ++ s.drop k)) := iapp_Ints (by simp; omega) (by simp; omega)
      unfold ref12_Reached_l3
      simp only [ilenL_lst, nth_zero, nth_one, ibin_lss, List.length_map, Int.ofNat_lt, hi, at_Rw hx, decide_true, icond_true, Option.bind_some, hp, foundW, iun_not, Bool.not_true, icond_false, hit, sel_zero, llen_lst, Option.isSome_some, if_true, hput]
      by_cases hlt : k < s.length
      · obtain ⟨y, hy⟩ : ∃ y, s[k]? = some y := ⟨_, List.getElem?_eq_getElem hlt⟩
        have hb : ibidx s.length (.int .i64 (k : Int)) = some k := ibidx_lt hlt
        have hld : ild (eInts s) k 0 = some (.int .i64 y) := ild_map hy
        simp only [hlt, decide_true, icond_true, hb, hld, Option.bind_some, ibin_eql, nth_zero, icond_dec, hy, Option.some.injEq]
        by_cases he : y = x.ch
        · simp only [he, if_true, hinc, Option.bind_some]
        · simp only [he, if_false, e1, e2, s1, s2, a1, a2, a3, a4, hinc, Option.bind_some]
      · have hy : s[k]? = none := List.getElem?_eq_none (by omega)
        simp only [hlt, decide_false, icond_false, Option.bind_some, nth_zero, hy, reduceCtorEq, if_false, e1, e2, s1, s2, a1, a2, a3, a4, hinc]) (by
    intro s _
    unfold ref12_Reached_l3
    simp)
  have key2 : iter rounds (ref12_Reached_l3 (eRws l)) [.lst [[.int .i64 0]], .int .i64 0] = _ := key
  rw [key2]
  have hfold : ∀ (k : List Rw) (s : List Int), k.foldl (fun s (r : Rw) => if (wayV l r.ch).isSome = true then putI s r.ch else s) s = (k.filter fun r => (wayV l r.ch).isSome).foldl (fun k r => putI k r.ch) s := by
    intro k
    induction k with
    | nil => intro s; rfl
    | cons r k ih =>
      intro s
      rw [List.foldl_cons, ih]
      by_cases h : (wayV l r.ch).isSome = true <;> simp [h]
  rw [hfold]
  simp [sel_zero, reachR]
theorem law12_live_eq : law12_live_s = some [.bool true] := by kernel_rfl
end Go.AM

/- The laws of trees, first part. -/
set_option linter.unusedVariables false
set_option linter.unusedSimpArgs false
namespace Go.AM
theorem rowB_inv {cs : List IV} (h : Typed shRw cs) : ∃ r : Rw, cs = [.int .i64 r.ch, .int .i64 r.par, .str r.nm, .flt .f64 r.rk] ∧ OKr r := Rw_inv cs h
set_option maxHeartbeats 1000000 in
theorem law12_TreeTells_true (l m : List Rw) (c : Int) (hl : OKl l) (hm : OKl m) (hc : in64 c) : law12_TreeTells_s (eRws l) (eRws m) (.int .i64 c) = some [.bool true] := by
  unfold law12_TreeTells_s
  simp only [ref12_Few_eq, law12_live_eq, Option.bind_some, nth_zero, iun_not, icond_bool]
  by_cases h1 : fewR l = true
  · by_cases h2 : fewR m = true
    · have b1 := fewR_len h1
      have b2 := fewR_len h2
      have hit : iter rounds (law12_TreeTells_l4 (eRws l)) [.int .i64 0] = some (0, []) := by
        rw [iter_check (vs0 := [IV.int .i64 0]) (fun i => [IV.int .i64 (i : Int)]) (fun i (r : Rw) => false) 1 [.bool false] 0 [] l rfl (by have := rounds_eq; omega)]
        · have hno : anyI (fun i (r : Rw) => false) l 0 = false := by rw [anyI_false]; exact fun _ _ _ => rfl
          rw [hno]; rfl
        · intro i x hx
          have hi : i < l.length := (List.getElem?_eq_some_iff.1 hx).1
          unfold law12_TreeTells_l4
          simp only [ilenL_lst, nth_zero, nth_one, nth_two, nth_three, ibin_lss, List.length_map, Int.ofNat_lt, hi, at_Rw hx, decide_true, icond_true, Option.bind_some, tree_One_eq, ref12_One_eq, ibinB_neq, beq_self_eq_true, Bool.not_true, icond_false, ibin_succ (show i < 2 ^ 62 by omega), Bool.false_eq_true, if_false]
        · unfold law12_TreeTells_l4
          simp
      have f1 := tree_Find_eq (l := l) (by omega) c
      have f2 := ref12_Find_eq (l := l) (by omega) c
      have m1 := tree_May_eq (l := l) (by omega) hl
      have m2 := ref12_May_eq (l := l) (by omega)
      have s1 := tree_Same_eq (a := l) (b := m) (by omega) hl.fl hm.fl
      have s2 := ref12_Same_eq (a := l) (b := m) (by omega) hl.fl hm.fl
      have d1 := tree_Drop_eq (l := l) (by omega) c
      have d2 := ref12_Drop_eq (l := l) (by omega) c
      have s3 := ref12_Same_eq (a := dropR l c) (b := dropR l c) (by have := dropR_length l c; omega) hl.drop.fl hl.drop.fl
      simp only [sameR_refl] at s3
      have ha : ∃ r : Rw, r.rk < 2 ^ 64 ∧ ∃ b, foundI (findR l c) = [.int .i64 r.ch, .int .i64 r.par, .str r.nm, .flt .f64 r.rk, .bool b] := by
        cases hf : findR l c with
        | none => exact ⟨⟨0, 0, ⟨#[]⟩, 0⟩, by decide, false, rfl⟩
        | some r => exact ⟨r, (hl r (List.mem_of_find?_eq_some hf)).rk, true, rfl⟩
      obtain ⟨r, hr, b, hfi⟩ := ha
      have al := ref12_AlikeR (a := r) (b := r) hr hr
      simp only [decide_true] at al
      rw [hfi] at f1 f2
      simp only [h1, h2, hit, f1, f2, m1, m2, s1, s2, d1, d2, s3, al, Bool.not_true, Bool.false_eq_true, if_false, Option.bind_some, sel_zero, nth_zero, nth_one, nth_two, nth_three, nth_four, icond_true, icond_false, ibinB_eql, beq_self_eq_true, scal_bool, scal_nil, Option.map_some]
    · simp [h1, h2]
  · simp [h1]
set_option maxHeartbeats 1000000 in
theorem law12_TreeSets_true (l : List Rw) (r : Rw) (a b : Int) (hl : OKl l) (hr : OKr r) (ha : in64 a) (hb : in64 b) : law12_TreeSets_s (eRws l) (.int .i64 r.ch) (.int .i64 r.par) (.str r.nm) (.flt .f64 r.rk) (.int .i64 a) (.int .i64 b) = some [.bool true] := by
  unfold law12_TreeSets_s
  simp only [ref12_Few_eq, law12_live_eq, Option.bind_some, nth_zero, iun_not, ilenS_str, ibin_gtr, icond_bool]
  by_cases h1 : fewR l = true
  · have b1 := fewR_len h1
    have p1 := tree_Path_eq (l := l) (by omega) hl ha
    have p2 := ref12_Path_eq (l := l) (by omega) a
    have s1 := tree_Set_eq (l := l) (by omega) r
    have s2 := ref12_Set_eq (l := l) (by omega) r
    have e1 := ref12_Same_eq (a := setR l r) (b := setR l r) (by have := setR_length l r; omega) (hl.set hr).fl (hl.set hr).fl
    have a1 := tree_Above_eq (l := l) (by omega) hl a hb
    have a2 := ref12_Above_eq (l := l) (by omega) a b
    have k1 := tree_Kids_eq (l := l) (by omega) hl.fl b
    have k2 := ref12_Kids_eq (l := l) (by omega) hl.fl b
    have hkf : ∀ x ∈ kidsR l b, x.rk < 2 ^ 64 := fun x hx => hl.fl x (mem_kidsR.1 hx).1
    have e2 := ref12_Same_eq (a := kidsR l b) (b := kidsR l b) (by have := kidsR_length l b; omega) hkf hkf
    have q1 := tree_Reached_eq (l := l) (by omega) hl
    have q2 := ref12_Reached_eq (l := l) (by omega)
    have e3 := ref05_Same_eq (a := reachR l) (b := reachR l) (by have := reachR_length l; omega)
    simp only [sameR_refl, decide_true] at e1 e2 e3
    have hp : ∃ (o : List Int) (t : Bool), foundW (wayV l a) = [eInts o, .bool t] ∧ o.length < 2 ^ 16 := by
      cases hw : wayV l a with
      | none => exact ⟨[], false, rfl, by simp⟩
      | some o =>
        refine ⟨o, true, rfl, ?_⟩
        have : ∀ (n : Nat) (out o : List Int) (x : Int), wayR (upR l) n out x = some o → o.length ≤ out.length + n := by
          intro n
          induction n with
          | zero => intro out o x h; cases h
          | succ n ih =>
            intro out o x h
            unfold wayR at h
            split at h
            · split at h
              · cases h; omega
              · cases h
            · split at h
              · cases h
              · have := ih _ _ _ h; simp at this; omega
        have := this _ _ _ _ hw
        simp at this; omega
    obtain ⟨o, t, hfo, hol⟩ := hp
    rw [hfo] at p1 p2
    have e4 := ref05_Same_eq (a := o) (b := o) hol
    simp only [decide_true] at e4
    simp only [h1, p1, p2, s1, s2, e1, a1, a2, k1, k2, e2, q1, q2, e3, e4, Bool.not_true, Bool.false_eq_true, if_false, Option.bind_some, nth_zero, nth_one, icond_true, ibinB_eql, beq_self_eq_true, scal_bool, scal_nil, Option.map_some]
    cases h2 : decide (100 < (r.nm.size : Int)) <;> simp_all
  · simp [h1]
/-- Of two that are above one, one is above the other one. -/
theorem abv_either {l : List Rw} {a b c : Int} (h1 : Abv l a c) (h2 : Abv l b c) (h : a ≠ b) : Abv l a b ∨ Abv l b a := by
  obtain ⟨i, hi⟩ := h1
  obtain ⟨j, hj⟩ := h2
  rcases Nat.lt_trichotomy i j with c1 | c1 | c1
  · right
    refine ⟨j - i - 1, ?_⟩
    have : nodeAt (upR l) ((i + 1) + (j - i - 1 + 1)) c = some b := by rw [show i + 1 + (j - i - 1 + 1) = j + 1 by omega]; exact hj
    rw [nodeAt_add, hi] at this
    exact this
  · subst c1
    rw [hi] at hj
    cases hj
    exact absurd rfl h
  · left
    refine ⟨i - j - 1, ?_⟩
    have : nodeAt (upR l) ((j + 1) + (i - j - 1 + 1)) c = some a := by rw [show j + 1 + (i - j - 1 + 1) = i + 1 by omega]; exact hi
    rw [nodeAt_add, hj] at this
    exact this
set_option maxHeartbeats 1000000 in
theorem law12_TreeOrder_true (l : List Rw) (a b c : Int) (hl : OKl l) (ha : in64 a) (hb : in64 b) (hc : in64 c) : law12_TreeOrder_s (eRws l) (.int .i64 a) (.int .i64 b) (.int .i64 c) = some [.bool true] := by
  unfold law12_TreeOrder_s
  by_cases h1 : fewR l = true
  · have b1 := fewR_len h1
    have m2 := ref12_May_eq (l := l) (by omega)
    by_cases h2 : mayR l = true
    · obtain ⟨_, _, _, hac⟩ := mayR_parts h2
      have aa := tree_Above_eq (l := l) (by omega) hl a ha
      have ab := tree_Above_eq (l := l) (by omega) hl a hb
      have bc := tree_Above_eq (l := l) (by omega) hl b hc
      have ac := tree_Above_eq (l := l) (by omega) hl a hc
      have ba := tree_Above_eq (l := l) (by omega) hl b ha
      have v1 : aboveV l a a = false := (aboveV_false _ _ _).2 (hac a)
      have v2 : (aboveV l a b && aboveV l b c && !aboveV l a c) = false := by
        cases x1 : aboveV l a b <;> cases x2 : aboveV l b c <;> cases x3 : aboveV l a c <;> simp
        have := (aboveV_iff _ _ _).2 (abv_trans ((aboveV_iff _ _ _).1 x1) ((aboveV_iff _ _ _).1 x2))
        rw [x3] at this; cases this
      have v3 : (aboveV l a b && aboveV l b a) = false := by
        cases x1 : aboveV l a b <;> cases x2 : aboveV l b a <;> simp
        exact hac a (abv_trans ((aboveV_iff _ _ _).1 x1) ((aboveV_iff _ _ _).1 x2))
      have v4 : aboveV l a c = true → aboveV l b c = true → a ≠ b → aboveV l a b = false → aboveV l b a = false → False := by
        intro x1 x2 x3 x4 x5
        rcases abv_either ((aboveV_iff _ _ _).1 x1) ((aboveV_iff _ _ _).1 x2) x3 with h | h
        · rw [(aboveV_iff _ _ _).2 h] at x4; cases x4
        · rw [(aboveV_iff _ _ _).2 h] at x5; cases x5
      simp only [ref12_Few_eq, m2, h1, h2, aa, ab, bc, ac, ba, v1, law12_live_eq, Option.bind_some, nth_zero, iun_not, Bool.not_true, icond_false, ibin_neq, scal_bool, scal_nil, Option.map_some]
      by_cases hab : a = b
      · subst hab
        rw [v1] at *
        cases x2 : aboveV l a c <;> simp
      · cases x1 : aboveV l a b <;> cases x2 : aboveV l b c <;> cases x3 : aboveV l a c <;> cases x4 : aboveV l b a <;> simp_all
    · simp [ref12_Few_eq, h1, m2, h2, law12_live_eq]
  · simp [ref12_Few_eq, h1, law12_live_eq]
end Go.AM

/- The laws of trees, second part: ways up. -/
set_option linter.unusedVariables false
set_option linter.unusedSimpArgs false
namespace Go.AM
/-- What a way up is. -/
theorem way_spec {f : Int → Option Int} : ∀ (n : Nat) (out p : List Int) (x : Int), wayR f n out x = some p → ∃ q, p = out ++ q ∧ (∀ k z, (x :: q)[k]? = some z → nodeAt f k x = some z) ∧ (x :: q).getLast? = some 0
  | 0, out, p, x, h => by cases h
  | n + 1, out, p, x, h => by
    unfold wayR at h
    cases hf : f x with
    | none =>
      rw [hf] at h
      simp only at h
      split at h
      · rename_i hx
        cases h
        refine ⟨[], by simp, fun k z hz => ?_, by simp [hx]⟩
        cases k with
        | zero => cases hz; rfl
        | succ k => simp at hz
      · cases h
    | some y =>
      rw [hf] at h
      simp only at h
      split at h
      · cases h
      · obtain ⟨q, h1, h2, h3⟩ := way_spec n _ _ _ h
        refine ⟨y :: q, by rw [h1]; simp, fun k z hz => ?_, by rw [List.getLast?_cons_cons]; exact h3⟩
        cases k with
        | zero => cases hz; rfl
        | succ k =>
          rw [nodeAt_succ, hf]
          exact h2 k z (by simpa using hz)
theorem way_some {l : List Rw} (hac : ∀ c, ¬ Abv l c c) (h0 : upR l 0 = none) : ∀ (k n : Nat) (out : List Int) (x : Int), k < n → nodeAt (upR l) k x = some 0 → (∀ w ∈ out, w = x ∨ Abv l x w) → (wayR (upR l) n out x).isSome = true
  | k, 0, out, x, h, _, _ => by omega
  | 0, n + 1, out, x, h, hk, ho => by
    rw [nodeAt_zero] at hk
    cases hk
    unfold wayR
    rw [h0]
    rfl
  | k + 1, n + 1, out, x, h, hk, ho => by
    rw [nodeAt_succ] at hk
    unfold wayR
    cases hf : upR l x with
    | none => rw [hf] at hk; cases hk
    | some y =>
      rw [hf] at hk
      have hyx : Abv l y x := ⟨0, by rw [nodeAt_one]; exact hf⟩
      have hno : out.contains y = false := by
        cases hc : out.contains y with
        | false => rfl
        | true =>
          have hm : y ∈ out := by simpa using hc
          rcases ho y hm with rfl | h1
          · exact absurd hyx (hac _)
          · exact absurd (abv_trans hyx h1) (hac _)
      simp only [hno, Bool.false_eq_true, if_false]
      refine way_some hac h0 k n (out ++ [y]) y (by omega) hk fun w hw => ?_
      rcases List.mem_append.1 hw with hw | hw
      · rcases ho w hw with rfl | h1
        · exact .inr hyx
        · exact .inr (abv_trans hyx h1)
      · exact .inl (by simpa using hw)
theorem wayV_iff {l : List Rw} (hac : ∀ c, ¬ Abv l c c) (h0 : upR l 0 = none) (c : Int) : (wayV l c).isSome = true ↔ c = 0 ∨ Abv l 0 c := by
  constructor
  · intro h
    obtain ⟨p, hp⟩ := Option.isSome_iff_exists.1 h
    obtain ⟨q, h1, h2, h3⟩ := way_spec _ _ _ _ hp
    cases q with
    | nil => simp at h3; exact .inl h3
    | cons y q =>
      right
      rw [List.getLast?_eq_getElem?] at h3
      have := h2 _ _ h3
      exact ⟨q.length, by simpa using this⟩
  · rintro (rfl | ⟨k, hk⟩)
    · unfold wayV wayR
      rw [h0]; rfl
    · have hK : ∀ x, (upR l x).isSome = true → x ∈ l.map (·.ch) := fun x h => upR_key h
      obtain ⟨j, h1, h2⟩ := nodeAt_short hK k hk
      rw [List.length_map] at h1
      exact way_some hac h0 (j + 1) (l.length + 1) [c] c (by omega) h2 fun w hw => .inl (by simpa using hw)
theorem may_zero {l : List Rw} (h : mayR l = true) : upR l 0 = none := by
  obtain ⟨_, h2, _, _⟩ := mayR_parts h
  cases hu : upR l 0 with
  | none => rfl
  | some y =>
    have := upR_key (l := l) (x := 0) (by rw [hu]; rfl)
    obtain ⟨r, hr, hc⟩ := List.mem_map.1 this
    have := h2 r hr
    unfold oneR rowB at this
    simp only [Bool.and_eq_true, decide_eq_true_eq] at this
    omega
theorem upR_iff (l : List Rw) (c : Int) : (upR l c).isSome = true ↔ c ∈ l.map (·.ch) := by
  constructor
  · exact upR_key
  · intro h
    rw [upR_find]
    obtain ⟨r, h1, h2⟩ := List.mem_map.1 h
    cases hf : findR l c with
    | some q => rfl
    | none => exact absurd h2 (findR_none hf r h1)
theorem find_mem {l : List Rw} {c : Int} {r : Rw} (h : findR l c = some r) : r ∈ l ∧ r.ch = c := by
  refine ⟨List.mem_of_find?_eq_some h, ?_⟩
  have := List.find?_some h
  simpa [isC] using this
set_option maxHeartbeats 4000000 in
theorem law12_TreePaths_true (l : List Rw) (c : Int) (hl : OKl l) (hc : in64 c) : law12_TreePaths_s (eRws l) (.int .i64 c) = some [.bool true] := by
  unfold law12_TreePaths_s
  by_cases h1 : fewR l = true
  · have b1 := fewR_len h1
    have m2 := ref12_May_eq (l := l) (by omega)
    by_cases h2 : mayR l = true
    · obtain ⟨_, hone, hri, hac⟩ := mayR_parts h2
      have h0 := may_zero h2
      have hiff := wayV_iff hac h0 c
      have hz : in64 0 := by unfold in64; omega
      have p1 := tree_Path_eq (l := l) (by omega) hl hc
      have a1 := tree_Above_eq (l := l) (by omega) hl 0 hc
      have q1 := tree_Reached_eq (l := l) (by omega) hl
      have f1 := tree_Find_eq (l := l) (by omega) c
      obtain ⟨hrr, hrm⟩ := reachR_spec l
      have hrl := reachR_length l
      -- who is reached, looked through
      have it1 : iter rounds (law12_TreePaths_l9 [eInts (reachR l)] (.int .i64 c)) [.bool false, .int .i64 0] = some (0, [.bool ((reachR l).contains c)]) := by
        have key := iter_fold (f := law12_TreePaths_l9 [eInts (reachR l)] (.int .i64 c)) (vs0 := [.bool false, .int .i64 0]) (fun i (s : Bool) => [.bool s, .int .i64 (i : Int)]) (fun s (x : Int) => s || decide (x = c)) 0 (fun s => [.bool s]) (fun _ _ => True) (reachR l) false rfl (by have := rounds_eq; omega) trivial (by
          intro i s x hx _
          have hi : i < (reachR l).length := (List.getElem?_eq_some_iff.1 hx).1
          refine ⟨trivial, ?_⟩
          unfold law12_TreePaths_l9
          by_cases hi0 : 0 < i
          · obtain ⟨y, hy⟩ : ∃ y, (reachR l)[i - 1]? = some y := ⟨_, List.getElem?_eq_getElem (by omega)⟩
            have hlt : y < x := by
              obtain ⟨g1, rfl⟩ := List.getElem?_eq_some_iff.1 hx
              obtain ⟨g2, rfl⟩ := List.getElem?_eq_some_iff.1 hy
              exact List.pairwise_iff_getElem.1 hrr (i - 1) i g2 g1 (by omega)
            have hge : ¬ x ≤ y := by omega
            have hiz : (0 : Int) < (i : Int) := by omega
            cases s <;> simp only [ilenL_lst, nth_zero, nth_one, ibin_lss, List.length_map, Int.ofNat_lt, hi, decide_true, icond_true, icond_false, Option.bind_some, at_Int hx, at_Int hy, ibin_eql, ibin_gtr, hiz, ibin_pred (show i < 2 ^ 62 by omega) hi0, ibin_geq, hge, decide_false, ibin_succ (show i < 2 ^ 62 by omega), Bool.false_or, Bool.true_or]
          · obtain rfl : i = 0 := by omega
            have hiz : ¬ (0 : Int) < ((0 : Nat) : Int) := by omega
            cases s <;> simp only [ilenL_lst, nth_zero, nth_one, ibin_lss, List.length_map, Int.ofNat_lt, hi, decide_true, icond_true, icond_false, Option.bind_some, at_Int hx, ibin_eql, ibin_gtr, hiz, decide_false, ibin_succ (show 0 < 2 ^ 62 by omega), Bool.false_or, Bool.true_or]) (by
          intro s _
          unfold law12_TreePaths_l9
          simp)
        rw [key]
        have : ∀ (k : List Int) (s : Bool), k.foldl (fun s (x : Int) => s || decide (x = c)) s = (s || k.contains c) := by
          intro k
          induction k with
          | nil => intro s; simp
          | cons y k ih =>
            intro s
            rw [List.foldl_cons, ih, List.contains_cons, Bool.or_assoc]
            congr 2
            rw [Bool.eq_iff_iff]
            simp only [decide_eq_true_eq, beq_iff_eq]
            exact eq_comm
        rw [this]
        simp
      have ham : (reachR l).contains c = ((wayV l c).isSome && ((findR l c).isSome || decide (c = 0))) := by
        have hfk : (findR l c).isSome = true ↔ c ∈ l.map (·.ch) := by
          rw [← upR_iff, upR_find]
          cases findR l c <;> simp
        rw [Bool.eq_iff_iff]
        simp only [Bool.and_eq_true, Bool.or_eq_true, decide_eq_true_eq, List.contains_iff_mem]
        rw [hrm, hfk]
        constructor
        · rintro (rfl | ⟨h3, h4⟩)
          · exact ⟨hiff.2 (.inl rfl), .inr rfl⟩
          · exact ⟨h4, .inl h3⟩
        · rintro ⟨h3, h4 | h4⟩
          · exact .inr ⟨h4, h3⟩
          · exact .inl h4
      simp only [ref12_Few_eq, h1, m2, h2, law12_live_eq, Option.bind_some, nth_zero, iun_not, Bool.not_true, icond_false, ibin_eql, p1]
      cases hw : wayV l c with
      | none =>
        rw [hw] at hiff ham
        have hc0 : ¬ c = 0 := fun e => by have := hiff.2 (.inl e); cases this
        have hab : aboveV l 0 c = false := (aboveV_false _ _ _).2 fun h => by have := hiff.2 (.inr h); cases this
        have it2 : iter rounds (law12_TreePaths_l18 [eInts [], .bool false] (.int .i64 c) (eRws l)) [.int .i64 0] = some (0, []) := by
          obtain ⟨m, hm⟩ : ∃ m, rounds = m + 1 := ⟨rounds - 1, by have := rounds_eq; omega⟩
          rw [hm]
          exact iter_done m (by
            unfold law12_TreePaths_l18
            simp only [nth_zero, ilenL_lst, List.map_nil, List.length_nil, Option.bind_some, ibin_lss, Int.natCast_zero, Int.lt_irrefl, decide_false, icond_false])
        have it2' : iter rounds (law12_TreePaths_l18 [.lst [], .bool false] (.int .i64 c) (eRws l)) [.int .i64 0] = some (0, []) := it2
        simp only [Option.isSome_none, Bool.false_and] at ham
        simp only [foundW, nth_zero, nth_one, hc0, decide_false, icond_false, a1, hab, Option.bind_some, ibinB_neq, beq_self_eq_true, Bool.not_true, q1, it1, ham, sel_zero, f1, Bool.not_false, icond_true, ilenL_lst, List.length_nil, ibin_neq, iun_not, it2', law12_live_eq, scal_bool, scal_nil, Option.map_some]
        cases findR l c <;> simp [foundI, Option.bind_some]
      | some p =>
        have hw0 : wayR (upR l) (l.length + 1) [c] c = some p := hw
        obtain ⟨q, rfl, hnode, hlast⟩ := way_spec _ _ _ _ hw0
        rw [hw] at hiff ham
        have hplen : ([c] ++ q).length < 2 ^ 16 := by
          have : ∀ (n : Nat) (out o : List Int) (x : Int), wayR (upR l) n out x = some o → o.length ≤ out.length + n := by
            intro n
            induction n with
            | zero => intro out o x h; cases h
            | succ n ih =>
              intro out o x h
              unfold wayR at h
              split at h
              · split at h
                · cases h; omega
                · cases h
              · split at h
                · cases h
                · have := ih _ _ _ h; simp at this; omega
          have := this _ _ _ _ hw0
          simp at this ⊢; omega
        obtain ⟨p, hp⟩ : ∃ p, p = [c] ++ q := ⟨_, rfl⟩
        have hnode2 : ∀ k z, p[k]? = some z → nodeAt (upR l) k c = some z := fun k z h => hnode k z (by rw [hp] at h; exact h)
        have hpl : 0 < p.length := by rw [hp]; simp
        rw [← hp] at hplen hw ⊢
        have hla : p[p.length - 1]? = some 0 := by rw [← List.getLast?_eq_getElem?, hp]; exact hlast
        have it2 : iter rounds (law12_TreePaths_l18 [eInts p, .bool true] (.int .i64 c) (eRws l)) [.int .i64 0] = some (0, []) := by
          rw [iter_check (vs0 := [IV.int .i64 0]) (fun i => [IV.int .i64 (i : Int)]) (fun i (z : Int) => false) 1 [.bool false] 0 [] p rfl (by have := rounds_eq; omega)]
          · have hno : anyI (fun i (r : Int) => false) p 0 = false := by rw [anyI_false]; exact fun _ _ _ => rfl
            rw [hno]; rfl
          · intro i z hz
            have hi : i < p.length := (List.getElem?_eq_some_iff.1 hz).1
            have hnz := hnode2 i z hz
            unfold law12_TreePaths_l18
            by_cases hi0 : i = 0
            · have dz : decide (z = c) = true := by
                subst hi0
                rw [nodeAt_zero] at hnz
                cases hnz
                simp
              have d0 : decide ((i : Int) = 0) = true := by simp [hi0]
              have d1 : decide ((0 : Int) < (i : Int)) = false := by simp [hi0]
              simp only [ilenL_lst, nth_zero, nth_one, ibin_lss, List.length_map, Int.ofNat_lt, hi, decide_true, icond_true, icond_false, Option.bind_some, at_Int hz, ibin_eql, dz, d0, ibinB_neq, ibin_gtr, d1, beq_self_eq_true, Bool.not_true, Bool.false_eq_true, if_false, ibin_succ (show i < 2 ^ 62 by omega)]
            · obtain ⟨i, rfl⟩ : ∃ i', i = i' + 1 := ⟨i - 1, by omega⟩
              have habz : Abv l z c := ⟨i, hnz⟩
              have hzc : ¬ z = c := fun e => hac c (e ▸ habz)
              have hab := tree_Above_eq (l := l) (by omega) hl z hc
              rw [(aboveV_iff _ _ _).2 habz] at hab
              obtain ⟨y, hy⟩ : ∃ y, p[i]? = some y := ⟨_, List.getElem?_eq_getElem (by omega)⟩
              have hny := hnode2 i y hy
              rw [nodeAt_snoc, hny] at hnz
              have hup : upR l y = some z := hnz
              rw [upR_find] at hup
              obtain ⟨r, hr, hrp⟩ := Option.map_eq_some_iff.1 hup
              obtain ⟨hrl2, hrc⟩ := find_mem hr
              have kk := tree_Kids_eq (l := l) (by omega) hl.fl z
              have hkl := kidsR_length l z
              have hin : iter rounds (law12_TreePaths_l26 [eRws (kidsR l z)] [.int .i64 ((i + 1 : Nat) : Int)] [eInts p, .bool true]) [.bool false, .int .i64 0] = some (0, [.bool true]) := by
                have key := iter_fold (f := law12_TreePaths_l26 [eRws (kidsR l z)] [.int .i64 ((i + 1 : Nat) : Int)] [eInts p, .bool true]) (vs0 := [.bool false, .int .i64 0]) (fun j (s : Bool) => [.bool s, .int .i64 (j : Int)]) (fun s (x : Rw) => s || decide (x.ch = y)) 0 (fun s => [.bool s]) (fun _ _ => True) (kidsR l z) false rfl (by have := rounds_eq; omega) trivial (by
                  intro j s x hx _
                  have hj : j < (kidsR l z).length := (List.getElem?_eq_some_iff.1 hx).1
                  have hpred := ibin_pred (i := i + 1) (by omega) (by omega)
                  simp only [Nat.add_sub_cancel] at hpred
                  refine ⟨trivial, ?_⟩
                  unfold law12_TreePaths_l26
                  cases s <;> simp only [ilenL_lst, nth_zero, nth_one, ibin_lss, List.length_map, Int.ofNat_lt, hj, decide_true, icond_true, icond_false, Option.bind_some, at_Rw hx, at_Int hy, hpred, ibin_eql, ibin_succ (show j < 2 ^ 62 by omega), Bool.false_or, Bool.true_or]) (by
                  intro s _
                  unfold law12_TreePaths_l26
                  simp)
                rw [key]
                have hany : ∀ (k : List Rw) (s : Bool), k.foldl (fun s (x : Rw) => s || decide (x.ch = y)) s = (s || k.any fun x => decide (x.ch = y)) := by
                  intro k
                  induction k with
                  | nil => intro s; simp
                  | cons x k ih => intro s; rw [List.foldl_cons, ih, List.any_cons, Bool.or_assoc]
                rw [hany]
                have : (kidsR l z).any (fun x => decide (x.ch = y)) = true := List.any_eq_true.2 ⟨r, mem_kidsR.2 ⟨hrl2, hrp⟩, by simpa using hrc⟩
                rw [this]; rfl
              have hi1 : ((i + 1 : Nat) : Int) ≠ 0 := by omega
              have hpos : (0 : Int) < ((i + 1 : Nat) : Int) := by omega
              simp only [ilenL_lst, nth_zero, nth_one, ibin_lss, List.length_map, Int.ofNat_lt, hi, decide_true, icond_true, icond_false, Option.bind_some, at_Int hz, ibin_eql, hzc, hi1, decide_false, ibinB_neq, beq_self_eq_true, Bool.not_true, ibin_gtr, hpos, hab, iun_not, kk, hin, sel_zero, ibin_succ (show i + 1 < 2 ^ 62 by omega), Bool.false_eq_true, if_false]
          · unfold law12_TreePaths_l18
            simp
        have hlp : ¬ (p.length : Int) = 0 := by omega
        have hpr := ibin_pred (i := p.length) (by omega) hpl
        have hlast2 := at_Int hla
        simp only [Option.isSome_some, Bool.true_and] at ham
        have hstep1 : ∀ b : Bool, (c = 0 → b = true) → (b = true → True) → True := fun _ _ _ => trivial
        have key1 : ((icond (.bool (decide (c = 0))) (fun _ => (ibinB .neq (.bool true) (.bool true)).bind fun v9 => icond v9 (fun _ => some [(.bool true)]) (fun _ => icond (.bool true) (fun _ => (ilenL (eInts p)).bind fun v10 => (ibin .eql v10 (.int .i64 0)).bind fun v11 => some [v11]) (fun _ => some [(.bool false)])))
            (fun _ => (tree_Above_s (eRws l) (.int .i64 0) (.int .i64 c)).bind fun v12 => (ibinB .neq (.bool true) (nth v12 0)).bind fun v13 => icond v13 (fun _ => some [(.bool true)]) (fun _ => icond (.bool true) (fun _ => (ilenL (eInts p)).bind fun v14 => (ibin .eql v14 (.int .i64 0)).bind fun v15 => some [v15]) (fun _ => some [(.bool false)])))) : Option (List IV)) = some [.bool false] := by
          by_cases hc0 : c = 0
          · simp only [hc0, decide_true, icond_true, ibinB_neq, beq_self_eq_true, Bool.not_true, Option.bind_some, icond_false, ilenL_lst, List.length_map, ibin_eql, hlp, decide_false]
          · have hab : aboveV l 0 c = true := (aboveV_iff _ _ _).2 ((hiff.1 rfl).resolve_left hc0)
            simp only [hc0, decide_false, icond_false, a1, hab, nth_zero, icond_true, ibinB_neq, beq_self_eq_true, Bool.not_true, Option.bind_some, ilenL_lst, List.length_map, ibin_eql, hlp]
        simp only [foundW, nth_zero, nth_one]
        rw [key1]
        simp only [Option.bind_some, nth_zero, icond_false, q1, it1, ham, sel_zero, f1, icond_true]
        cases hf : findR l c with
        | none =>
          simp only [foundI, nth_four, Option.isSome_none, Bool.false_or, icond_false, ibin_eql, Option.bind_some, ibinB_neq, beq_self_eq_true, Bool.not_true, iun_not, it2, sel_zero, ilenL_lst, List.length_map, hpr, hlast2, decide_true, icond_true, law12_live_eq, scal_bool, scal_nil, Option.map_some, nth_zero]
        | some r =>
          simp only [foundI, nth_four, Option.isSome_some, Bool.true_or, icond_true, icond_false, ibin_eql, Option.bind_some, ibinB_neq, beq_self_eq_true, Bool.not_true, iun_not, it2, sel_zero, ilenL_lst, List.length_map, hpr, hlast2, decide_true, law12_live_eq, scal_bool, scal_nil, Option.map_some, nth_zero]
    · simp [ref12_Few_eq, h1, m2, h2, law12_live_eq]
  · simp [ref12_Few_eq, h1, law12_live_eq]
end Go.AM

/- The laws of trees, third part: kids; what is hung elsewhere. -/
set_option linter.unusedVariables false
set_option linter.unusedSimpArgs false
namespace Go.AM
theorem perm_ins {α : Type} {lt : α → α → Bool} (x : α) : ∀ l : List α, (ins lt x l).Perm (x :: l)
  | [] => List.Perm.refl _
  | y :: l => by
    unfold ins
    split
    · exact List.Perm.refl _
    · exact ((perm_ins x l).cons y).trans (List.Perm.swap x y l)
theorem perm_mg {α : Type} {lt : α → α → Bool} : ∀ R L : List α, (mg lt L R).Perm (L ++ R)
  | [], L => by simp [mg]
  | x :: R, L => by
    rw [mg_cons]
    refine (perm_mg R _).trans ?_
    refine ((perm_ins x L).append_right R).trans ?_
    rw [List.cons_append]
    exact List.perm_middle.symm
theorem perm_isrt {α : Type} {lt : α → α → Bool} (l : List α) : (isrt lt l).Perm l := by
  have := perm_mg (lt := lt) l []
  simpa [isrt] using this
theorem map_inj {α : Type} {f : α → Int} : ∀ {l : List α}, (l.map f).Nodup → ∀ x ∈ l, ∀ y ∈ l, f x = f y → x = y
  | [], _, x, hx, _, _, _ => by simp at hx
  | a :: l, h, x, hx, y, hy, e => by
    rw [List.map_cons, List.nodup_cons] at h
    rcases List.mem_cons.1 hx with rfl | hx1
    · rcases List.mem_cons.1 hy with rfl | hy1
      · rfl
      · exact absurd (List.mem_map.2 ⟨y, hy1, e.symm⟩) h.1
    · rcases List.mem_cons.1 hy with rfl | hy1
      · exact absurd (List.mem_map.2 ⟨x, hx1, e⟩) h.1
      · exact map_inj h.2 x hx1 y hy1 e
theorem find_self {l : List Rw} (h : (l.map (·.ch)).Nodup) {x : Rw} (hx : x ∈ l) : findR l x.ch = some x := by
  cases hf : findR l x.ch with
  | none => exact absurd rfl (findR_none hf x hx)
  | some r =>
    obtain ⟨h1, h2⟩ := find_mem hf
    rw [map_inj h r h1 x hx h2]
theorem kidsR_nodup {l : List Rw} (h : (l.map (·.ch)).Nodup) (p : Int) : ((kidsR l p).map (·.ch)).Nodup := by
  have h1 : (kidsR l p).Perm (l.filter fun r => decide (r.par = p)) := perm_isrt _
  refine ((h1.map (·.ch)).nodup_iff).2 ?_
  exact h.sublist (List.filter_sublist.map _)
theorem kidsR_rise {l : List Rw} (h : (l.map (·.ch)).Nodup) (p : Int) {k : Nat} {x y : Rw} (hx : (kidsR l p)[k]? = some x) (hy : (kidsR l p)[k + 1]? = some y) : lessR x y = true := by
  have hs : Srt lessR (kidsR l p) := srt_isrt swo_lessR _
  obtain ⟨h1, e1⟩ := List.getElem?_eq_some_iff.1 hx
  obtain ⟨h2, e2⟩ := List.getElem?_eq_some_iff.1 hy
  have hle : lessR y x = false := by
    have := List.pairwise_iff_getElem.1 hs k (k + 1) h1 h2 (by omega)
    rw [e1, e2] at this
    exact this
  have hne : x.ch ≠ y.ch := by
    have := List.pairwise_iff_getElem.1 (kidsR_nodup h p) k (k + 1) (by simpa using h1) (by simpa using h2) (by omega)
    rw [List.getElem_map, List.getElem_map, e1, e2] at this
    exact this
  unfold lessR at hle ⊢
  simp only [Bool.or_eq_false_iff, Bool.and_eq_false_iff, decide_eq_false_iff_not] at hle
  simp only [Bool.or_eq_true, Bool.and_eq_true, decide_eq_true_eq]
  omega
theorem drop_set (l : List Rw) (r : Rw) : dropR (setR l r) r.ch = dropR l r.ch := by
  unfold setR
  cases h : l.findIdx? (isC r.ch) with
  | some i =>
    obtain ⟨h1, h2, h3⟩ := List.findIdx?_eq_some_iff_getElem.1 h
    have hf : (l.set i r).findIdx? (isC r.ch) = some i := by
      rw [List.findIdx?_eq_some_iff_getElem]
      refine ⟨by simpa using h1, by simp [isC], fun j hj => ?_⟩
      rw [List.getElem_set_ne (by omega)]
      exact h3 j hj
    simp only
    unfold dropR
    rw [hf, h]
    simp only
    rw [List.take_set_of_le (Nat.le_refl i), List.drop_set_of_lt (by omega)]
  | none =>
    simp only
    have hk := atR_le l r.ch
    have hall : ∀ x ∈ l, isC r.ch x = false := fun x hx => by
      have := List.findIdx?_eq_none_iff.1 h x hx
      simpa using this
    have hf : (l.take (atR l r.ch) ++ [r] ++ l.drop (atR l r.ch)).findIdx? (isC r.ch) = some (atR l r.ch) := by
      rw [List.findIdx?_eq_some_iff_getElem]
      refine ⟨by simp; omega, ?_, fun j hj => ?_⟩
      · have : (l.take (atR l r.ch) ++ [r] ++ l.drop (atR l r.ch))[atR l r.ch]? = some r := by
          rw [List.append_assoc, List.getElem?_append_right (by simp; omega)]
          simp [Nat.min_eq_left hk]
        obtain ⟨h1, h2⟩ := List.getElem?_eq_some_iff.1 this
        rw [h2]; simp [isC]
      · have hjl : j < l.length := by omega
        have : (l.take (atR l r.ch) ++ [r] ++ l.drop (atR l r.ch))[j]? = some l[j] := by
          rw [List.append_assoc, List.getElem?_append_left (by simp; omega), List.getElem?_take_of_lt hj, List.getElem?_eq_getElem hjl]
        obtain ⟨h1, h2⟩ := List.getElem?_eq_some_iff.1 this
        rw [h2]
        simpa using hall _ (List.getElem_mem hjl)
    have e1 : (l.take (atR l r.ch) ++ [r] ++ l.drop (atR l r.ch)).take (atR l r.ch) = l.take (atR l r.ch) := by
      rw [List.append_assoc, List.take_append_of_le_length (by simp; omega), List.take_take, Nat.min_self]
    have e2 : (l.take (atR l r.ch) ++ [r] ++ l.drop (atR l r.ch)).drop (atR l r.ch + 1) = l.drop (atR l r.ch) := by
      have : (l.take (atR l r.ch) ++ [r]).length = atR l r.ch + 1 := by simp; omega
      conv => lhs; rw [← this]
      exact List.drop_left ..
    unfold dropR
    rw [hf, h]
    simp only
    rw [e1, e2, List.take_append_drop]
theorem filter_or {l : List Rw} {K : List Int} {p : Int} (h : K.contains p = false) : (l.filter fun r => (addK K p).contains r.par).length = (l.filter fun r => K.contains r.par).length + (kidsR l p).length := by
  unfold kidsR
  rw [length_isrt]
  have hk : ∀ x : Int, (addK K p).contains x = (K.contains x || decide (x = p)) := fun x => by
    rw [Bool.eq_iff_iff]
    simp only [Bool.or_eq_true, List.contains_iff_mem, decide_eq_true_eq, mem_addKP]
  induction l with
  | nil => rfl
  | cons r l ih =>
    simp only [List.filter_cons, hk]
    simp only [hk] at ih
    by_cases c : r.par = p
    · have : K.contains r.par = false := by rw [c]; exact h
      simp only [c, h, decide_true, Bool.or_true, if_true, List.length_cons, Bool.false_eq_true, if_false]
      omega
    · cases hc : K.contains r.par
      · simp only [c, decide_false, Bool.or_false, Bool.false_eq_true, if_false]; exact ih
      · simp only [c, decide_false, Bool.or_false, if_true, List.length_cons, Bool.false_eq_true, if_false]
        omega
set_option maxHeartbeats 4000000 in
theorem law12_TreeKids_true (l : List Rw) (r : Rw) (hl : OKl l) (hr : OKr r) : law12_TreeKids_s (eRws l) (.int .i64 r.ch) (.int .i64 r.par) (.str r.nm) (.flt .f64 r.rk) = some [.bool true] := by
  unfold law12_TreeKids_s
  by_cases h1 : fewR l = true
  · have b1 := fewR_len h1
    have m2 := ref12_May_eq (l := l) (by omega)
    by_cases h2 : mayR l = true
    · obtain ⟨_, hone, hri, hac⟩ := mayR_parts h2
      have hnd := hri.nodup
      -- the kids of one parent
      have inner : ∀ p : Int, iter rounds (law12_TreeKids_l12 [eRws (kidsR l p)] (eRws l)) [.int .i64 0] = some (0, []) := by
        intro p
        have hkl := kidsR_length l p
        rw [iter_check (vs0 := [IV.int .i64 0]) (fun i => [IV.int .i64 (i : Int)]) (fun i (z : Rw) => false) 1 [.bool false] 0 [] (kidsR l p) rfl (by have := rounds_eq; omega)]
        · have hno : anyI (fun i (r : Rw) => false) (kidsR l p) 0 = false := by rw [anyI_false]; exact fun _ _ _ => rfl
          rw [hno]; rfl
        · intro i x hx
          have hi : i < (kidsR l p).length := (List.getElem?_eq_some_iff.1 hx).1
          have hxl := (mem_kidsR.1 (List.mem_of_getElem? hx)).1
          have hxf := hl.fl x hxl
          have f1 := tree_Find_eq (l := l) (by omega) x.ch
          rw [find_self hnd hxl] at f1
          have al := ref12_AlikeR (a := x) (b := x) hxf hxf
          simp only [decide_true] at al
          unfold law12_TreeKids_l12
          by_cases hi0 : i = 0
          · have d1 : decide ((0 : Int) < (i : Int)) = false := by simp [hi0]
            simp only [ilenL_lst, nth_zero, nth_one, nth_two, nth_three, nth_four, ibin_lss, List.length_map, Int.ofNat_lt, hi, decide_true, icond_true, icond_false, Option.bind_some, at_Rw hx, f1, foundI, iun_not, Bool.not_true, al, ibin_gtr, d1, Bool.false_eq_true, if_false, ibin_succ (show i < 2 ^ 62 by omega)]
          · obtain ⟨i, rfl⟩ : ∃ i', i = i' + 1 := ⟨i - 1, by omega⟩
            obtain ⟨y, hy⟩ : ∃ y, (kidsR l p)[i]? = some y := ⟨_, List.getElem?_eq_getElem (by omega)⟩
            have hyf := hl.fl y (mem_kidsR.1 (List.mem_of_getElem? hy)).1
            have hpos : (0 : Int) < ((i + 1 : Nat) : Int) := by omega
            have hpred := ibin_pred (i := i + 1) (by omega) (by omega)
            simp only [Nat.add_sub_cancel] at hpred
            have hless := ref02_Less_eq hyf hxf (.int .i64 y.par) (.str y.nm) (.int .i64 x.par) (.str x.nm)
            rw [kidsR_rise hnd p hy hx] at hless
            simp only [ilenL_lst, nth_zero, nth_one, nth_two, nth_three, nth_four, ibin_lss, List.length_map, Int.ofNat_lt, hi, decide_true, icond_true, icond_false, Option.bind_some, at_Rw hx, at_Rw hy, f1, foundI, iun_not, Bool.not_true, al, ibin_gtr, hpos, hpred, hless, Bool.false_eq_true, if_false, ibin_succ (show i + 1 < 2 ^ 62 by omega)]
        · unfold law12_TreeKids_l12
          simp
      have hnil : (l.filter fun r => ([] : List Int).contains r.par) = [] := by rw [List.filter_eq_nil_iff]; intro a _; simp
      have key := iter_fold (f := law12_TreeKids_l6 (eRws l)) (vs0 := [.int .i64 0, .map [], .int .i64 0]) (fun i (K : List Int) => [.int .i64 ((l.filter fun r => K.contains r.par).length : Int), eK K, .int .i64 (i : Int)]) (fun K (x : Rw) => addK K x.par) 0 (fun K => [.int .i64 ((l.filter fun r => K.contains r.par).length : Int)]) (fun i K => ∀ x ∈ l.take i, x.par ∈ K) l [] (by simp only [hnil]; rfl) (by have := rounds_eq; omega) (by simp) (by
        intro i K x hx hI
        have hi : i < l.length := (List.getElem?_eq_some_iff.1 hx).1
        have hinc := ibin_succ (i := i) (by omega)
        refine ⟨?_, ?_⟩
        · intro z hz
          rw [take_snocM hx] at hz
          rcases List.mem_append.1 hz with hz | hz
          · exact (mem_addKP _ _ _).2 (.inl (hI z hz))
          · simp only [List.mem_singleton] at hz; subst hz; exact (mem_addKP _ _ _).2 (.inr rfl)
        · unfold law12_TreeKids_l6
          cases hc : K.contains x.par with
          | true =>
            have he : addK K x.par = K := by unfold addK; rw [if_pos hc]
            simp only [ilenL_lst, nth_zero, nth_one, nth_two, ibin_lss, List.length_map, Int.ofNat_lt, hi, decide_true, icond_true, Option.bind_some, at_Rw hx, imgetK_K, hc, hinc, he]
          | false =>
            have kk := tree_Kids_eq (l := l) (by omega) hl.fl x.par
            have hkl := kidsR_length l x.par
            have hfl : (l.filter fun r => K.contains r.par).length ≤ l.length := List.length_filter_le _ _
            have hadd : ibin .add (.int .i64 ((l.filter fun r => K.contains r.par).length : Int)) (.int .i64 ((kidsR l x.par).length : Int)) = some (.int .i64 ((l.filter fun r => (addK K x.par).contains r.par).length : Int)) := by
              rw [filter_or hc, ibin_add (by omega) (by omega)]
              simp
            simp only [ilenL_lst, nth_zero, nth_one, nth_two, ibin_lss, List.length_map, Int.ofNat_lt, hi, decide_true, icond_true, icond_false, Option.bind_some, at_Rw hx, imgetK_K, hc, imputK_K, kk, inner x.par, sel_zero, hadd, hinc]) (by
        intro K _
        unfold law12_TreeKids_l6
        simp)
      have hall : ∀ (k : List Rw) (K : List Int), (∀ x ∈ k, x.par ∈ k.foldl (fun K (x : Rw) => addK K x.par) K) ∧ ∀ y ∈ K, y ∈ k.foldl (fun K (x : Rw) => addK K x.par) K := by
        intro k
        induction k with
        | nil => intro K; simp
        | cons x k ih =>
          intro K
          obtain ⟨g1, g2⟩ := ih (addK K x.par)
          refine ⟨fun z hz => ?_, fun y hy => g2 y ((mem_addKP _ _ _).2 (.inl hy))⟩
          rcases List.mem_cons.1 hz with rfl | hz
          · exact g2 _ ((mem_addKP _ _ _).2 (.inr rfl))
          · exact g1 z hz
      have hfin : (l.filter fun r => (l.foldl (fun K (x : Rw) => addK K x.par) []).contains r.par) = l := by
        rw [List.filter_eq_self]
        intro x hx
        have := (hall l []).1 x hx
        simpa using this
      rw [hfin] at key
      have s1 := tree_Set_eq (l := l) (by omega) r
      have hsl := setR_length l r
      have f2 := tree_Find_eq (l := setR l r) (by omega) r.ch
      rw [findR_set, if_pos rfl] at f2
      have al := ref12_AlikeR (a := r) (b := r) hr.rk hr.rk
      have d1 := tree_Drop_eq (l := setR l r) (by omega) r.ch
      rw [drop_set] at d1
      have d2 := tree_Drop_eq (l := l) (by omega) r.ch
      have s3 := tree_Same_eq (a := dropR l r.ch) (b := dropR l r.ch) (by have := dropR_length l r.ch; omega) hl.drop.fl hl.drop.fl
      simp only [sameR_refl, decide_true] at s3 al
      simp only [ref12_Few_eq, h1, m2, h2, law12_live_eq, Option.bind_some, nth_zero, nth_one, nth_two, nth_three, nth_four, iun_not, Bool.not_true, icond_false, ilenS_str, ibin_gtr, icond_bool, key, sel_zero, s1, f2, foundI, ilenL_lst, List.length_map, ibin_eql, decide_true, icond_true, al, d1, d2, s3, scal_bool, scal_nil, Option.map_some]
      cases h3 : decide (100 < (r.nm.size : Int)) <;> simp
    · simp [ref12_Few_eq, h1, m2, h2, law12_live_eq]
  · simp [ref12_Few_eq, h1, law12_live_eq]
/-- Two ways alike but for one node's row: who comes to that node. -/
theorem reach_same {f g : Int → Option Int} {c : Int} (h : ∀ x, x ≠ c → f x = g x) {b : Int} (hb : b ≠ c) {k : Nat} (hk : nodeAt f (k + 1) b = some c) : ∃ j, nodeAt g (j + 1) b = some c := by
  obtain ⟨i, hi, hmin⟩ := least (P := fun i => nodeAt f i b = some c) (k + 1) hk
  rw [nodeAt_same (c := c) h i hmin] at hi
  cases i with
  | zero => rw [nodeAt_zero] at hi; exact absurd (Option.some.inj hi) hb
  | succ i => exact ⟨i, hi⟩
theorem cyc_set {l : List Rw} {r : Rw} (h : r.ch = r.par ∨ Abv l r.ch r.par) : Abv (setR l r) r.ch r.ch := by
  have hf : ∀ x, x ≠ r.ch → upR (setR l r) x = upR l x := fun x hx => by rw [upR_set, if_neg hx]
  have hex : ∃ j, nodeAt (upR l) j r.par = some r.ch := by
    rcases h with h | ⟨k, hk⟩
    · exact ⟨0, by rw [nodeAt_zero, h]⟩
    · exact ⟨k + 1, hk⟩
  obtain ⟨j0, hj0⟩ := hex
  obtain ⟨i, hi, hmin⟩ := least (P := fun i => nodeAt (upR l) i r.par = some r.ch) j0 hj0
  refine ⟨i, ?_⟩
  rw [nodeAt_succ, upR_set, if_pos rfl]
  show nodeAt _ i r.par = _
  rw [← nodeAt_same (c := r.ch) (fun x hx => (hf x hx).symm) i hmin]
  exact hi
set_option maxHeartbeats 2000000 in
theorem law12_TreeHangs_true (l : List Rw) (r : Rw) (o : Int) (hl : OKl l) (hr : OKr r) (ho : in64 o) : law12_TreeHangs_s (eRws l) (.int .i64 r.ch) (.int .i64 r.par) (.str r.nm) (.flt .f64 r.rk) (.int .i64 o) = some [.bool true] := by
  unfold law12_TreeHangs_s
  by_cases h1 : fewR l = true
  · have b1 := fewR_len h1
    have m2 := ref12_May_eq (l := l) (by omega)
    have o2 := ref12_One_eq r.ch r.par r.nm (.flt .f64 r.rk)
    by_cases h2 : mayR l = true
    · by_cases h3 : oneR r = true
      · have h3' : rowB r.ch r.par r.nm = true := h3
        rw [h3'] at o2
        obtain ⟨_, hone, hri, hac⟩ := mayR_parts h2
        have hsl := setR_length l r
        have s1 := tree_Set_eq (l := l) (by omega) r
        have a1 := tree_Above_eq (l := l) (by omega) hl r.ch hr.par
        have m1 := tree_May_eq (l := setR l r) (by omega) (hl.set hr)
        have a2 := tree_Above_eq (l := setR l r) (by omega) (hl.set hr) r.ch ho
        have a3 := tree_Above_eq (l := l) (by omega) hl r.ch ho
        have a4 := tree_Above_eq (l := setR l r) (by omega) (hl.set hr) r.par hr.ch
        by_cases hg : r.par = r.ch ∨ Abv l r.ch r.par
        · have hcy := cyc_set (l := l) (r := r) (by rcases hg with h | h; exact .inl h.symm; exact .inr h)
          have hm : mayR (setR l r) = false := by
            cases hm : mayR (setR l r) with
            | false => rfl
            | true => exact absurd hcy ((mayR_parts hm).2.2.2 _)
          simp only [ref12_Few_eq, h1, m2, h2, o2, law12_live_eq, Option.bind_some, nth_zero, iun_not, Bool.not_true, icond_false, ilenS_str, ibin_gtr, icond_bool, s1, ibin_neq, a1, m1, hm, ibinB_neq]
          by_cases he : r.par = r.ch
          · cases h4 : decide (100 < (r.nm.size : Int)) <;> simp [he]
          · have hab : aboveV l r.ch r.par = true := (aboveV_iff _ _ _).2 (hg.resolve_left he)
            cases h4 : decide (100 < (r.nm.size : Int)) <;> simp [he, hab]
        · have hne : ¬ r.par = r.ch := fun h => hg (.inl h)
          have hna : ¬ Abv l r.ch r.par := fun h => hg (.inr h)
          have hab : aboveV l r.ch r.par = false := (aboveV_false _ _ _).2 hna
          have hacs := acyc_set hac (fun e => hne e.symm) hna
          have hm : mayR (setR l r) = true := by
            refine mayR_of (by omega) (fun x hx => ?_) ?_ hacs
            · rcases mem_setR hx with h | rfl
              · exact hone x h
              · exact h3
            · rw [setR_keys hri]
              exact (putI_spec hri _).1
          have hf : ∀ x, x ≠ r.ch → upR (setR l r) x = upR l x := fun x hx => by rw [upR_set, if_neg hx]
          have v1 : aboveV (setR l r) r.ch o = aboveV l r.ch o := by
            refine aboveV_eq ?_
            by_cases he : o = r.ch
            · subst he
              exact ⟨fun h => absurd h (hacs _), fun h => absurd h (hac _)⟩
            · exact ⟨fun ⟨k, hk⟩ => reach_same hf he hk, fun ⟨k, hk⟩ => reach_same (fun x hx => (hf x hx).symm) he hk⟩
          have v2 : aboveV (setR l r) r.par r.ch = true := (aboveV_iff _ _ _).2 ⟨0, by rw [nodeAt_one, upR_set, if_pos rfl]⟩
          simp only [ref12_Few_eq, h1, m2, h2, o2, law12_live_eq, Option.bind_some, nth_zero, iun_not, Bool.not_true, icond_false, ilenS_str, ibin_gtr, icond_bool, s1, ibin_neq, hne, ne_eq, not_false_eq_true, decide_true, icond_true, a1, hab, Bool.not_false, m1, hm, ibinB_neq, ibinB_eql, beq_self_eq_true, a2, a3, a4, v1, v2, scal_bool, scal_nil, Option.map_some]
          cases h4 : decide (100 < (r.nm.size : Int)) <;> simp
      · have h3' : rowB r.ch r.par r.nm = false := by simpa [oneR] using h3
        rw [h3'] at o2
        simp only [ref12_Few_eq, h1, m2, h2, o2, law12_live_eq, Option.bind_some, nth_zero, iun_not, Bool.not_true, Bool.not_false, icond_false, icond_true, ilenS_str, ibin_gtr, icond_bool]
        cases h4 : decide (100 < (r.nm.size : Int)) <;> simp
    · simp only [ref12_Few_eq, h1, m2, law12_live_eq, Option.bind_some, nth_zero, iun_not, Bool.not_true, icond_false, ilenS_str, ibin_gtr, icond_bool]
      have h2' : mayR l = false := by simpa using h2
      cases h4 : decide (100 < (r.nm.size : Int)) <;> simp [h2']
  · simp [ref12_Few_eq, h1, law12_live_eq]
end Go.AM

/- The laws of trees, fourth part: what is dropped. -/
set_option linter.unusedVariables false
set_option linter.unusedSimpArgs false
namespace Go.AM
theorem dropR_filter {l : List Rw} (h : (l.map (·.ch)).Nodup) (c : Int) : dropR l c = l.filter fun r => !isC c r := by
  unfold dropR
  cases hi : l.findIdx? (isC c) with
  | none =>
    simp only
    symm
    rw [List.filter_eq_self]
    intro x hx
    have := List.findIdx?_eq_none_iff.1 hi x hx
    simpa using this
  | some i =>
    obtain ⟨h1, h2, h3⟩ := List.findIdx?_eq_some_iff_getElem.1 hi
    simp only
    have e : l = l.take i ++ l[i] :: l.drop (i + 1) := by
      rw [← List.drop_eq_getElem_cons h1, List.take_append_drop]
    have hA : ∀ x ∈ l.take i, isC c x = false := fun x hx => by
      obtain ⟨j, hj, rfl⟩ := List.mem_iff_getElem.1 hx
      rw [List.getElem_take]
      simpa using h3 j (by simp at hj; omega)
    have hB : ∀ x ∈ l.drop (i + 1), isC c x = false := fun x hx => by
      cases hc : isC c x with
      | false => rfl
      | true =>
        exfalso
        obtain ⟨j, hj, rfl⟩ := List.mem_iff_getElem.1 hx
        rw [List.getElem_drop] at hc
        have g1 : l[i].ch = c := by simpa [isC] using h2
        have g2 : (l[i + 1 + j]'(by simp at hj; omega)).ch = c := by simpa [isC] using hc
        have := List.pairwise_iff_getElem.1 h i (i + 1 + j) (by simpa using h1) (by simp at hj ⊢; omega) (by omega)
        rw [List.getElem_map, List.getElem_map, g1, g2] at this
        exact this rfl
    conv => rhs; rw [e]
    rw [List.filter_append, List.filter_cons, h2]
    simp only [Bool.not_true, Bool.false_eq_true, if_false]
    rw [List.filter_eq_self.2 (fun x hx => by rw [hA x hx]; rfl), List.filter_eq_self.2 (fun x hx => by rw [hB x hx]; rfl)]
theorem findR_drop {l : List Rw} (h : (l.map (·.ch)).Nodup) (c x : Int) : findR (dropR l c) x = if x = c then none else findR l x := by
  rw [dropR_filter h]
  unfold findR
  rw [List.find?_filter]
  by_cases e : x = c
  · rw [if_pos e, List.find?_eq_none]
    intro r _
    subst e
    cases isC x r <;> simp
  · rw [if_neg e]
    congr 1
    funext r
    unfold isC
    by_cases h1 : r.ch = x
    · have : ¬ r.ch = c := fun h => e (h1 ▸ h)
      simp [h1, e]
    · simp [h1]
theorem upR_drop {l : List Rw} (h : (l.map (·.ch)).Nodup) (c x : Int) : upR (dropR l c) x = if x = c then none else upR l x := by
  rw [upR_find, upR_find, findR_drop h]
  split <;> rfl
theorem nodeAt_sub {f g : Int → Option Int} (h : ∀ x y, f x = some y → g x = some y) : ∀ (k : Nat) (b z : Int), nodeAt f k b = some z → nodeAt g k b = some z
  | 0, b, z, hk => hk
  | k + 1, b, z, hk => by
    rw [nodeAt_succ] at hk ⊢
    cases hf : f b with
    | none => rw [hf] at hk; cases hk
    | some y =>
      rw [hf] at hk
      rw [h b y hf]
      exact nodeAt_sub h k y z hk
theorem abv_drop {l : List Rw} (h : (l.map (·.ch)).Nodup) {c : Int} {a b : Int} (ha : Abv (dropR l c) a b) : Abv l a b := by
  obtain ⟨k, hk⟩ := ha
  refine ⟨k, nodeAt_sub (fun x y hx => ?_) _ _ _ hk⟩
  rw [upR_drop h] at hx
  split at hx
  · cases hx
  · exact hx
theorem mayR_drop {l : List Rw} (h : mayR l = true) (c : Int) : mayR (dropR l c) = true := by
  obtain ⟨h1, h2, h3, h4⟩ := mayR_parts h
  have hd := dropR_filter h3.nodup c
  refine mayR_of (by have := dropR_length l c; omega) (fun r hr => ?_) ?_ fun x hx => h4 x (abv_drop h3.nodup hx)
  · rw [hd] at hr
    exact h2 r (List.mem_filter.1 hr).1
  · rw [hd]
    exact List.Pairwise.sublist (List.filter_sublist.map _) h3
theorem abv_drop_iff {l : List Rw} (h : mayR l = true) {c x : Int} (hc : c ≠ 0) (hx : x ≠ c) : Abv (dropR l c) 0 x ↔ Abv l 0 x ∧ ¬ Abv l c x := by
  obtain ⟨_, _, h3, h4⟩ := mayR_parts h
  have hnd := h3.nodup
  have h0 := may_zero h
  constructor
  · intro ha
    refine ⟨abv_drop hnd ha, ?_⟩
    rintro ⟨j, hj⟩
    obtain ⟨k, hk⟩ := ha
    have hkl : nodeAt (upR l) (k + 1) x = some 0 := nodeAt_sub (fun x y hx => by rw [upR_drop hnd] at hx; split at hx; cases hx; exact hx) _ _ _ hk
    rcases Nat.lt_trichotomy j k with e | e | e
    · obtain ⟨y, hy⟩ := nodeAt_some hk (j + 1) (by omega)
      have hyl : nodeAt (upR l) (j + 1) x = some y := nodeAt_sub (fun x y hx => by rw [upR_drop hnd] at hx; split at hx; cases hx; exact hx) _ _ _ hy
      rw [hj] at hyl
      cases hyl
      have : nodeAt (upR (dropR l c)) ((j + 1) + (k - j - 1 + 1)) x = some 0 := by rw [show j + 1 + (k - j - 1 + 1) = k + 1 by omega]; exact hk
      rw [nodeAt_add, hy] at this
      change nodeAt (upR (dropR l c)) (k - j - 1 + 1) c = some 0 at this
      rw [nodeAt_succ, upR_drop hnd, if_pos rfl] at this
      cases this
    · subst e
      rw [hj] at hkl
      cases hkl
      exact hc rfl
    · have : nodeAt (upR l) ((k + 1) + (j - k - 1 + 1)) x = some c := by rw [show k + 1 + (j - k - 1 + 1) = j + 1 by omega]; exact hj
      rw [nodeAt_add, hkl] at this
      change nodeAt (upR l) (j - k - 1 + 1) 0 = some c at this
      rw [nodeAt_succ, h0] at this
      cases this
  · rintro ⟨⟨k, hk⟩, hno⟩
    refine ⟨k, ?_⟩
    rw [← nodeAt_same (c := c) (f := upR l) (fun y hy => by rw [upR_drop hnd, if_neg hy]) (k + 1) fun j hj => ?_]
    · exact hk
    · cases j with
      | zero => rw [nodeAt_zero]; exact fun e => hx (Option.some.inj e)
      | succ j => exact fun e => hno ⟨j, e⟩
theorem dropR_none {l : List Rw} {c : Int} (h : findR l c = none) : dropR l c = l := by
  unfold dropR
  cases hi : l.findIdx? (isC c) with
  | none => rfl
  | some i =>
    exfalso
    obtain ⟨h1, h2, h3⟩ := List.findIdx?_eq_some_iff_getElem.1 hi
    have := findR_none h l[i] (List.getElem_mem h1)
    exact this (by simpa [isC] using h2)
theorem reach_drop {l : List Rw} (h : mayR l = true) {c : Int} (hc : c ≠ 0) : reachR (dropR l c) = (reachR l).filter fun x => !(findR l c).isSome || (decide (x ≠ c) && !aboveV l c x) := by
  obtain ⟨_, _, h3, h4⟩ := mayR_parts h
  have hnd := h3.nodup
  have h0 := may_zero h
  have hd := mayR_drop h c
  obtain ⟨_, _, d3, d4⟩ := mayR_parts hd
  have d0 := may_zero hd
  cases hf : findR l c with
  | none =>
    rw [dropR_none hf]
    symm
    rw [List.filter_eq_self]
    intro x _
    rfl
  | some r =>
    refine rises_ext (reachR_spec _).1 (List.Pairwise.sublist List.filter_sublist (reachR_spec l).1) fun x => ?_
    rw [List.mem_filter, (reachR_spec _).2, (reachR_spec _).2]
    simp only [Option.isSome_some, Bool.not_true, Bool.false_or, Bool.and_eq_true, decide_eq_true_eq, Bool.not_eq_true', aboveV_false]
    have hk : x ∈ (dropR l c).map (·.ch) ↔ x ∈ l.map (·.ch) ∧ x ≠ c := by
      rw [← upR_iff, ← upR_iff, upR_drop hnd]
      by_cases e : x = c
      · rw [if_pos e]; simp [e]
      · rw [if_neg e]; simp [e]
    rw [hk, wayV_iff d4 d0, wayV_iff h4 h0]
    by_cases hx0 : x = 0
    · subst hx0
      refine ⟨fun _ => ⟨.inl rfl, fun e => hc e.symm, ?_⟩, fun _ => .inl rfl⟩
      rintro ⟨k, hk⟩
      rw [nodeAt_succ, h0] at hk
      cases hk
    · constructor
      · rintro (e | ⟨⟨g1, g2⟩, e | g3⟩)
        · exact absurd e hx0
        · exact absurd e hx0
        · obtain ⟨g4, g5⟩ := (abv_drop_iff h hc g2).1 g3
          exact ⟨.inr ⟨g1, .inr g4⟩, g2, g5⟩
      · rintro ⟨e | ⟨g1, e | g3⟩, g2, g5⟩
        · exact absurd e hx0
        · exact absurd e hx0
        · exact .inr ⟨⟨g1, g2⟩, .inr ((abv_drop_iff h hc g2).2 ⟨g3, g5⟩)⟩
set_option maxHeartbeats 2000000 in
theorem law12_TreeDrops_true (l : List Rw) (c : Int) (hl : OKl l) (hcc : in64 c) : law12_TreeDrops_s (eRws l) (.int .i64 c) = some [.bool true] := by
  unfold law12_TreeDrops_s
  by_cases h1 : fewR l = true
  · have b1 := fewR_len h1
    have m2 := ref12_May_eq (l := l) (by omega)
    by_cases h2 : mayR l = true
    · by_cases hc : c = 0
      · subst hc
        simp [ref12_Few_eq, h1, m2, h2, law12_live_eq]
      · have hnd := (mayR_parts h2).2.2.1.nodup
        have hdl := dropR_length l c
        have d1 := tree_Drop_eq (l := l) (by omega) c
        have m1 := tree_May_eq (l := dropR l c) (by omega) hl.drop
        rw [mayR_drop h2 c] at m1
        have f1 := tree_Find_eq (l := l) (by omega) c
        have q1 := tree_Reached_eq (l := l) (by omega) hl
        have q2 := tree_Reached_eq (l := dropR l c) (by omega) hl.drop
        have f2 := tree_Find_eq (l := dropR l c) (by omega) c
        rw [findR_drop hnd, if_pos rfl] at f2
        have hrl := reachR_length l
        have hrm := (reachR_spec l).2
        obtain ⟨v11, hv11, hhad⟩ : ∃ v11, foundI (findR l c) = v11 ∧ nth v11 4 = .bool (findR l c).isSome := ⟨_, rfl, by cases findR l c <;> rfl⟩
        rw [hv11] at f1
        have key := iter_fold (f := law12_TreeDrops_l10 [eInts (reachR l)] v11 (.int .i64 c) (eRws l)) (vs0 := [.lst [], .int .i64 0]) (fun i (s : List Int) => [eInts s, .int .i64 (i : Int)]) (fun s x => if (!(findR l c).isSome || (decide (x ≠ c) && !aboveV l c x)) = true then s ++ [x] else s) 0 (fun s => [eInts s]) (fun i s => s.length ≤ i) (reachR l) [] rfl (by have := rounds_eq; omega) (by simp) (by
          intro i s x hx hI
          have hi : i < (reachR l).length := (List.getElem?_eq_some_iff.1 hx).1
          have hx64 : in64 x := by
            rcases (hrm x).1 (List.mem_of_getElem? hx) with rfl | ⟨h3, _⟩
            · unfold in64; omega
            · obtain ⟨r, hr, rfl⟩ := List.mem_map.1 h3
              exact (hl r hr).ch
          have ab := tree_Above_eq (l := l) (by omega) hl c hx64
          have hinc := ibin_succ (i := i) (by omega)
          have hap : iapp 1 8 (eInts s) (.lst [[.int .i64 x]]) = some (eInts (s ++ [x])) := iapp_Ints (l := s) (k := [x]) (by omega) (by simp)
          refine ⟨by split <;> (try rw [List.length_append, List.length_singleton]) <;> omega, ?_⟩
          unfold law12_TreeDrops_l10
          simp only [ilenL_lst, nth_zero, nth_one, ibin_lss, List.length_map, Int.ofNat_lt, hi, decide_true, icond_true, Option.bind_some, at_Int hx, hhad, iun_not]
          cases hs : (findR l c).isSome with
          | false =>
            simp only [Bool.not_false, icond_true, Option.bind_some, nth_zero, hap, hinc, Bool.true_or, if_true]
          | true =>
            simp only [Bool.not_true, icond_false, ibin_neq, Option.bind_some, Bool.false_or]
            by_cases e : x = c
            · have de : decide (x ≠ c) = false := by simp [e]
              simp only [de, icond_false, Option.bind_some, nth_zero, hinc, Bool.false_and, Bool.false_eq_true, if_false]
            · have de : decide (x ≠ c) = true := by simp [e]
              simp only [de, icond_true, ab, Option.bind_some, nth_zero, iun_not, icond_bool, hap, hinc, Bool.true_and]
              cases aboveV l c x <;> simp) (by
          intro s _
          unfold law12_TreeDrops_l10
          simp)
        have hfold : ∀ (k s : List Int), k.foldl (fun s x => if (!(findR l c).isSome || (decide (x ≠ c) && !aboveV l c x)) = true then s ++ [x] else s) s = s ++ k.filter fun x => !(findR l c).isSome || (decide (x ≠ c) && !aboveV l c x) := by
          intro k
          induction k with
          | nil => intro s; simp
          | cons x k ih =>
            intro s
            rw [List.foldl_cons, ih, List.filter_cons]
            split <;> simp
        rw [hfold, List.nil_append, ← reach_drop h2 hc] at key
        have hrl2 := reachR_length (dropR l c)
        have e1 := ref05_Same_eq (a := reachR (dropR l c)) (b := reachR (dropR l c)) (by omega)
        simp only [decide_true] at e1
        have hle : (dropR l c).length ≤ l.length := hdl
        have dc : decide (c = 0) = false := by simp [hc]
        simp only [ref12_Few_eq, h1, m2, h2, law12_live_eq, Option.bind_some, nth_zero, iun_not, Bool.not_true, icond_false, ibin_eql, dc, d1, m1, f1, q1, key, sel_zero, f2, foundI, nth_four, Bool.not_false, icond_true, ilenL_lst, List.length_map, ibin_leq, Int.ofNat_le, hle, decide_true, q2, e1, scal_bool, scal_nil, Option.map_some]
    · simp [ref12_Few_eq, h1, m2, h2, law12_live_eq]
  · simp [ref12_Few_eq, h1, law12_live_eq]
end Go.AM

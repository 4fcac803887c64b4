/- The laws of undo, second part: what was done goes back. -/
import Derived.Test.YtcnafacmpplhbaaTr
import Derived.Test.YtcnafacmpplhbaaAe
set_option linter.unusedVariables false
set_option linter.unusedSimpArgs false
namespace Go.AM

theorem any_not {α : Type} (p : α → Bool) : ∀ l : List α, (l.any fun x => !p x) = !l.all p
  | [] => rfl
  | x :: l => by simp only [List.any_cons, List.all_cons, any_not p l, Bool.not_and]
def oneR (r : Rw) : Bool := rowB r.ch r.par r.nm
def risR (a b : Rw) : Bool := decide (a.ch < b.ch)
def mayR (l : List Rw) : Bool := decide (l.length ≤ 2000) && (l.all oneR && adjB risR l && !l.any fun r => aboveV l r.ch r.ch)
theorem ref12_May_eq {l : List Rw} (hl : l.length < 2 ^ 16) : ref12_May_s (eRws l) = some [.bool (mayR l)] := by
  unfold ref12_May_s mayR
  simp only [ilenL_lst, Option.bind_some, ibin_gtr, List.length_map, icond_dec]
  by_cases h : l.length ≤ 2000
  · rw [if_neg (by omega)]
    rw [iter_check (vs0 := [.int .i64 0]) (fun i => [IV.int .i64 (i : Int)]) (fun i x => !oneR x || (decide (0 < i) && !risR (l.getD (i - 1) x) x)) 1 [.bool false] 0 [] l rfl (by have := rounds_eq; omega), anyI_or, adj_anyI, anyI_any]
    · rw [iter_check (vs0 := [.int .i64 0]) (fun i => [IV.int .i64 (i : Int)]) (fun _ (r : Rw) => aboveV l r.ch r.ch) 1 [.bool false] 0 [] l rfl (by have := rounds_eq; omega), anyI_any]
      · have e := any_not oneR l
        rw [e]
        cases h1 : l.all oneR <;> cases h2 : adjB risR l <;> cases h3 : (l.any fun r => aboveV l r.ch r.ch) <;> simp [h]
      · intro i x hx
        have hi : i < l.length := (List.getElem?_eq_some_iff.1 hx).1
        unfold ref12_May_l9
        simp only [ilenL_lst, nth_zero, ibin_lss, List.length_map, Int.ofNat_lt, at_Rw hx, decide_true, icond_true, Option.bind_some, ref12_Above_eq hl, icond_bool, ibin_succ (show i < 2 ^ 62 by omega)]
        cases aboveV l x.ch x.ch <;> simp
      · unfold ref12_May_l9
        simp
    · intro i x hx
      have hi : i < l.length := (List.getElem?_eq_some_iff.1 hx).1
      unfold ref12_May_l4
      simp only [ilenL_lst, nth_zero, nth_one, nth_two, nth_three, nth_four, nth_five, ibin_lss, ibin_gtr, List.length_map, Int.ofNat_lt, at_Rw hx, decide_true, icond_true, Option.bind_some, icond_dec, ibin_succ (show i < 2 ^ 62 by omega), ref12_One_eq, iun_not, icond_bool]
      by_cases h1 : oneR x = true
      · have h1' : rowB x.ch x.par x.nm = true := h1
        by_cases h5 : 0 < i
        · have hp : l[i - 1]? = some (l.getD (i - 1) x) := by
            rw [List.getD_eq_getElem?_getD, List.getElem?_eq_getElem (by omega)]; rfl
          simp only [h1, h1', Bool.not_true, Bool.false_eq_true, if_false, show (0 : Int) < (i : Int) by omega, h5, if_true, ibin_pred (show i < 2 ^ 62 by omega) h5, Option.bind_some, at_Rw hp, at_Rw hx, nth_zero, nth_one, ibin_geq, icond_dec, decide_true, Bool.true_and, Bool.false_or, risR]
          generalize l.getD (i - 1) x = y
          by_cases h6 : y.ch < x.ch
          · have : ¬ x.ch ≤ y.ch := by omega
            simp [h6, this]
          · have : x.ch ≤ y.ch := by omega
            simp [h6, this]
        · simp [h1, h1', h5, show ¬ ((0 : Int) < (i : Int)) by omega]
      · have h1' : rowB x.ch x.par x.nm = false := by simpa [oneR] using h1
        simp [h1, h1']
    · unfold ref12_May_l4
      simp
  · rw [if_pos (by omega)]
    simp [h]

/-! ### What was done goes back -/
theorem findIdx_set {l : List Rw} {i : Nat} {r : Rw} {c : Int} (h : l.findIdx? (isC c) = some i) (hr : r.ch = c) : (l.set i r).findIdx? (isC c) = some i := by
  obtain ⟨hi, hp, hn⟩ := List.findIdx?_eq_some_iff_getElem.1 h
  refine List.findIdx?_eq_some_iff_getElem.2 ⟨by simpa using hi, ?_, fun j hj => ?_⟩
  · simp [isC, hr]
  · have := hn j hj
    rw [List.getElem_set_ne (by omega)]
    exact this
theorem findIdx_ins {l : List Rw} {i : Nat} {r : Rw} {c : Int} (h : l.findIdx? (isC c) = none) (hi : i ≤ l.length) (hr : r.ch = c) : (l.take i ++ [r] ++ l.drop i).findIdx? (isC c) = some i := by
  rw [List.findIdx?_eq_none_iff] at h
  have hlen : (l.take i ++ [r] ++ l.drop i).length = l.length + 1 := by simp; omega
  refine List.findIdx?_eq_some_iff_getElem.2 ⟨by omega, ?_, fun j hj => ?_⟩
  · have : (l.take i ++ [r] ++ l.drop i)[i]? = some r := by
      rw [List.append_assoc, List.getElem?_append_right (by simp; omega)]
      simp [Nat.min_eq_left hi]
    rw [List.getElem?_eq_getElem (by omega)] at this
    rw [Option.some.inj this]
    simp [isC, hr]
  · have h2 : (l.take i ++ [r] ++ l.drop i)[j]? = l[j]? := by
      rw [List.append_assoc, List.getElem?_append_left (by simp; omega), List.getElem?_take_of_lt hj]
    have h3 : j < l.length := by omega
    rw [List.getElem?_eq_getElem (by omega), List.getElem?_eq_getElem h3] at h2
    rw [Option.some.inj h2]
    simp [h _ (List.getElem_mem h3)]
theorem undo_do (l : List Rw) (m : Mv) : undoV (doV l m) (stepV l m) = l := by
  unfold doV stepV
  by_cases hb : barV l m = true
  · simp [hb, undoV]
  · simp only [hb, if_false, Bool.false_eq_true]
    rw [findR_ix]
    cases h : l.findIdx? (isC m.ch) with
    | some i =>
      obtain ⟨x, hx, hp⟩ := findIdx_get h
      have hxc : x.ch = m.ch := by simpa [isC] using hp
      simp only [hx, undoV, if_true]
      have h0 : setR l (rowOf m) = l.set i (rowOf m) := by unfold setR; rw [show (rowOf m).ch = m.ch from rfl, h]
      rw [h0]
      unfold setR
      rw [hxc, findIdx_set h rfl]
      simp only
      have hi := (List.getElem?_eq_some_iff.1 hx)
      obtain ⟨hlt, rfl⟩ := hi
      simp
    | none =>
      simp only [undoV, if_true, Bool.false_eq_true, if_false]
      have h0 : setR l (rowOf m) = l.take (atR l m.ch) ++ [rowOf m] ++ l.drop (atR l m.ch) := by unfold setR; rw [show (rowOf m).ch = m.ch from rfl, h]
      rw [h0]
      unfold dropR
      rw [findIdx_ins h (atR_le l m.ch) rfl]
      simp only
      have ha := atR_le l m.ch
      have e1 : (l.take (atR l m.ch) ++ [rowOf m] ++ l.drop (atR l m.ch)).take (atR l m.ch) = l.take (atR l m.ch) := by
        rw [List.append_assoc, List.take_append_of_le_length (by simp; omega), List.take_take, Nat.min_self]
      have e2 : (l.take (atR l m.ch) ++ [rowOf m] ++ l.drop (atR l m.ch)).drop (atR l m.ch + 1) = l.drop (atR l m.ch) := by
        rw [List.drop_append_of_le_length (by simp; omega)]
        rw [List.drop_eq_nil_of_le (by simp; omega)]
        simp
      rw [e1, e2, List.take_append_drop]
theorem back_run : ∀ (ms : List Mv) (l : List Rw), backV (allV l ms) (stepsV l ms) = l
  | [], l => rfl
  | m :: ms, l => by
    show undoV (backV (allV (doV l m) ms) (stepsV (doV l m) ms)) (stepV l m) = l
    rw [back_run ms, undo_do]
theorem stepsV_drop (l : List Rw) (ms : List Mv) (i : Nat) : (stepsV l ms).drop i = stepsV (allV l (ms.take i)) (ms.drop i) := by
  by_cases hi : i ≤ ms.length
  · have h := stepsV_append (ms.take i) (ms.drop i) l
    rw [List.take_append_drop] at h
    rw [h, List.drop_append_of_le_length (by rw [stepsV_length]; simp; omega), List.drop_eq_nil_of_le (by rw [stepsV_length]; simp; omega)]
    rfl
  · rw [List.drop_eq_nil_of_le (by rw [stepsV_length]; omega), List.drop_eq_nil_of_le (by omega : ms.length ≤ i)]
    rfl
theorem back_from (l : List Rw) (ms : List Mv) (i : Nat) : backV (allV l ms) ((stepsV l ms).drop i) = allV l (ms.take i) := by
  rw [stepsV_drop]
  have h : allV l ms = allV (allV l (ms.take i)) (ms.drop i) := by rw [← allV_append, List.take_append_drop]
  rw [h, back_run]
theorem islcL_loS {l : List Stp} {i : Nat} (hi : i ≤ l.length) : islcL 12 (eStps l) (some (.int .i64 (i : Int))) none = some (eStps (l.drop i)) := by
  have h : (l.map eStp).all (fun e => e.length == 12) = true := by simp [eStp]
  simp only [islcL, h, if_true, ibnds, bnd, List.length_map, Option.bind_some]
  rw [if_pos ⟨by omega, by omega⟩]
  simp [List.map_drop]
  rw [List.take_of_length_le (by simp)]

theorem keyR_zero : keyR zeroRw = keyR zeroRw := rfl
end Go.AM
/- Rows as a graph: who is above whom, by steps; what a row that is set changes. No program is named here. -/
set_option linter.unusedVariables false
set_option linter.unusedSimpArgs false
namespace Go.AM

theorem upR_key {l : List Rw} {x : Int} (h : (upR l x).isSome = true) : x ∈ l.map (·.ch) := by
  rw [upR_find] at h
  cases hf : findR l x with
  | none => rw [hf] at h; cases h
  | some r =>
    have h1 := List.mem_of_find?_eq_some hf
    have h2 := List.find?_some hf
    have : r.ch = x := by simpa [isC] using h2
    exact List.mem_map.2 ⟨r, h1, this⟩
/-- Above, in some steps. -/
def Abv (l : List Rw) (a b : Int) : Prop := ∃ k, nodeAt (upR l) (k + 1) b = some a
theorem aboveV_iff (l : List Rw) (a b : Int) : aboveV l a b = true ↔ Abv l a b := by
  unfold aboveV
  rw [contains_iff, mem_upto]
  constructor
  · rintro ⟨k, _, h⟩; exact ⟨k, h⟩
  · rintro ⟨k, h⟩
    obtain ⟨j, h1, h2⟩ := nodeAt_short (K := l.map (·.ch)) (fun x hx => upR_key hx) k h
    exact ⟨j, by simpa using h1, h2⟩
theorem aboveV_false (l : List Rw) (a b : Int) : aboveV l a b = false ↔ ¬ Abv l a b := by
  rw [← aboveV_iff]; simp
theorem aboveV_eq {l t : List Rw} {a b c d : Int} (h : Abv l a b ↔ Abv t c d) : aboveV l a b = aboveV t c d := by
  rw [Bool.eq_iff_iff, aboveV_iff, aboveV_iff]; exact h

theorem findR_none {l : List Rw} {c : Int} (h : findR l c = none) : ∀ r ∈ l, r.ch ≠ c := fun r hr e => by
  have := List.find?_eq_none.1 h r hr
  simp [isC, e] at this
theorem find_append {l k : List Rw} {c : Int} : findR (l ++ k) c = (findR l c).or (findR k c) := List.find?_append
/-- What is found behind a row that was set. -/
theorem findR_set (l : List Rw) (r : Rw) (c : Int) : findR (setR l r) c = if c = r.ch then some r else findR l c := by
  unfold setR
  cases h : l.findIdx? (isC r.ch) with
  | some i =>
    obtain ⟨hi, hp, hn⟩ := List.findIdx?_eq_some_iff_getElem.1 h
    simp only
    have hl : l = l.take i ++ l[i] :: l.drop (i + 1) := by rw [← List.drop_eq_getElem_cons hi, List.take_append_drop]
    have hs : l.set i r = l.take i ++ r :: l.drop (i + 1) := by rw [List.set_eq_take_append_cons_drop]; simp [hi]
    have hpre : ∀ x ∈ l.take i, x.ch ≠ r.ch := by
      intro x hx
      obtain ⟨j, hj, rfl⟩ := List.mem_iff_getElem.1 hx
      simp only [List.length_take] at hj
      have := hn j (by omega)
      simpa [isC] using this
    have hli : l[i].ch = r.ch := by simpa [isC] using hp
    by_cases hc : c = r.ch
    · subst hc
      rw [if_pos rfl, hs, find_append]
      have : findR (l.take i) r.ch = none := List.find?_eq_none.2 fun x hx => by simp [isC, hpre x hx]
      rw [this]
      simp [findR, isC]
    · rw [if_neg hc, hs]
      conv => rhs; rw [hl]
      rw [find_append, find_append]
      congr 1
      have e1 : isC c r = false := by simp [isC]; exact fun e => hc e.symm
      have e2 : isC c l[i] = false := by simp [isC, hli]; exact fun e => hc e.symm
      show List.find? (isC c) (r :: _) = List.find? (isC c) (l[i] :: _)
      rw [List.find?_cons, List.find?_cons, e1, e2]
  | none =>
    simp only
    have hno : ∀ x ∈ l, x.ch ≠ r.ch := by
      rw [List.findIdx?_eq_none_iff] at h
      intro x hx
      simpa [isC] using h x hx
    rw [find_append, find_append]
    have hsplit : findR l c = (findR (l.take (atR l r.ch)) c).or (findR (l.drop (atR l r.ch)) c) := by
      rw [← find_append, List.take_append_drop]
    by_cases hc : c = r.ch
    · subst hc
      have : findR (l.take (atR l r.ch)) r.ch = none := List.find?_eq_none.2 fun x hx => by simp [isC, hno x (List.mem_of_mem_take hx)]
      rw [this]
      simp [findR, isC]
    · have e1 : isC c r = false := by simp [isC]; exact fun e => hc e.symm
      rw [if_neg hc, hsplit]
      simp [findR, List.find?_cons, e1]
theorem upR_set (l : List Rw) (r : Rw) (c : Int) : upR (setR l r) c = if c = r.ch then some r.par else upR l c := by
  rw [upR_find, upR_find, findR_set]
  split <;> rfl

theorem nodeAt_zero (f : Int → Option Int) (b : Int) : nodeAt f 0 b = some b := rfl
theorem nodeAt_one (f : Int → Option Int) (b : Int) : nodeAt f 1 b = f b := by
  have := nodeAt_add (f := f) 0 (k := 1) (b := b)
  simp only [nodeAt]
  cases f b <;> rfl
theorem nodeAt_succ (f : Int → Option Int) (k : Nat) (b : Int) : nodeAt f (k + 1) b = (f b).bind (nodeAt f k) := by
  rw [Nat.add_comm, nodeAt_add, nodeAt_one]
theorem nodeAt_snoc (f : Int → Option Int) (k : Nat) (b : Int) : nodeAt f (k + 1) b = (nodeAt f k b).bind f := by
  rw [nodeAt_add]
  congr 1
  funext x
  exact nodeAt_one f x
/-- A way that does not come to a node is the same where only that node's row is another. -/
theorem nodeAt_same {f g : Int → Option Int} {c : Int} (h : ∀ x, x ≠ c → f x = g x) {b : Int} : ∀ k, (∀ j, j < k → nodeAt f j b ≠ some c) → nodeAt f k b = nodeAt g k b
  | 0, _ => rfl
  | k + 1, hk => by
    rw [nodeAt_snoc, nodeAt_snoc, nodeAt_same h k fun j hj => hk j (by omega)]
    cases hg : nodeAt g k b with
    | none => rfl
    | some x =>
      have : nodeAt f k b = some x := by rw [nodeAt_same h k fun j hj => hk j (by omega)]; exact hg
      have hx : x ≠ c := fun e => hk k (by omega) (by rw [this, e])
      exact h x hx
/-- Who is above a node below which there is none that was set. -/
theorem abv_set {l : List Rw} {r : Rw} {a b : Int} (h1 : b ≠ r.ch) (h2 : ¬ Abv l r.ch b) : Abv (setR l r) a b ↔ Abv l a b := by
  have key : ∀ k, nodeAt (upR l) k b = nodeAt (upR (setR l r)) k b := fun k => by
    refine nodeAt_same (c := r.ch) (fun x hx => by rw [upR_set, if_neg hx]) k fun j hj => ?_
    cases j with
    | zero => rw [nodeAt_zero]; exact fun e => h1 (Option.some.inj e)
    | succ j => exact fun e => h2 ⟨j, e⟩
  constructor
  · rintro ⟨k, h⟩; exact ⟨k, by rw [key]; exact h⟩
  · rintro ⟨k, h⟩; exact ⟨k, by rw [← key]; exact h⟩
theorem abv_trans {l : List Rw} {a b c : Int} (h1 : Abv l a b) (h2 : Abv l b c) : Abv l a c := by
  obtain ⟨i, hi⟩ := h1
  obtain ⟨j, hj⟩ := h2
  refine ⟨j + 1 + i, ?_⟩
  rw [show j + 1 + i + 1 = (j + 1) + (i + 1) by omega, nodeAt_add, hj]
  exact hi
end Go.AM

/- Moves that are done, plainly: all of them, all nodes; FoldDoes, FoldAll, FoldParts, FoldOthers. -/
set_option linter.unusedVariables false
set_option linter.unusedSimpArgs false
namespace Go.AM

/-! ### Lists of whole numbers -/
theorem iapp_Ints {l k : List Int} (hl : l.length < 2 ^ 20) (hk : k.length < 2 ^ 20) : iapp 1 8 (eInts l) (eInts k) = some (eInts (l ++ k)) := by
  simp only [iapp]
  rw [if_pos]
  · simp
  · refine ⟨by simp; omega, by simp [eInt]⟩
theorem islcL_hiI {l : List Int} {i : Nat} (hi : i ≤ l.length) : islcL 1 (eInts l) none (some (.int .i64 (i : Int))) = some (eInts (l.take i)) := by
  have h : (l.map eInt).all (fun e => e.length == 1) = true := by simp [eInt]
  simp only [islcL, h, if_true, ibnds, bnd, List.length_map]
  rw [if_pos ⟨by omega, by omega⟩]
  simp
theorem islcL_loI {l : List Int} {i : Nat} (hi : i ≤ l.length) : islcL 1 (eInts l) (some (.int .i64 (i : Int))) none = some (eInts (l.drop i)) := by
  have h : (l.map eInt).all (fun e => e.length == 1) = true := by simp [eInt]
  simp only [islcL, h, if_true, ibnds, bnd, List.length_map, Option.bind_some]
  rw [if_pos ⟨by omega, by omega⟩]
  simp [List.map_drop]
  rw [List.take_of_length_le (by simp)]
theorem intsI_eq (l : List Int) : intsI l = eInts l := rfl
theorem ref05_Same_eq {a b : List Int} (ha : a.length < 2 ^ 16) : ref05_Same_s (eInts a) (eInts b) = some [.bool (decide (a = b))] := by
  unfold ref05_Same_s
  simp only [ilenL_lst, List.length_map, Option.bind_some, ibin_neq, icond_dec]
  by_cases h : a.length = b.length
  · rw [if_neg (by simp [h])]
    rw [iter_check (vs0 := [IV.int .i64 0]) (fun i => [IV.int .i64 (i : Int)]) (fun i x => decide (x ≠ b.getD i x)) 1 [.bool false] 0 [] a rfl (by have := rounds_eq; omega)]
    · have hk : anyI (fun i x => decide (x ≠ b.getD i x)) a 0 = !decide (a = b) := by
        rw [Bool.eq_iff_iff, anyI_true]
        simp only [Nat.zero_add, decide_eq_true_eq, Bool.not_eq_true', decide_eq_false_iff_not]
        constructor
        · rintro ⟨i, x, hx, hne⟩ e
          subst e
          apply hne
          rw [List.getD_eq_getElem?_getD, hx]; rfl
        · intro hne
          apply Classical.byContradiction
          intro hall
          apply hne
          apply List.ext_getElem? 
          intro i
          rcases Nat.lt_or_ge i a.length with hi | hi
          · have h1 := List.getElem?_eq_getElem hi
            have h2 : b[i]? = some b[i] := List.getElem?_eq_getElem (by omega)
            rw [h1, h2]
            congr 1
            apply Classical.byContradiction
            intro hc
            exact hall ⟨i, a[i], h1, by rw [List.getD_eq_getElem?_getD, h2]; exact hc⟩
          · rw [List.getElem?_eq_none hi, List.getElem?_eq_none (by omega)]
      rw [hk]
      cases hd : decide (a = b) <;> simp
    · intro i x hx
      have hi : i < a.length := (List.getElem?_eq_some_iff.1 hx).1
      have hy : b[i]? = some b[i] := List.getElem?_eq_getElem (by omega)
      unfold ref05_Same_l4
      simp only [ilenL_lst, Option.bind_some, nth_zero, ibin_lss, List.length_map, Int.ofNat_lt, hi, at_Int hx, at_Int hy, decide_true, icond_true, ibin_neq, icond_dec, ibin_succ (show i < 2 ^ 62 by omega)]
      by_cases hc : x = b[i] <;> simp [hc, List.getD_eq_getElem?_getD, hy]
    · unfold ref05_Same_l4
      simp
  · rw [if_pos (by simp; omega)]
    have : a ≠ b := fun e => h (by rw [e])
    simp [this]

theorem ref14_put_eq {l : List Int} (hl : l.length < 2 ^ 16) (n : Int) : ref14_put_s (eInts l) (.int .i64 n) = some [eInts (putI l n)] := by
  have hit : iter rounds (ref14_put_l2 (eInts l) (.int .i64 n)) [IV.int .i64 0] = some (0, [IV.int .i64 (atI l n : Int)]) := by
    rw [iter_search (vs0 := [IV.int .i64 0]) (fun i => [IV.int .i64 (i : Int)]) (fun x => !decide (x < n)) 0 (fun i => [IV.int .i64 (i : Int)]) 0 [IV.int .i64 (l.length : Int)] l rfl (by have := rounds_eq; omega)]
    · unfold atI
      cases l.findIdx? (fun x => !decide (x < n)) <;> rfl
    · intro i x hx
      have hi : i < l.length := (List.getElem?_eq_some_iff.1 hx).1
      unfold ref14_put_l2
      simp only [ilenL_lst, Option.bind_some, nth_zero, ibin_lss, List.length_map, Int.ofNat_lt, hi, at_Int hx, decide_true, icond_true, ibin_succ (show i < 2 ^ 62 by omega)]
      by_cases hc : x < n <;> simp [hc]
    · unfold ref14_put_l2
      simp
  unfold ref14_put_s
  rw [hit]
  have hle : atI l n ≤ l.length := by
    unfold atI
    cases h : l.findIdx? (fun x => !decide (x < n)) with
    | none => simp
    | some i => have := (List.findIdx?_eq_some_iff_getElem.1 h).1; simp; omega
  generalize hk : atI l n = k at *
  have hput : putI l n = if l[k]? = some n then l else l.take k ++ [n] ++ l.drop k := by unfold putI; rw [hk]
  rw [hput]
  simp only [Option.bind_some, sel_zero, ilenL_lst, List.length_map, nth_zero, ibin_lss, icond_dec, Int.ofNat_lt]
  have a1 : iapp 1 8 (.lst []) (eInts (l.take k)) = some (eInts (l.take k)) := iapp_Ints (l := []) (k := l.take k) (by simp) (by simp; omega)
  have a2 : iapp 1 8 (eInts (l.take k)) (.lst [[.int .i64 n]]) = some (eInts (l.take k ++ [n])) := iapp_Ints (l := l.take k) (k := [n]) (by simp; omega) (by simp)
  have a3 : iapp 1 8 (eInts (l.take k ++ [n])) (eInts (l.drop k)) = some (eInts (l.take k ++ [n] ++ l.drop k)) := iapp_Ints (by simp; omega) (by simp; omega)
  by_cases hlt : k < l.length
  · have hx : l[k]? = some l[k] := List.getElem?_eq_getElem hlt
    simp only [hlt, if_true, at_Int hx, Option.bind_some, ibin_eql, nth_zero, icond_dec, hx, Option.some.injEq]
    by_cases he : l[k] = n
    · simp [he]
    · simp only [he, if_false, islcL_hiI hle, islcL_loI hle, Option.bind_some, a1, a2, a3]
  · have hx : l[k]? = none := List.getElem?_eq_none (by omega)
    simp only [hlt, if_false, Option.bind_some, nth_zero, icond_false, hx, reduceCtorEq, islcL_hiI hle, islcL_loI hle, a1, a2, a3]
def put2 (l : List Int) (a b : Int) : List Int := putI (putI l a) b
theorem putI_length (l : List Int) (n : Int) : (putI l n).length ≤ l.length + 1 := by
  unfold putI
  split
  · omega
  · have : atI l n ≤ l.length := by
      unfold atI
      cases h : l.findIdx? (fun x => !decide (x < n)) with
      | none => simp
      | some i => have := (List.findIdx?_eq_some_iff_getElem.1 h).1; simp; omega
    simp; omega
/-- The document's nodes. -/
def nodesL (l : List Rw) (ms : List Mv) : List Int := ms.foldl (fun k m => put2 k m.ch m.par) (l.foldl (fun k r => put2 k r.ch r.par) [0])
theorem ref14_Nodes_eq {l : List Rw} {ms : List Mv} (hl : l.length < 2 ^ 12) (hm : ms.length < 2 ^ 12) : ref14_Nodes_s (eRws l) (eMvs ms) = some [eInts (nodesL l ms)] := by
  unfold ref14_Nodes_s
  rw [iter_fold (vs0 := [IV.lst [[.int .i64 0]], .int .i64 0]) (fun i (s : List Int) => [eInts s, .int .i64 (i : Int)]) (fun k r => put2 k r.ch r.par) 0 (fun s => [eInts s]) (fun i s => s.length ≤ 1 + 2 * i) l [0] rfl (by have := rounds_eq; omega) (by simp)]
  · have hL : (l.foldl (fun k r => put2 k r.ch r.par) [0]).length ≤ 1 + 2 * l.length := by
      have : ∀ (l : List Rw) (k : List Int), (l.foldl (fun k r => put2 k r.ch r.par) k).length ≤ k.length + 2 * l.length := by
        intro l
        induction l with
        | nil => simp
        | cons r l ih =>
          intro k
          have h1 := ih (put2 k r.ch r.par)
          have h2 := putI_length (putI k r.ch) r.par
          have h3 := putI_length k r.ch
          simp only [List.foldl_cons, List.length_cons]
          unfold put2 at h1 ⊢
          omega
      have := this l [0]
      simpa [Nat.add_comm] using this
    simp only [Option.bind_some, sel_zero, nth_zero]
    rw [iter_fold (vs0 := [eInts (l.foldl (fun k r => put2 k r.ch r.par) [0]), .int .i64 0]) (fun i (s : List Int) => [eInts s, .int .i64 (i : Int)]) (fun k (m : Mv) => put2 k m.ch m.par) 0 (fun s => [eInts s]) (fun i s => s.length ≤ 1 + 2 * l.length + 2 * i) ms _ rfl (by have := rounds_eq; omega) (by omega)]
    · simp [nodesL]
    · intro i s x hx hI
      have hi : i < ms.length := (List.getElem?_eq_some_iff.1 hx).1
      have h1 := putI_length s x.ch
      have h2 := putI_length (putI s x.ch) x.par
      refine ⟨by unfold put2; omega, ?_⟩
      unfold ref14_Nodes_l7
      simp only [ilenL_lst, Option.bind_some, nth_zero, nth_one, ibin_lss, List.length_map, Int.ofNat_lt, hi, at_Mv hx, decide_true, icond_true, ref14_put_eq (l := s) (by omega), ref14_put_eq (l := putI s x.ch) (by omega), ibin_succ (show i < 2 ^ 62 by omega), put2]
    · intro s _
      unfold ref14_Nodes_l7
      simp
  · intro i s x hx hI
    have hi : i < l.length := (List.getElem?_eq_some_iff.1 hx).1
    have h1 := putI_length s x.ch
    have h2 := putI_length (putI s x.ch) x.par
    refine ⟨by unfold put2; omega, ?_⟩
    unfold ref14_Nodes_l3
    simp only [ilenL_lst, Option.bind_some, nth_zero, nth_one, ibin_lss, List.length_map, Int.ofNat_lt, hi, at_Rw hx, decide_true, icond_true, ref14_put_eq (l := s) (by omega), ref14_put_eq (l := putI s x.ch) (by omega), ibin_succ (show i < 2 ^ 62 by omega), put2]
  · intro s _
    unfold ref14_Nodes_l3
    simp
theorem put2_spec {l : List Int} (h : Rises l) (a b : Int) : Rises (put2 l a b) ∧ ∀ x, x ∈ put2 l a b ↔ x ∈ l ∨ x = a ∨ x = b := by
  obtain ⟨h1, h2⟩ := putI_spec h a
  obtain ⟨h3, h4⟩ := putI_spec h1 b
  exact ⟨h3, fun x => by unfold put2; rw [h4, h2, or_assoc]⟩
theorem puts2_spec {α : Type} (f g : α → Int) : ∀ (l : List α) {k : List Int}, Rises k → Rises (l.foldl (fun k r => put2 k (f r) (g r)) k) ∧ ∀ x, x ∈ l.foldl (fun k r => put2 k (f r) (g r)) k ↔ x ∈ k ∨ ∃ r ∈ l, x = f r ∨ x = g r
  | [], k, h => ⟨h, fun x => by simp⟩
  | r :: l, k, h => by
    obtain ⟨h1, h2⟩ := put2_spec h (f r) (g r)
    obtain ⟨h3, h4⟩ := puts2_spec f g l h1
    refine ⟨h3, fun x => ?_⟩
    rw [List.foldl_cons, h4, h2]
    simp only [List.mem_cons, exists_eq_or_imp, or_assoc]
theorem addPs_mem {α : Type} (f : α → Int × Int) : ∀ (l : List α) (K : List Int) (x : Int), x ∈ l.foldl (fun K a => addP K (f a)) K ↔ x ∈ K ∨ ∃ a ∈ l, x = (f a).1 ∨ x = (f a).2
  | [], K, x => by simp
  | a :: l, K, x => by
    have hk : ∀ (K : List Int) (k x : Int), x ∈ addK K k ↔ x ∈ K ∨ x = k := by
      intro K k x
      unfold addK
      split
      · rename_i h
        have : k ∈ K := by simpa using h
        constructor
        · exact .inl
        · rintro (h | rfl) <;> assumption
      · simp
    rw [List.foldl_cons, addPs_mem f l, addP, hk, hk]
    simp only [List.mem_cons, exists_eq_or_imp, or_assoc]
def toMA (m : Mv) : MvAt := ⟨m.c, m.r, m.par, m.ch, m.nm, m.rk⟩
theorem mapM_mvI : ∀ {ms : List Mv}, (∀ m ∈ ms, OKm m) → (ms.map eMv).mapM mvI = some (ms.map toMA)
  | [], _ => rfl
  | m :: ms, h => by
    have hm := h m List.mem_cons_self
    have h1 : mvI (eMv m) = some (toMA m) := by
      have w1 := in64_wf hm.ch
      have w2 := in64_wf hm.par
      simp [eMv, mvI, w1, w2, toMA]
    have h2 := mapM_mvI (ms := ms) fun x hx => h x (List.mem_cons_of_mem _ hx)
    rw [List.map_cons, List.mapM_cons, h1, h2]
    rfl
theorem fold_Nodes_eq {l : List Rw} {ms : List Mv} (hl : l.length < 2 ^ 12) (hm : ms.length < 2 ^ 12) (ho : OKl l) (hom : ∀ m ∈ ms, OKm m) : fold_Nodes_s (eRws l) (eMvs ms) = some [eInts (nodesL l ms)] := by
  show nodesS (eRws l) (eMvs ms) = _
  simp only [nodesS, List.length_map]
  rw [if_pos ⟨by omega, by omega⟩, mapM_rowI ho, mapM_mvI hom]
  simp only [Option.bind_some, Option.map_some, intsI_eq]
  congr 2
  have h0 : Rises [(0 : Int)] := by simp [Rises]
  have h1 := puts2_spec (fun r : Rw => r.ch) (fun r : Rw => r.par) l h0
  have h2 := puts2_spec (fun m : Mv => m.ch) (fun m : Mv => m.par) ms h1.1
  have h3 := sortI_spec (nodesK (l.map prR) (ms.map toMA))
  have e : sortI (nodesK (l.map prR) (ms.map toMA)) = nodesL l ms := by
    refine rises_ext h3.1 h2.1 fun x => ?_
    rw [h3.2]
    unfold nodesL
    rw [h2.2, h1.2]
    unfold nodesK
    rw [addPs_mem (fun q : MvAt => (q.ch, q.par))]
    have := addPs_mem (fun p : Int × Int => p) (l.map prR) (addK [] 0) x
    rw [this]
    have e1 : (∃ a ∈ l.map prR, x = a.1 ∨ x = a.2) ↔ ∃ r ∈ l, x = r.ch ∨ x = r.par := by
      constructor
      · rintro ⟨a, ha, h⟩; obtain ⟨r, hr, rfl⟩ := List.mem_map.1 ha; exact ⟨r, hr, h⟩
      · rintro ⟨r, hr, h⟩; exact ⟨prR r, List.mem_map.2 ⟨r, hr, rfl⟩, h⟩
    have e2 : (∃ q ∈ ms.map toMA, x = (q.ch, q.par).1 ∨ x = (q.ch, q.par).2) ↔ ∃ r ∈ ms, x = r.ch ∨ x = r.par := by
      constructor
      · rintro ⟨a, ha, h⟩; obtain ⟨r, hr, rfl⟩ := List.mem_map.1 ha; exact ⟨r, hr, h⟩
      · rintro ⟨r, hr, h⟩; exact ⟨toMA r, List.mem_map.2 ⟨r, hr, rfl⟩, h⟩
    rw [e1, e2]
    simp [addK]
  rw [e]

theorem ref14_All_eq {l : List Rw} {ms : List Mv} (hl : l.length + ms.length < 2 ^ 16) : ref14_All_s (eRws l) (eMvs ms) = some [eRws (allV l ms)] := by
  unfold ref14_All_s
  rw [iter_fold (vs0 := [eRws l, .int .i64 0]) (fun i (s : List Rw) => [eRws s, .int .i64 (i : Int)]) doV 0 (fun s => [eRws s]) (fun i s => s.length ≤ l.length + i) ms l rfl (by have := rounds_eq; omega) (by omega)]
  · simp [allV]
  · intro i s x hx hI
    have hi : i < ms.length := (List.getElem?_eq_some_iff.1 hx).1
    refine ⟨by have := doV_length s x; omega, ?_⟩
    unfold ref14_All_l3
    have hd := ref14_Do_eq (l := s) (by omega) x
    simp only [ilenL_lst, nth_zero, nth_one, nth_two, nth_three, nth_four, nth_five, ibin_lss, List.length_map, Int.ofNat_lt, hi, at_Mv hx, decide_true, icond_true, Option.bind_some, hd, ibin_succ (show i < 2 ^ 62 by omega)]
  · intro s _
    unfold ref14_All_l3
    simp

theorem law14_live_eq : law14_live_s = some [.bool true] := by kernel_rfl

set_option maxHeartbeats 1000000 in
theorem law14_FoldDoes_true (l : List Rw) (m : Mv) (hl : OKl l) (hm : OKm m) : law14_FoldDoes_s (eRws l) (.int .i64 m.c) (.int .i64 m.r) (.int .i64 m.par) (.int .i64 m.ch) (.str m.nm) (.flt .f64 m.rk) = some [.bool true] := by
  unfold law14_FoldDoes_s
  simp only [ref12_Few_eq, law14_live_eq, Option.bind_some, nth_zero, iun_not, ilenS_str, ibin_gtr, icond_dec, icond_bool]
  by_cases h1 : fewR l = true
  · have h60 := fewR_len h1
    have d1 := fold_Do_eq (l := l) (by omega) hl hm
    have d2 := ref14_Do_eq (l := l) (by omega) m
    have b1 := fold_Barred_eq (l := l) (by omega) hl hm
    have b2 := ref14_Barred_eq (l := l) (by omega) m
    have s1 := ref12_Same_eq (a := doV l m) (b := doV l m) (by have := doV_length l m; omega) (hl.doV hm).fl (hl.doV hm).fl
    simp only [sameR_refl] at s1
    simp only [d1, d2, b1, b2, s1, Option.bind_some, nth_zero, nth_one, icond_true, ibinB_eql, beq_self_eq_true, scal_bool, scal_nil, Option.map_some]
    cases h2 : decide (100 < (m.nm.size : Int)) <;> simp_all
  · simp [h1]
set_option maxHeartbeats 1000000 in
theorem law14_FoldAll_true (l : List Rw) (m : List Mv) (hl : OKl l) (hm : ∀ x ∈ m, OKm x) : law14_FoldAll_s (eRws l) (eMvs m) = some [.bool true] := by
  have hf1 : ref13_Few_s (eMvs m) (.int .i64 60) = some [.bool (fewV m 60)] := ref13_Few_eq (n := 60) (by decide)
  unfold law14_FoldAll_s
  simp only [ref12_Few_eq, hf1, law14_live_eq, Option.bind_some, nth_zero, iun_not, icond_bool]
  by_cases h1 : fewR l = true
  · by_cases h2 : fewV m 60 = true
    · have b1 := fewR_len h1
      have b2 := fewV_len h2
      have f1 := fold_All_eq (l := l) (ms := m) (by omega) hl hm
      have f2 := ref14_All_eq (l := l) (ms := m) (by omega)
      have hA := OKl.allV hl hm
      have s1 := ref12_Same_eq (a := allV l m) (b := allV l m) (by have := allV_length m l; omega) hA.fl hA.fl
      have n1 := fold_Nodes_eq (l := l) (ms := m) (by omega) (by omega) hl hm
      have n2 := ref14_Nodes_eq (l := l) (ms := m) (by omega) (by omega)
      have hn : (nodesL l m).length < 2 ^ 16 := by
        have : ∀ {α : Type} (f g : α → Int) (l : List α) (k : List Int), (l.foldl (fun k r => put2 k (f r) (g r)) k).length ≤ k.length + 2 * l.length := by
          intro α f g l
          induction l with
          | nil => simp
          | cons r l ih =>
            intro k
            have h1 := ih (put2 k (f r) (g r))
            have h2 := putI_length (putI k (f r)) (g r)
            have h3 := putI_length k (f r)
            simp only [List.foldl_cons, List.length_cons]
            unfold put2 at h1 ⊢
            omega
        have q1 := this (fun r : Rw => r.ch) (fun r => r.par) l [0]
        have q2 := this (fun r : Mv => r.ch) (fun r => r.par) m (l.foldl (fun k r => put2 k r.ch r.par) [0])
        unfold nodesL
        simp at q1 q2
        omega
      have s2 := ref05_Same_eq (a := nodesL l m) (b := nodesL l m) hn
      simp only [sameR_refl, decide_true] at s1 s2
      simp only [h1, h2, f1, f2, s1, n1, n2, s2, Bool.not_true, Bool.false_eq_true, if_false, Option.bind_some, nth_zero, icond_true, icond_false, scal_bool, scal_nil, Option.map_some]
    · simp [h1, h2]
  · simp [h1]
end Go.AM

/- tree.May, plainly; a move that is done leaves a tree a tree. -/
set_option linter.unusedVariables false
set_option linter.unusedSimpArgs false
namespace Go.AM

theorem mapM_oneB {O : List (List IV) → Option (List IV)} (h : ∀ r : Rw, O [eRw r] = some [.bool (oneR r)]) : ∀ l : List Rw, (l.map eRw).mapM (oneB O) = some (l.map oneR)
  | [] => rfl
  | r :: l => by
    have h1 : oneB O (eRw r) = some (oneR r) := by
      unfold oneB
      rw [h r]
    rw [List.map_cons, List.mapM_cons, h1, mapM_oneB h l]
    rfl
theorem risesQ_R (l : List Rw) : risesQ (fun i => (l.map oneR).getD i false) (l.map prR) 0 = (l.all oneR && adjB risR l) := by
  rw [Bool.eq_iff_iff, risesQ_iff, Bool.and_eq_true, adjB_iff]
  constructor
  · intro h
    refine ⟨List.all_eq_true.2 fun r hr => ?_, fun i x y hx hy => ?_⟩
    · obtain ⟨i, hi, rfl⟩ := List.mem_iff_getElem.1 hr
      have := (h i (by simpa using hi)).1
      simpa [List.getD_eq_getElem?_getD, hi] using this
    · have hi := (List.getElem?_eq_some_iff.1 hy).1
      have := (h (i + 1) (by simpa using hi)).2 (prR x) (prR y) (by omega) (by simp [hx]) (by simp [hy])
      simpa [risR, prR] using this
  · rintro ⟨h1, h2⟩ j hj
    have hj' : j < l.length := by simpa using hj
    refine ⟨?_, fun p q h0 hp hq => ?_⟩
    · have := List.all_eq_true.1 h1 l[j] (List.getElem_mem hj')
      simpa [List.getD_eq_getElem?_getD, hj'] using this
    · rw [List.getElem?_map] at hp hq
      cases hx : l[j - 1]? with
      | none => rw [hx] at hp; cases hp
      | some x =>
        cases hy : l[j]? with
        | none => rw [hy] at hq; cases hq
        | some y =>
          rw [hx] at hp; rw [hy] at hq
          cases hp; cases hq
          have := h2 (j - 1) x y hx (by rw [show j - 1 + 1 = j by omega]; exact hy)
          simpa [risR, prR] using this
theorem tree_May_eq {l : List Rw} (hl : l.length < 2 ^ 16) (ho : OKl l) : tree_May_s (eRws l) = some [.bool (mayR l)] := by
  show mayS _ (eRws l) = _
  unfold mayS
  simp only [List.length_map]
  rw [if_pos (by omega), mapM_rowI ho, mapM_oneB fun r => tree_One_eq r.ch r.par r.nm _]
  simp only [Option.bind_some, Option.map_some]
  congr 3
  unfold mayQ mayR
  rw [risesQ_R, List.length_map]
  congr 2
  rw [Bool.eq_iff_iff, List.all_eq_true, Bool.not_eq_true', List.any_eq_false]
  constructor
  · intro h r hr
    have h1 : r.ch ∈ ksof (l.map prR) := (mem_ksof _ _).2 (by
      unfold lkp
      rw [Option.isSome_map, List.find?_isSome]
      exact ⟨prR r, List.mem_map.2 ⟨r, hr, rfl⟩, by simp [prR]⟩)
    have := h _ h1
    rw [upto_wide] at this
    simpa using this
  · intro h c hc
    rw [upto_wide]
    have h2 := (mem_ksof _ _).1 hc
    unfold lkp at h2
    rw [Option.isSome_map, List.find?_isSome] at h2
    obtain ⟨p, hp, he⟩ := h2
    obtain ⟨r, hr, rfl⟩ := List.mem_map.1 hp
    have e : r.ch = c := by simpa [prR] using he
    have := h r hr
    rw [e] at this
    simpa using this

/-! ### A tree stays a tree -/
theorem least {P : Nat → Prop} : ∀ n, P n → ∃ j, P j ∧ ∀ i, i < j → ¬ P i := by
  intro n
  induction n using Nat.strongRecOn with
  | _ n ih =>
    intro h
    by_cases hh : ∃ i, i < n ∧ P i
    · obtain ⟨i, hi, hp⟩ := hh; exact ih i hi hp
    · exact ⟨n, h, fun i hi hp => hh ⟨i, hi, hp⟩⟩
theorem acyc_set {l : List Rw} {r : Rw} (h : ∀ c, ¬ Abv l c c) (h1 : r.ch ≠ r.par) (h2 : ¬ Abv l r.ch r.par) : ∀ c, ¬ Abv (setR l r) c c := by
  rintro c ⟨k, hk⟩
  have hf : ∀ x, x ≠ r.ch → upR (setR l r) x = upR l x := fun x hx => by rw [upR_set, if_neg hx]
  by_cases hv : ∃ j, j ≤ k ∧ nodeAt (upR (setR l r)) j c = some r.ch
  · obtain ⟨j, hj, hjc⟩ := hv
    have hrot : nodeAt (upR (setR l r)) (k + 1) r.ch = some r.ch := by
      have e1 : nodeAt (upR (setR l r)) (j + (k + 1)) c = nodeAt (upR (setR l r)) (k + 1) r.ch := by rw [nodeAt_add, hjc]; rfl
      have e2 : nodeAt (upR (setR l r)) (j + (k + 1)) c = some r.ch := by rw [Nat.add_comm, nodeAt_add, hk]; exact hjc
      rw [← e1, e2]
    rw [nodeAt_succ, upR_set, if_pos rfl] at hrot
    obtain ⟨i, hi, hmin⟩ := least (P := fun i => nodeAt (upR (setR l r)) i r.par = some r.ch) k hrot
    rw [nodeAt_same (c := r.ch) hf i hmin] at hi
    cases i with
    | zero => rw [nodeAt_zero] at hi; exact h1 (Option.some.inj hi).symm
    | succ i => exact h2 ⟨i, hi⟩
  · rw [nodeAt_same (c := r.ch) hf (k + 1) fun j hj hh => hv ⟨j, by omega, hh⟩] at hk
    exact h c ⟨k, hk⟩
theorem mem_setR {l : List Rw} {r x : Rw} (h : x ∈ setR l r) : x ∈ l ∨ x = r := by
  unfold setR at h
  split at h
  · exact List.mem_or_eq_of_mem_set h
  · simp only [List.mem_append, List.mem_singleton] at h
    rcases h with (h | h) | h
    · exact .inl (List.mem_of_mem_take h)
    · exact .inr h
    · exact .inl (List.mem_of_mem_drop h)
theorem rises_adj : ∀ {l : List Rw}, adjB risR l = true ↔ Rises (l.map (·.ch))
  | [] => by simp [adjB, Rises]
  | [x] => by simp [adjB, Rises]
  | x :: y :: l => by
    have ih := rises_adj (l := y :: l)
    simp only [adjB, Bool.and_eq_true]
    rw [ih]
    simp only [List.map_cons, Rises, List.pairwise_cons, risR, decide_eq_true_eq]
    constructor
    · rintro ⟨h1, h2, h3⟩
      refine ⟨fun a ha => ?_, h2, h3⟩
      rcases List.mem_cons.1 ha with rfl | ha
      · exact h1
      · exact Int.lt_trans h1 (h2 a ha)
    · rintro ⟨h1, h2, h3⟩
      exact ⟨h1 _ List.mem_cons_self, h2, h3⟩
theorem findIdx_same {α : Type} {p q : α → Bool} : ∀ {l : List α}, (∀ x ∈ l, p x = q x) → l.findIdx? p = l.findIdx? q
  | [], _ => rfl
  | x :: l, h => by
    rw [List.findIdx?_cons, List.findIdx?_cons, h x List.mem_cons_self, findIdx_same fun y hy => h y (List.mem_cons_of_mem _ hy)]
theorem setR_keys {l : List Rw} (h : Rises (l.map (·.ch))) (r : Rw) : (setR l r).map (·.ch) = putI (l.map (·.ch)) r.ch := by
  have hp := putI_spec h r.ch
  unfold setR
  cases hi : l.findIdx? (isC r.ch) with
  | some i =>
    obtain ⟨hlt, hc, _⟩ := List.findIdx?_eq_some_iff_getElem.1 hi
    have hch : l[i].ch = r.ch := by simpa [isC] using hc
    simp only
    have e : (l.set i r).map (·.ch) = l.map (·.ch) := by
      rw [List.map_set]
      apply List.ext_getElem?
      intro j
      rw [List.getElem?_set]
      split
      · rename_i hj; subst hj; simp [hlt, hch]
      · rfl
    rw [e]
    refine rises_ext h hp.1 fun x => ?_
    rw [hp.2]
    constructor
    · exact .inl
    · rintro (h | rfl)
      · exact h
      · exact List.mem_map.2 ⟨l[i], List.getElem_mem hlt, hch⟩
  | none =>
    have hno : ∀ x ∈ l, x.ch ≠ r.ch := by
      rw [List.findIdx?_eq_none_iff] at hi
      intro x hx; simpa [isC] using hi x hx
    have ek : atI (l.map (·.ch)) r.ch = atR l r.ch := by
      unfold atI atR
      rw [List.findIdx?_map, List.length_map]
      congr 1
      refine findIdx_same fun x hx => ?_
      have := hno x hx
      simp only [Function.comp]
      rw [Bool.eq_iff_iff]
      simp
      omega
    unfold putI
    rw [ek, if_neg]
    · simp [List.map_take, List.map_drop]
    · intro hh
      have := List.mem_of_getElem? hh
      obtain ⟨x, hx, he⟩ := List.mem_map.1 this
      exact hno x hx he
theorem mayR_parts {l : List Rw} (h : mayR l = true) : l.length ≤ 2000 ∧ (∀ r ∈ l, oneR r = true) ∧ Rises (l.map (·.ch)) ∧ ∀ c, ¬ Abv l c c := by
  unfold mayR at h
  simp only [Bool.and_eq_true, decide_eq_true_eq, List.all_eq_true, Bool.not_eq_true', List.any_eq_false] at h
  obtain ⟨h1, ⟨h2, h3⟩, h4⟩ := h
  refine ⟨h1, h2, rises_adj.1 h3, fun c hc => ?_⟩
  have hk : c ∈ l.map (·.ch) := by
    obtain ⟨k, hk⟩ := hc
    apply upR_key
    rw [nodeAt_succ] at hk
    cases hu : upR l c with
    | none => rw [hu] at hk; cases hk
    | some y => rfl
  obtain ⟨r, hr, rfl⟩ := List.mem_map.1 hk
  exact h4 r hr ((aboveV_iff _ _ _).2 hc)
theorem mayR_of {l : List Rw} (h1 : l.length ≤ 2000) (h2 : ∀ r ∈ l, oneR r = true) (h3 : Rises (l.map (·.ch))) (h4 : ∀ c, ¬ Abv l c c) : mayR l = true := by
  unfold mayR
  simp only [Bool.and_eq_true, decide_eq_true_eq, List.all_eq_true, Bool.not_eq_true', List.any_eq_false]
  exact ⟨h1, ⟨h2, rises_adj.2 h3⟩, fun r hr => by rw [aboveV_iff]; exact h4 _⟩
theorem mayR_do {l : List Rw} {m : Mv} (h : mayR l = true) (hm : oneV m = true) (hb : barV l m = false) (hl : l.length + 1 ≤ 2000) : mayR (doV l m) = true := by
  obtain ⟨h1, h2, h3, h4⟩ := mayR_parts h
  unfold barV at hb
  simp only [Bool.or_eq_false_iff, decide_eq_false_iff_not] at hb
  have hlen := doV_length l m
  have hd : doV l m = setR l (rowOf m) := by
    unfold doV
    rw [if_neg]
    unfold barV
    simp [hb]
  refine mayR_of (by omega) (fun r hr => ?_) ?_ ?_
  · rw [hd] at hr
    rcases mem_setR hr with hr | rfl
    · exact h2 r hr
    · unfold oneV at hm
      simp only [Bool.and_eq_true] at hm
      exact hm.2
  · rw [hd, setR_keys h3]
    exact (putI_spec h3 _).1
  · rw [hd]
    exact acyc_set h4 (fun e => hb.1.2 e) ((aboveV_false _ _ _).1 hb.2)
theorem keys_do {l : List Rw} {m : Mv} (h : mayR l = true) (hb : barV l m = false) (c : Int) : c ∈ (doV l m).map (·.ch) ↔ c ∈ l.map (·.ch) ∨ c = m.ch := by
  obtain ⟨h1, h2, h3, h4⟩ := mayR_parts h
  have hd : doV l m = setR l (rowOf m) := by unfold doV; rw [if_neg (by simp [hb])]
  rw [hd, setR_keys h3]
  exact (putI_spec h3 _).2 c
end Go.AM

/- FoldParts, FoldOthers, plainly. -/
set_option linter.unusedVariables false
set_option linter.unusedSimpArgs false
namespace Go.AM

theorem two_inv {cs : List IV} (h : Typed [.int .i64, .int .i64] cs) : ∃ v w : Int, cs = [.int .i64 v, .int .i64 w] ∧ in64 v ∧ in64 w := by
  obtain ⟨hl, hs⟩ := h
  match cs, hl with
  | [c0, c1], _ =>
    obtain ⟨a, rfl, ha⟩ := i64_inv (hs 0 _ c0 rfl rfl)
    obtain ⟨b, rfl, hb⟩ := i64_inv (hs 1 _ c1 rfl rfl)
    exact ⟨a, b, rfl, ha, hb⟩
theorem three_inv {cs : List IV} (h : Typed [.int .i64, .int .i64, .int .i64] cs) : ∃ v w u : Int, cs = [.int .i64 v, .int .i64 w, .int .i64 u] ∧ in64 v ∧ in64 w ∧ in64 u := by
  obtain ⟨hl, hs⟩ := h
  match cs, hl with
  | [c0, c1, c2], _ =>
    obtain ⟨a, rfl, ha⟩ := i64_inv (hs 0 _ c0 rfl rfl)
    obtain ⟨b, rfl, hb⟩ := i64_inv (hs 1 _ c1 rfl rfl)
    obtain ⟨c, rfl, hc⟩ := i64_inv (hs 2 _ c2 rfl rfl)
    exact ⟨a, b, c, rfl, ha, hb, hc⟩
theorem int64_inv {cs : List IV} (h : Typed [.int .i64] cs) : ∃ v : Int, cs = [.int .i64 v] ∧ in64 v := by
  obtain ⟨hl, hs⟩ := h
  match cs, hl with
  | [c0], _ =>
    obtain ⟨a, rfl, ha⟩ := i64_inv (hs 0 _ c0 rfl rfl)
    exact ⟨a, rfl, ha⟩

/-- Those that are not barred. -/
def goodV : List Rw → List Mv → List Mv
  | _, [] => []
  | l, m :: ms => if barV l m = true then goodV l ms else m :: goodV (doV l m) ms
theorem doV_bar {l : List Rw} {m : Mv} (h : barV l m = true) : doV l m = l := by unfold doV; rw [if_pos h]
theorem allV_good : ∀ (ms : List Mv) (l : List Rw), allV l (goodV l ms) = allV l ms
  | [], l => rfl
  | m :: ms, l => by
    unfold goodV
    split
    · rename_i h
      rw [allV_good ms l]
      show _ = allV (doV l m) ms
      rw [doV_bar h]
    · show allV (doV l m) (goodV (doV l m) ms) = allV (doV l m) ms
      exact allV_good ms _
theorem goodV_sub : ∀ (ms : List Mv) (l : List Rw), ∀ m ∈ goodV l ms, m ∈ ms
  | [], l, m, h => h
  | x :: ms, l, m, h => by
    unfold goodV at h
    split at h
    · exact List.mem_cons_of_mem _ (goodV_sub ms l m h)
    · rcases List.mem_cons.1 h with rfl | h
      · exact List.mem_cons_self
      · exact List.mem_cons_of_mem _ (goodV_sub ms _ m h)
theorem goodV_length : ∀ (ms : List Mv) (l : List Rw), (goodV l ms).length ≤ ms.length
  | [], l => Nat.le_refl _
  | x :: ms, l => by
    unfold goodV
    split
    · have := goodV_length ms l; simp; omega
    · have := goodV_length ms (doV l x); simp; omega
def goodStep (s : List Mv × List Rw) (m : Mv) : List Mv × List Rw := (if barV s.2 m = true then s.1 else s.1 ++ [m], doV s.2 m)
theorem goodStep_eq : ∀ (ms : List Mv) (l : List Rw) (g : List Mv), ms.foldl goodStep (g, l) = (g ++ goodV l ms, allV l ms)
  | [], l, g => by simp [goodV, allV]
  | m :: ms, l, g => by
    rw [List.foldl_cons]
    unfold goodStep goodV
    simp only
    split
    · rename_i h
      rw [show (fun s m => (if barV s.2 m = true then s.1 else s.1 ++ [m], doV s.2 m)) = goodStep from rfl, goodStep_eq ms, doV_bar h]
      show _ = (_, allV (doV l m) ms)
      rw [doV_bar h]
    · rw [show (fun s m => (if barV s.2 m = true then s.1 else s.1 ++ [m], doV s.2 m)) = goodStep from rfl, goodStep_eq ms]
      simp [allV]

set_option maxHeartbeats 1000000 in
theorem law14_FoldParts_true (l : List Rw) (m o : List Mv) (hl : OKl l) (hm : ∀ x ∈ m, OKm x) (ho : ∀ x ∈ o, OKm x) : law14_FoldParts_s (eRws l) (eMvs m) (eMvs o) = some [.bool true] := by
  have hf1 : ref13_Few_s (eMvs m) (.int .i64 40) = some [.bool (fewV m 40)] := ref13_Few_eq (n := 40) (by decide)
  have hf2 : ref13_Few_s (eMvs o) (.int .i64 40) = some [.bool (fewV o 40)] := ref13_Few_eq (n := 40) (by decide)
  unfold law14_FoldParts_s
  simp only [ilenL_lst, List.length_map, ibin_gtr, icond_dec, ref12_Few_eq, hf1, hf2, law14_live_eq, Option.bind_some, nth_zero, iun_not, icond_bool]
  by_cases h0 : 40 < (l.length : Int)
  · simp [h0]
  · by_cases h1 : fewR l = true
    · by_cases h2 : fewV m 40 = true
      · by_cases h3 : fewV o 40 = true
        · have b0 : l.length ≤ 40 := by omega
          have b2 := fewV_len h2
          have b3 := fewV_len h3
          have hmo : ∀ x ∈ m ++ o, OKm x := fun x hx => by
            rcases List.mem_append.1 hx with hx | hx
            · exact hm x hx
            · exact ho x hx
          have a1 : iapp 6 56 (.lst []) (eMvs m) = some (eMvs m) := iapp_Mv (l := []) (k := m) (by simp) (by omega)
          have a2 : iapp 6 56 (eMvs m) (eMvs o) = some (eMvs (m ++ o)) := iapp_Mv (by omega) (by omega)
          have hln : (m ++ o).length ≤ 80 := by simp; omega
          have f1 := fold_All_eq (l := l) (ms := m ++ o) (by omega) hl hmo
          have f2 := fold_All_eq (l := l) (ms := m) (by omega) hl hm
          have hAm := OKl.allV hl hm
          have l1 := allV_length m l
          have f3 := fold_All_eq (l := allV l m) (ms := o) (by omega) hAm ho
          rw [← allV_append] at f3
          have hA := OKl.allV hl hmo
          have l2 := allV_length (m ++ o) l
          have s1 := ref12_Same_eq (a := allV l (m ++ o)) (b := allV l (m ++ o)) (by omega) hA.fl hA.fl
          simp only [sameR_refl] at s1
          have hg := goodV_length (m ++ o) l
          have f4 := fold_All_eq (l := l) (ms := goodV l (m ++ o)) (by omega) hl fun x hx => hmo x (goodV_sub _ _ x hx)
          rw [allV_good] at f4
          have hit : iter rounds (law14_FoldParts_l10 (eMvs (m ++ o))) [.lst [], eRws l, .int .i64 0] = some (0, [eMvs (goodV l (m ++ o)), eRws (allV l (m ++ o))]) := by
            rw [iter_fold (vs0 := [.lst [], eRws l, .int .i64 0]) (fun i (s : List Mv × List Rw) => [eMvs s.1, eRws s.2, .int .i64 (i : Int)]) goodStep 0 (fun s => [eMvs s.1, eRws s.2]) (fun i s => s.1.length ≤ i ∧ s.2.length ≤ l.length + i ∧ OKl s.2) (m ++ o) ([], l) rfl (by have := rounds_eq; omega) ⟨by simp, by simp, hl⟩]
            · rw [goodStep_eq]; simp
            · intro i s x hx hI
              have hi : i < (m ++ o).length := (List.getElem?_eq_some_iff.1 hx).1
              have hxm := hmo x (List.mem_of_getElem? hx)
              have d1 := fold_Do_eq (l := s.2) (by omega) hI.2.2 hxm
              have c1 := fold_Barred_eq (l := s.2) (by omega) hI.2.2 hxm
              have ap : iapp 6 56 (eMvs s.1) (.lst [[.int .i64 x.c, .int .i64 x.r, .int .i64 x.par, .int .i64 x.ch, .str x.nm, .flt .f64 x.rk]]) = some (eMvs (s.1 ++ [x])) := iapp_Mv (l := s.1) (k := [x]) (by omega) (by simp)
              have dl := doV_length s.2 x
              refine ⟨⟨?_, ?_, hI.2.2.doV hxm⟩, ?_⟩
              · unfold goodStep; simp only; split
                · omega
                · simp; omega
              · unfold goodStep; simp only; omega
              · unfold law14_FoldParts_l10
                simp only [llen_lst, List.length_map, nth_zero, nth_one, nth_two, nth_three, nth_four, nth_five, ibin_lss, Int.ofNat_lt, hi, decide_true, icond_true, Option.bind_some, at_Mv hx, c1, d1, ap, iun_not, icond_bool, ibin_succ (show i < 2 ^ 62 by omega), goodStep]
                cases hb : barV s.2 x <;> simp [hb]
            · intro s _
              unfold law14_FoldParts_l10
              simp
          simp only [h0, h1, h2, h3, decide_false, a1, a2, f1, f2, f3, f4, s1, hit, Bool.not_true, Bool.false_eq_true, if_false, Option.bind_some, nth_zero, nth_one, icond_true, icond_false, sel_zero, scal_bool, scal_nil, Option.map_some, iun_not]
        · simp [h0, h1, h2, h3]
      · simp [h0, h1, h2]
    · simp [h0, h1]

theorem foundI_none : foundI none = [.int .i64 0, .int .i64 0, .str ⟨#[]⟩, .flt .f64 0, .bool false] := rfl
set_option maxHeartbeats 1000000 in
theorem law14_FoldOthers_true (l : List Rw) (m : Mv) (a b : Int) (hl : OKl l) (hm : OKm m) (ha : in64 a) (hb : in64 b) : law14_FoldOthers_s (eRws l) (.int .i64 m.c) (.int .i64 m.r) (.int .i64 m.par) (.int .i64 m.ch) (.str m.nm) (.flt .f64 m.rk) (.int .i64 a) (.int .i64 b) = some [.bool true] := by
  unfold law14_FoldOthers_s
  simp only [ref12_Few_eq, law14_live_eq, Option.bind_some, nth_zero, iun_not, ilenS_str, ibin_gtr, icond_dec, icond_bool]
  by_cases h1 : fewR l = true
  · have b1 := fewR_len h1
    simp only [ref12_May_eq (l := l) (by omega), ref13_One_eq]
    by_cases h2 : 100 < (m.nm.size : Int)
    · simp [h1, h2]
    · by_cases h3 : mayR l = true
      · by_cases h4 : oneV m = true
        · have dl := doV_length l m
          have d1 := fold_Do_eq (l := l) (by omega) hl hm
          have fa := tree_Find_eq (l := l) (by omega) a
          have fb := tree_Find_eq (l := doV l m) (by omega) a
          have ab1 := tree_Above_eq (l := l) (by omega) hl m.ch hb
          have ab2 := tree_Above_eq (l := l) (by omega) hl a hb
          have ab3 := tree_Above_eq (l := doV l m) (by omega) (hl.doV hm) a hb
          have hfind : a ≠ m.ch → findR (doV l m) a = findR l a := fun hne => by
            unfold doV
            split
            · rfl
            · rw [findR_set, if_neg (show ¬ a = (rowOf m).ch from hne)]
          have habv : b ≠ m.ch → aboveV l m.ch b = false → aboveV (doV l m) a b = aboveV l a b := fun hne hab => by
            unfold doV
            split
            · rfl
            · exact aboveV_eq (abv_set (r := rowOf m) hne ((aboveV_false _ _ _).1 hab))
          have hal : a ≠ m.ch → ref12_Alike_s (nth (foundI (findR l a)) 0) (nth (foundI (findR l a)) 1) (nth (foundI (findR l a)) 2) (nth (foundI (findR l a)) 3) (nth (foundI (findR l a)) 0) (nth (foundI (findR l a)) 1) (nth (foundI (findR l a)) 2) (nth (foundI (findR l a)) 3) = some [.bool true] := fun _ => by
            cases hf : findR l a with
            | none =>
              have := ref12_AlikeR (a := zeroRw) (b := zeroRw) (by decide) (by decide)
              simp only [zeroRw, decide_true] at this
              simpa [foundI] using this
            | some x =>
              have hx := ref12_AlikeR (a := x) (b := x) (findR_ok hl hf).rk (findR_ok hl hf).rk
              simp only [decide_true] at hx
              simpa [foundI] using hx
          have hq : ∃ q, nth (foundI (findR l a)) 4 = .bool q := by
            cases findR l a <;> exact ⟨_, rfl⟩
          obtain ⟨q, hq⟩ := hq
          simp only [h1, h2, h3, h4, Bool.not_true, Bool.false_eq_true, if_false, Option.bind_some, nth_zero, icond_false, d1, fa, fb, ab1, ab2, ab3, ibin_neq, icond_dec, iun_not, icond_bool, ibinB_neq, decide_false]
          by_cases e1 : a = m.ch
          · simp only [e1, ne_eq, not_true_eq_false, if_false]
            by_cases e2 : b = m.ch
            · simp [e2]
            · cases hab : aboveV l m.ch b with
              | true => simp [e2]
              | false =>
                have hv := habv e2 hab
                rw [e1, hab] at hv
                simp [e2, hab, hv]
          · simp only [e1, ne_eq, not_false_eq_true, if_true, hfind e1, hal e1, hq, ibinB_neq, beq_self_eq_true, Bool.not_true, icond_false, Option.bind_some, nth_zero, iun_not]
            by_cases e2 : b = m.ch
            · simp [e2]
            · cases hab : aboveV l m.ch b with
              | true => simp [e2]
              | false => simp [e2, habv e2 hab]
        · simp [h1, h2, h3, h4]
      · simp [h1, h2, h3]
  · simp [h1]
end Go.AM

/- FoldTree, plainly. -/
set_option linter.unusedVariables false
set_option linter.unusedSimpArgs false
namespace Go.AM

/-- A set of whole numbers, as a map to bools. -/
def eK (K : List Int) : IV := .map (K.map fun k => [.int .i64 k, .bool true])
theorem mem_addKP (K : List Int) (k x : Int) : x ∈ addK K k ↔ x ∈ K ∨ x = k := by
  unfold addK
  split
  · rename_i h
    have : k ∈ K := by simpa using h
    constructor
    · exact .inl
    · rintro (h | rfl) <;> assumption
  · simp
theorem addK_nodupP {K : List Int} (h : K.Nodup) (k : Int) : (addK K k).Nodup := by
  unfold addK
  split
  · exact h
  · rename_i hk
    have : k ∉ K := by simpa using hk
    rw [List.nodup_append]
    exact ⟨h, by simp, by intro a ha c hc; simp at hc; subst hc; exact fun e => this (e ▸ ha)⟩
theorem ifind_K (k : Int) : ∀ (K : List Int) (i : Nat), ∃ r, ifind (.int .i64 k) (K.map fun k => [IV.int .i64 k, .bool true]) i = some r ∧ ((r = none ∧ k ∉ K) ∨ ∃ j, r = some (i + j, .bool true) ∧ K[j]? = some k)
  | [], i => ⟨none, rfl, .inl ⟨rfl, by simp⟩⟩
  | x :: K, i => by
    by_cases h : k = x
    · subst h
      exact ⟨some (i, .bool true), by simp [ifind, isame], .inr ⟨0, rfl, rfl⟩⟩
    · obtain ⟨r, h1, h2⟩ := ifind_K k K (i + 1)
      refine ⟨r, ?_, ?_⟩
      · simp only [List.map_cons, ifind, isame, if_true]
        rw [show (k == x) = false by simpa using h]
        exact h1
      · rcases h2 with ⟨h2, h3⟩ | ⟨j, h2, h3⟩
        · exact .inl ⟨h2, by simp [h, h3]⟩
        · exact .inr ⟨j + 1, by rw [h2]; congr 2; omega, by simpa using h3⟩
theorem imputK_K (K : List Int) (k : Int) : imputK (.int .i64) (eK K) (.int .i64 k) (.bool true) = some (eK (addK K k)) := by
  obtain ⟨r, h1, h2⟩ := ifind_K k K 0
  unfold imputK
  rw [if_pos (by simp [ikey])]
  unfold imput eK
  simp only
  rw [h1]
  rcases h2 with ⟨rfl, h3⟩ | ⟨j, rfl, h3⟩
  · simp [addK, h3]
  · have hm : k ∈ K := List.mem_of_getElem? h3
    simp only [Option.bind_some, addK, List.contains_iff_mem, hm, if_true]
    congr 2
    apply List.ext_getElem?
    intro i
    rw [List.getElem?_set]
    split
    · rename_i e
      have hj : j < K.length := (List.getElem?_eq_some_iff.1 h3).1
      have : 0 + j = j := by omega
      rw [this] at e
      subst e
      simp [hj, h3]
      have := (List.getElem?_eq_some_iff.1 h3).2
      rw [this]
    · rfl
theorem imgetK_K (K : List Int) (k : Int) : imgetK (.int .i64) (eK K) (.int .i64 k) (.bool false) = some [.bool (K.contains k), .bool (K.contains k)] := by
  obtain ⟨r, h1, h2⟩ := ifind_K k K 0
  unfold imgetK
  rw [if_pos (by simp [ikey])]
  unfold imget eK
  simp only
  rw [h1]
  rcases h2 with ⟨rfl, h3⟩ | ⟨j, rfl, h3⟩
  · simp [h3]
  · have hm : k ∈ K := List.mem_of_getElem? h3
    simp [hm]
theorem imlen_K (K : List Int) : imlen (eK K) = some (.int .i64 K.length) := by
  unfold imlen eK; simp
theorem perm_length {K L : List Int} (h1 : K.Nodup) (h2 : L.Nodup) (h : ∀ c, c ∈ K ↔ c ∈ L) : K.length = L.length :=
  ((List.perm_ext_iff_of_nodup h1 h2).2 h).length_eq

/-- A loop that goes on or leaves at once. -/
theorem iter_or {f : List IV → Option SR} {n : Nat} (I : Nat → List IV → Prop) (E : Nat × List IV → Prop)
    (hstep : ∀ i vs, i < n → I i vs → (∃ vs', f vs = some (.next vs') ∧ I (i + 1) vs') ∨ ∃ e o, f vs = some (.done e o) ∧ E (e, o))
    (hend : ∀ vs, I n vs → ∃ e o, f vs = some (.done e o) ∧ E (e, o)) : ∀ (d i : Nat) (m : Nat) (vs : List IV), i + d = n → d < m → I i vs → ∃ p, iter m f vs = some p ∧ E p := by
  intro d
  induction d with
  | zero =>
    intro i m vs hi hm h
    obtain ⟨m, rfl⟩ : ∃ m', m = m' + 1 := ⟨m - 1, by omega⟩
    obtain rfl : i = n := by omega
    obtain ⟨e, o, h1, h2⟩ := hend vs h
    exact ⟨(e, o), iter_done m h1, h2⟩
  | succ d ih =>
    intro i m vs hi hm h
    obtain ⟨m, rfl⟩ : ∃ m', m = m' + 1 := ⟨m - 1, by omega⟩
    rcases hstep i vs (by omega) h with ⟨vs', h1, h2⟩ | ⟨e, o, h1, h2⟩
    · obtain ⟨p, h3, h4⟩ := ih (i + 1) m vs' (by omega) (by omega) h2
      refine ⟨p, ?_, h4⟩
      rw [iter, h1]
      exact h3
    · exact ⟨(e, o), iter_done m h1, h2⟩
theorem allV_snoc (l : List Rw) (ms : List Mv) (m : Mv) : allV l (ms ++ [m]) = doV (allV l ms) m := by
  rw [allV_append]; rfl
theorem take_snocM {α : Type} {l : List α} {k : Nat} {x : α} (h : l[k]? = some x) : l.take (k + 1) = l.take k ++ [x] := by
  rw [List.take_add_one, h]; rfl

set_option maxHeartbeats 2000000 in
theorem law14_FoldTree_true (l : List Rw) (m : List Mv) (hl : OKl l) (hm : ∀ x ∈ m, OKm x) : law14_FoldTree_s (eRws l) (eMvs m) = some [.bool true] := by
  have hf1 : ref13_Few_s (eMvs m) (.int .i64 60) = some [.bool (fewV m 60)] := ref13_Few_eq (n := 60) (by decide)
  unfold law14_FoldTree_s
  simp only [ref12_Few_eq, hf1, law14_live_eq, Option.bind_some, nth_zero, iun_not, icond_bool]
  by_cases h1 : fewR l = true
  · by_cases h2 : fewV m 60 = true
    · have b1 := fewR_len h1
      have b2 := fewV_len h2
      simp only [ref12_May_eq (l := l) (by omega), Option.bind_some, nth_zero, iun_not]
      by_cases h3 : mayR l = true
      · -- the keys of the rows
        have hk0 : iter rounds (law14_FoldTree_l5 (eRws l)) [.map [], .int .i64 0] = some (0, [eK ((l.map (·.ch)).foldl addK [])]) := by
          rw [iter_fold (vs0 := [.map [], .int .i64 0]) (fun i (s : List Int) => [eK s, .int .i64 (i : Int)]) (fun K (r : Rw) => addK K r.ch) 0 (fun s => [eK s]) (fun i s => True) l [] rfl (by have := rounds_eq; omega) trivial]
          · rw [List.foldl_map]
          · intro i s x hx hI
            have hi : i < l.length := (List.getElem?_eq_some_iff.1 hx).1
            refine ⟨trivial, ?_⟩
            unfold law14_FoldTree_l5
            simp only [ilenL_lst, nth_zero, nth_one, ibin_lss, List.length_map, Int.ofNat_lt, hi, at_Rw hx, decide_true, icond_true, Option.bind_some, imputK_K, ibin_succ (show i < 2 ^ 62 by omega)]
          · intro s _
            unfold law14_FoldTree_l5
            simp
        have hK : ((l.map (·.ch)).foldl addK []).Nodup ∧ ∀ c, c ∈ (l.map (·.ch)).foldl addK [] ↔ c ∈ l.map (·.ch) := by
          have key : ∀ (xs K : List Int), K.Nodup → (xs.foldl addK K).Nodup ∧ ∀ c, c ∈ xs.foldl addK K ↔ c ∈ K ∨ c ∈ xs := by
            intro xs
            induction xs with
            | nil => intro K h; exact ⟨h, by simp⟩
            | cons x xs ih =>
              intro K h
              obtain ⟨h1, h2⟩ := ih (addK K x) (addK_nodupP h x)
              exact ⟨h1, fun c => by rw [List.foldl_cons, h2, mem_addKP]; simp [or_assoc]⟩
          have := key (l.map (·.ch)) [] (by simp)
          simpa using this
        generalize (l.map (·.ch)).foldl addK [] = K0 at hk0 hK
        -- the moves
        obtain ⟨p, hp, hE⟩ := iter_or (f := law14_FoldTree_l10 (eMvs m)) (n := m.length)
          (fun i vs => ∃ K, vs = [eK K, eRws (allV l (m.take i)), .int .i64 (i : Int)] ∧ K.Nodup ∧ (∀ c, c ∈ K ↔ c ∈ (allV l (m.take i)).map (·.ch)) ∧ mayR (allV l (m.take i)) = true)
          (fun p => p = (1, [.bool true]) ∨ ∃ K, p = (0, [eK K, eRws (allV l m)]) ∧ K.Nodup ∧ (∀ c, c ∈ K ↔ c ∈ (allV l m).map (·.ch)) ∧ mayR (allV l m) = true)
          (by
            rintro i vs hi ⟨K, rfl, hn, hc, hM⟩
            obtain ⟨x, hx⟩ : ∃ x, m[i]? = some x := ⟨m[i], List.getElem?_eq_getElem hi⟩
            have hxm := hm x (List.mem_of_getElem? hx)
            have ht : OKl (allV l (m.take i)) := OKl.allV hl fun y hy => hm y (List.mem_of_mem_take hy)
            have htl := allV_length (m.take i) l
            simp only [List.length_take] at htl
            have hlen : (allV l (m.take i)).length ≤ 60 + i := by omega
            have hsn : allV l (m.take (i + 1)) = doV (allV l (m.take i)) x := by rw [take_snocM hx, allV_snoc]
            rw [hsn]
            generalize allV l (m.take i) = t at *
            have d1 := fold_Do_eq (l := t) (by omega) ht hxm
            have dl := doV_length t x
            have dO := ht.doV hxm
            by_cases h4 : oneV x = true
            · refine .inl ?_
              cases hb : barV t x with
              | true =>
                have hdo : doV t x = t := doV_bar hb
                have s1 := ref12_Same_eq (a := t) (b := t) (by omega) ht.fl ht.fl
                simp only [sameR_refl] at s1
                refine ⟨_, ?_, K, rfl, hn, by rw [hdo]; exact hc, by rw [hdo]; exact hM⟩
                unfold law14_FoldTree_l10
                simp only [ilenL_lst, nth_zero, nth_one, nth_two, nth_three, nth_four, nth_five, ibin_lss, List.length_map, Int.ofNat_lt, hi, at_Mv hx, decide_true, icond_true, Option.bind_some, ref13_One_eq, h4, d1, hdo, hb, s1, iun_not, icond_bool, Bool.not_true, Bool.not_false, Bool.false_eq_true, if_false, if_true, icond_false, ibin_succ (show i < 2 ^ 62 by omega)]
              | false =>
                have hdo : doV t x = setR t (rowOf x) := by unfold doV; rw [if_neg (by simp [hb])]
                have fd := tree_Find_eq (l := doV t x) (by omega) x.ch
                have hfd : findR (doV t x) x.ch = some (rowOf x) := by rw [hdo, findR_set, if_pos (show x.ch = (rowOf x).ch from rfl)]
                rw [hfd] at fd
                have al := ref12_AlikeR (a := rowOf x) (b := rowOf x) hxm.rk hxm.rk
                simp only [rowOf, decide_true] at al
                refine ⟨_, ?_, addK K x.ch, rfl, addK_nodupP hn _, fun c => by rw [mem_addKP, keys_do hM hb, hc], mayR_do hM h4 hb (by omega)⟩
                unfold law14_FoldTree_l10
                simp only [ilenL_lst, nth_zero, nth_one, nth_two, nth_three, nth_four, nth_five, ibin_lss, List.length_map, Int.ofNat_lt, hi, at_Mv hx, decide_true, icond_true, Option.bind_some, ref13_One_eq, h4, d1, hb, fd, foundI, rowOf, al, imputK_K, ref13_Row_eq, iun_not, icond_bool, Bool.not_true, Bool.not_false, Bool.false_eq_true, if_false, if_true, icond_false, ibin_succ (show i < 2 ^ 62 by omega)]
            · refine .inr ⟨1, [.bool true], ?_, .inl rfl⟩
              have h4' : oneV x = false := by simpa using h4
              unfold law14_FoldTree_l10
              simp only [ilenL_lst, nth_zero, nth_one, nth_two, nth_three, nth_four, nth_five, ibin_lss, List.length_map, Int.ofNat_lt, hi, at_Mv hx, decide_true, icond_true, Option.bind_some, ref13_One_eq, h4', law14_live_eq, iun_not, icond_bool, Bool.not_false, if_true])
          (by
            rintro vs ⟨K, rfl, hn, hc, hM⟩
            rw [List.take_length] at hc hM ⊢
            refine ⟨0, [eK K, eRws (allV l m)], ?_, .inr ⟨K, rfl, hn, hc, hM⟩⟩
            unfold law14_FoldTree_l10
            simp)
          m.length 0 rounds [eK K0, eRws l, .int .i64 0] (by omega) (by have := rounds_eq; omega) ⟨K0, rfl, hK.1, hK.2, h3⟩
        simp only [h1, h2, h3, hk0, hp, Bool.not_true, Bool.false_eq_true, if_false, Option.bind_some, nth_zero, icond_false, sel_zero]
        rcases hE with rfl | ⟨K, rfl, hn, hc, hM⟩
        · simp [sel]
        · have hA := OKl.allV hl hm
          have l1 := allV_length m l
          have tm := tree_May_eq (l := allV l m) (by omega) hA
          have fa := fold_All_eq (l := l) (ms := m) (by omega) hl hm
          have s1 := ref12_Same_eq (a := allV l m) (b := allV l m) (by omega) hA.fl hA.fl
          simp only [sameR_refl] at s1
          have hnd := (mayR_parts hM).2.2.1.nodup
          have hle : K.length = (allV l m).length := by
            have := perm_length hn hnd hc
            simpa using this
          have hit : iter rounds (law14_FoldTree_l26 (0, [eK K, eRws (allV l m)])) [.int .i64 0] = some (0, []) := by
            rw [iter_check (vs0 := [IV.int .i64 0]) (fun i => [IV.int .i64 (i : Int)]) (fun i (r : Rw) => !K.contains r.ch) 1 [.bool false] 0 [] (allV l m) rfl (by have := rounds_eq; omega)]
            · have hno : anyI (fun i (r : Rw) => !K.contains r.ch) (allV l m) 0 = false := by
                rw [anyI_false]
                intro i r hr
                have : r.ch ∈ K := (hc _).2 (List.mem_map.2 ⟨r, List.mem_of_getElem? hr, rfl⟩)
                simpa using this
              rw [hno]; rfl
            · intro i x hx
              have hi : i < (allV l m).length := (List.getElem?_eq_some_iff.1 hx).1
              unfold law14_FoldTree_l26
              simp only [ilenL_lst, nth_zero, nth_one, ibin_lss, List.length_map, Int.ofNat_lt, hi, at_Rw hx, decide_true, icond_true, Option.bind_some, imgetK_K, iun_not, icond_bool, ibin_succ (show i < 2 ^ 62 by omega)]
              cases K.contains x.ch <;> simp
            · unfold law14_FoldTree_l26
              simp
          simp only [sel_zero, nth_zero, nth_one, tm, hM, ilenL_lst, List.length_map, imlen_K, hle, ibin_neq, ne_eq, not_true_eq_false, decide_false, icond_false, Option.bind_some, fa, s1, hit, iun_not, Bool.not_true, law14_live_eq, scal_bool, scal_nil, Option.map_some]
      · simp [h1, h2, h3]
    · simp [h1, h2]
  · simp [h1]
end Go.AM

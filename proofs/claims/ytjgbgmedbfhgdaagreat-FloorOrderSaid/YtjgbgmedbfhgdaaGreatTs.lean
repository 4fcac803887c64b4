/- The laws of undo, second part: what was done goes back. -/
import Derived.Test.YtjgbgmedbfhgdaaGreatTr
import Derived.Test.YtjgbgmedbfhgdaaGreatAe
set_option linter.unusedVariables false
set_option linter.unusedSimpArgs false
namespace Go.AM

theorem any_not {α : Type} (p : α → Bool) : ∀ l : List α, (l.any fun x => !p x) = !l.all p
  | [] => rfl
  | x :: l => by simp only [List.any_cons, List.all_cons, any_not p l, Bool.not_and]
def oneR (r : Rw) : Bool := rowB r.ch r.par r.nm
def risR (a b : Rw) : Bool := decide (a.ch < b.ch)
def mayR (l : List Rw) : Bool := decide (l.length ≤ 2000) && (l.all oneR && adjB risR l && !l.any fun r => aboveV l r.ch r.ch)
theorem ref12_May_eq {l : List Rw} (hl : l.length < 2 ^ 16) : ref12_May_s (eRws l) = some [.bool (mayR l)] := by
  unfold ref12_May_s mayR
  simp only [ilenL_lst, Option.bind_some, ibin_gtr, List.length_map, icond_dec]
  by_cases h : l.length ≤ 2000
  · rw [if_neg (by omega)]
    rw [iter_check (vs0 := [.int .i64 0]) (fun i => [IV.int .i64 (i : Int)]) (fun i x => !oneR x || (decide (0 < i) && !risR (l.getD (i - 1) x) x)) 1 [.bool false] 0 [] l rfl (by have := rounds_eq; omega), anyI_or, adj_anyI, anyI_any]
    · rw [iter_check (vs0 := [.int .i64 0]) (fun i => [IV.int .i64 (i : Int)]) (fun _ (r : Rw) => aboveV l r.ch r.ch) 1 [.bool false] 0 [] l rfl (by have := rounds_eq; omega), anyI_any]
      · have e := any_not oneR l
        rw [e]
        cases h1 : l.all oneR <;> cases h2 : adjB risR l <;> cases h3 : (l.any fun r => aboveV l r.ch r.ch) <;> simp [h]
      · intro i x hx
        have hi : i < l.length := (List.getElem?_eq_some_iff.1 hx).1
        unfold ref12_May_l9
        simp only [ilenL_lst, nth_zero, ibin_lss, List.length_map, Int.ofNat_lt, at_Rw hx, decide_true, icond_true, Option.bind_some, ref12_Above_eq hl, icond_bool, ibin_succ (show i < 2 ^ 62 by omega)]
        cases aboveV l x.ch x.ch <;> simp
      · unfold ref12_May_l9
        simp
    · intro i x hx
      have hi : i < l.length := (List.getElem?_eq_some_iff.1 hx).1
      unfold ref12_May_l4
      simp only [ilenL_lst, nth_zero, nth_one, nth_two, nth_three, nth_four, nth_five, ibin_lss, ibin_gtr, List.length_map, Int.ofNat_lt, at_Rw hx, decide_true, icond_true, Option.bind_some, icond_dec, ibin_succ (show i < 2 ^ 62 by omega), ref12_One_eq, iun_not, icond_bool]
      by_cases h1 : oneR x = true
      · have h1' : rowB x.ch x.par x.nm = true := h1
        by_cases h5 : 0 < i
        · have hp : l[i - 1]? = some (l.getD (i - 1) x) := by
            rw [List.getD_eq_getElem?_getD, List.getElem?_eq_getElem (by omega)]; rfl
          simp only [h1, h1', Bool.not_true, Bool.false_eq_true, if_false, show (0 : Int) < (i : Int) by omega, h5, if_true, ibin_pred (show i < 2 ^ 62 by omega) h5, Option.bind_some, at_Rw hp, at_Rw hx, nth_zero, nth_one, ibin_geq, icond_dec, decide_true, Bool.true_and, Bool.false_or, risR]
          generalize l.getD (i - 1) x = y
          by_cases h6 : y.ch < x.ch
          · have : ¬ x.ch ≤ y.ch := by omega
            simp [h6, this]
          · have : x.ch ≤ y.ch := by omega
            simp [h6, this]
        · simp [h1, h1', h5, show ¬ ((0 : Int) < (i : Int)) by omega]
      · have h1' : rowB x.ch x.par x.nm = false := by simpa [oneR] using h1
        simp [h1, h1']
    · unfold ref12_May_l4
      simp
  · rw [if_pos (by omega)]
    simp [h]

/-! ### What was done goes back -/
theorem findIdx_set {l : List Rw} {i : Nat} {r : Rw} {c : Int} (h : l.findIdx? (isC c) = some i) (hr : r.ch = c) : (l.set i r).findIdx? (isC c) = some i := by
  obtain ⟨hi, hp, hn⟩ := List.findIdx?_eq_some_iff_getElem.1 h
  refine List.findIdx?_eq_some_iff_getElem.2 ⟨by simpa using hi, ?_, fun j hj => ?_⟩
  · simp [isC, hr]
  · have := hn j hj
    rw [List.getElem_set_ne (by omega)]
    exact this
theorem findIdx_ins {l : List Rw} {i : Nat} {r : Rw} {c : Int} (h : l.findIdx? (isC c) = none) (hi : i ≤ l.length) (hr : r.ch = c) : (l.take i ++ [r] ++ l.drop i).findIdx? (isC c) = some i := by
  rw [List.findIdx?_eq_none_iff] at h
  have hlen : (l.take i ++ [r] ++ l.drop i).length = l.length + 1 := by simp; omega
  refine List.findIdx?_eq_some_iff_getElem.2 ⟨by omega, ?_, fun j hj => ?_⟩
  · have : (l.take i ++ [r] ++ l.drop i)[i]? = some r := by
      rw [List.append_assoc, List.getElem?_append_right (by simp; omega)]
      simp [Nat.min_eq_left hi]
    rw [List.getElem?_eq_getElem (by omega)] at this
    rw [Option.some.inj this]
    simp [isC, hr]
  · have h2 : (l.take i ++ [r] ++ l.drop i)[j]? = l[j]? := by
      rw [List.append_assoc, List.getElem?_append_left (by simp; omega), List.getElem?_take_of_lt hj]
    have h3 : j < l.length := by omega
    rw [List.getElem?_eq_getElem (by omega), List.getElem?_eq_getElem h3] at h2
    rw [Option.some.inj h2]
    simp [h _ (List.getElem_mem h3)]
theorem undo_do (l : List Rw) (m : Mv) : undoV (doV l m) (stepV l m) = l := by
  unfold doV stepV
  by_cases hb : barV l m = true
  · simp [hb, undoV]
  · simp only [hb, if_false, Bool.false_eq_true]
    rw [findR_ix]
    cases h : l.findIdx? (isC m.ch) with
    | some i =>
      obtain ⟨x, hx, hp⟩ := findIdx_get h
      have hxc : x.ch = m.ch := by simpa [isC] using hp
      simp only [hx, undoV, if_true]
      have h0 : setR l (rowOf m) = l.set i (rowOf m) := by unfold setR; rw [show (rowOf m).ch = m.ch from rfl, h]
      rw [h0]
      unfold setR
      rw [hxc, findIdx_set h rfl]
      simp only
      have hi := (List.getElem?_eq_some_iff.1 hx)
      obtain ⟨hlt, rfl⟩ := hi
      simp
    | none =>
      simp only [undoV, if_true, Bool.false_eq_true, if_false]
      have h0 : setR l (rowOf m) = l.take (atR l m.ch) ++ [rowOf m] ++ l.drop (atR l m.ch) := by unfold setR; rw [show (rowOf m).ch = m.ch from rfl, h]
      rw [h0]
      unfold dropR
      rw [findIdx_ins h (atR_le l m.ch) rfl]
      simp only
      have ha := atR_le l m.ch
      have e1 : (l.take (atR l m.ch) ++ [rowOf m] ++ l.drop (atR l m.ch)).take (atR l m.ch) = l.take (atR l m.ch) := by
        rw [List.append_assoc, List.take_append_of_le_length (by simp; omega), List.take_take, Nat.min_self]
      have e2 : (l.take (atR l m.ch) ++ [rowOf m] ++ l.drop (atR l m.ch)).drop (atR l m.ch + 1) = l.drop (atR l m.ch) := by
        rw [List.drop_append_of_le_length (by simp; omega)]
        rw [List.drop_eq_nil_of_le (by simp; omega)]
        simp
      rw [e1, e2, List.take_append_drop]
theorem back_run : ∀ (ms : List Mv) (l : List Rw), backV (allV l ms) (stepsV l ms) = l
  | [], l => rfl
  | m :: ms, l => by
    show undoV (backV (allV (doV l m) ms) (stepsV (doV l m) ms)) (stepV l m) = l
    rw [back_run ms, undo_do]
theorem stepsV_drop (l : List Rw) (ms : List Mv) (i : Nat) : (stepsV l ms).drop i = stepsV (allV l (ms.take i)) (ms.drop i) := by
  by_cases hi : i ≤ ms.length
  · have h := stepsV_append (ms.take i) (ms.drop i) l
    rw [List.take_append_drop] at h
    rw [h, List.drop_append_of_le_length (by rw [stepsV_length]; simp; omega), List.drop_eq_nil_of_le (by rw [stepsV_length]; simp; omega)]
    rfl
  · rw [List.drop_eq_nil_of_le (by rw [stepsV_length]; omega), List.drop_eq_nil_of_le (by omega : ms.length ≤ i)]
    rfl
theorem back_from (l : List Rw) (ms : List Mv) (i : Nat) : backV (allV l ms) ((stepsV l ms).drop i) = allV l (ms.take i) := by
  rw [stepsV_drop]
  have h : allV l ms = allV (allV l (ms.take i)) (ms.drop i) := by rw [← allV_append, List.take_append_drop]
  rw [h, back_run]
theorem islcL_loS {l : List Stp} {i : Nat} (hi : i ≤ l.length) : islcL 12 (eStps l) (some (.int .i64 (i : Int))) none = some (eStps (l.drop i)) := by
  have h : (l.map eStp).all (fun e => e.length == 12) = true := by simp [eStp]
  simp only [islcL, h, if_true, ibnds, bnd, List.length_map, Option.bind_some]
  rw [if_pos ⟨by omega, by omega⟩]
  simp [List.map_drop]
  rw [List.take_of_length_le (by simp)]

theorem keyR_zero : keyR zeroRw = keyR zeroRw := rfl
end Go.AM
/- Rows as a graph: who is above whom, by steps; what a row that is set changes. No program is named here. -/
set_option linter.unusedVariables false
set_option linter.unusedSimpArgs false
namespace Go.AM

theorem upR_key {l : List Rw} {x : Int} (h : (upR l x).isSome = true) : x ∈ l.map (·.ch) := by
  rw [upR_find] at h
  cases hf : findR l x with
  | none => rw [hf] at h; cases h
  | some r =>
    have h1 := List.mem_of_find?_eq_some hf
    have h2 := List.find?_some hf
    have : r.ch = x := by simpa [isC] using h2
    exact List.mem_map.2 ⟨r, h1, this⟩
/-- Above, in some steps. -/
def Abv (l : List Rw) (a b : Int) : Prop := ∃ k, nodeAt (upR l) (k + 1) b = some a
theorem aboveV_iff (l : List Rw) (a b : Int) : aboveV l a b = true ↔ Abv l a b := by
  unfold aboveV
  rw [contains_iff, mem_upto]
  constructor
  · rintro ⟨k, _, h⟩; exact ⟨k, h⟩
  · rintro ⟨k, h⟩
    obtain ⟨j, h1, h2⟩ := nodeAt_short (K := l.map (·.ch)) (fun x hx => upR_key hx) k h
    exact ⟨j, by simpa using h1, h2⟩
theorem aboveV_false (l : List Rw) (a b : Int) : aboveV l a b = false ↔ ¬ Abv l a b := by
  rw [← aboveV_iff]; simp
theorem aboveV_eq {l t : List Rw} {a b c d : Int} (h : Abv l a b ↔ Abv t c d) : aboveV l a b = aboveV t c d := by
  rw [Bool.eq_iff_iff, aboveV_iff, aboveV_iff]; exact h

theorem findR_none {l : List Rw} {c : Int} (h : findR l c = none) : ∀ r ∈ l, r.ch ≠ c := fun r hr e => by
  have := List.find?_eq_none.1 h r hr
  simp [isC, e] at this
theorem find_append {l k : List Rw} {c : Int} : findR (l ++ k) c = (findR l c).or (findR k c) := List.find?_append
/-- What is found behind a row that was set. -/
theorem findR_set (l : List Rw) (r : Rw) (c : Int) : findR (setR l r) c = if c = r.ch then some r else findR l c := by
  unfold setR
  cases h : l.findIdx? (isC r.ch) with
  | some i =>
    obtain ⟨hi, hp, hn⟩ := List.findIdx?_eq_some_iff_getElem.1 h
    simp only
    have hl : l = l.take i ++ l[i] :: l.drop (i + 1) := by rw [← List.drop_eq_getElem_cons hi, List.take_append_drop]
    have hs : l.set i r = l.take i ++ r :: l.drop (i + 1) := by rw [List.set_eq_take_append_cons_drop]; simp [hi]
    have hpre : ∀ x ∈ l.take i, x.ch ≠ r.ch := by
      intro x hx
      obtain ⟨j, hj, rfl⟩ := List.mem_iff_getElem.1 hx
      simp only [List.length_take] at hj
      have := hn j (by omega)
      simpa [isC] using this
    have hli : l[i].ch = r.ch := by simpa [isC] using hp
    by_cases hc : c = r.ch
    · subst hc
      rw [if_pos rfl, hs, find_append]
      have : findR (l.take i) r.ch = none := List.find?_eq_none.2 fun x hx => by simp [isC, hpre x hx]
      rw [this]
      simp [findR, isC]
    · rw [if_neg hc, hs]
      conv => rhs; rw [hl]
      rw [find_append, find_append]
      congr 1
      have e1 : isC c r = false := by simp [isC]; exact fun e => hc e.symm
      have e2 : isC c l[i] = false := by simp [isC, hli]; exact fun e => hc e.symm
      show List.find? (isC c) (r :: _) = List.find? (isC c) (l[i] :: _)
      rw [List.find?_cons, List.find?_cons, e1, e2]
  | none =>
    simp only
    have hno : ∀ x ∈ l, x.ch ≠ r.ch := by
      rw [List.findIdx?_eq_none_iff] at h
      intro x hx
      simpa [isC] using h x hx
    rw [find_append, find_append]
    have hsplit : findR l c = (findR (l.take (atR l r.ch)) c).or (findR (l.drop (atR l r.ch)) c) := by
      rw [← find_append, List.take_append_drop]
    by_cases hc : c = r.ch
    · subst hc
      have : findR (l.take (atR l r.ch)) r.ch = none := List.find?_eq_none.2 fun x hx => by simp [isC, hno x (List.mem_of_mem_take hx)]
      rw [this]
      simp [findR, isC]
    · have e1 : isC c r = false := by simp [isC]; exact fun e => hc e.symm
      rw [if_neg hc, hsplit]
      simp [findR, List.find?_cons, e1]
theorem upR_set (l : List Rw) (r : Rw) (c : Int) : upR (setR l r) c = if c = r.ch then some r.par else upR l c := by
  rw [upR_find, upR_find, findR_set]
  split <;> rfl

theorem nodeAt_zero (f : Int → Option Int) (b : Int) : nodeAt f 0 b = some b := rfl
theorem nodeAt_one (f : Int → Option Int) (b : Int) : nodeAt f 1 b = f b := by
  have := nodeAt_add (f := f) 0 (k := 1) (b := b)
  simp only [nodeAt]
  cases f b <;> rfl
theorem nodeAt_succ (f : Int → Option Int) (k : Nat) (b : Int) : nodeAt f (k + 1) b = (f b).bind (nodeAt f k) := by
  rw [Nat.add_comm, nodeAt_add, nodeAt_one]
theorem nodeAt_snoc (f : Int → Option Int) (k : Nat) (b : Int) : nodeAt f (k + 1) b = (nodeAt f k b).bind f := by
  rw [nodeAt_add]
  congr 1
  funext x
  exact nodeAt_one f x
/-- A way that does not come to a node is the same where only that node's row is another. -/
theorem nodeAt_same {f g : Int → Option Int} {c : Int} (h : ∀ x, x ≠ c → f x = g x) {b : Int} : ∀ k, (∀ j, j < k → nodeAt f j b ≠ some c) → nodeAt f k b = nodeAt g k b
  | 0, _ => rfl
  | k + 1, hk => by
    rw [nodeAt_snoc, nodeAt_snoc, nodeAt_same h k fun j hj => hk j (by omega)]
    cases hg : nodeAt g k b with
    | none => rfl
    | some x =>
      have : nodeAt f k b = some x := by rw [nodeAt_same h k fun j hj => hk j (by omega)]; exact hg
      have hx : x ≠ c := fun e => hk k (by omega) (by rw [this, e])
      exact h x hx
/-- Who is above a node below which there is none that was set. -/
theorem abv_set {l : List Rw} {r : Rw} {a b : Int} (h1 : b ≠ r.ch) (h2 : ¬ Abv l r.ch b) : Abv (setR l r) a b ↔ Abv l a b := by
  have key : ∀ k, nodeAt (upR l) k b = nodeAt (upR (setR l r)) k b := fun k => by
    refine nodeAt_same (c := r.ch) (fun x hx => by rw [upR_set, if_neg hx]) k fun j hj => ?_
    cases j with
    | zero => rw [nodeAt_zero]; exact fun e => h1 (Option.some.inj e)
    | succ j => exact fun e => h2 ⟨j, e⟩
  constructor
  · rintro ⟨k, h⟩; exact ⟨k, by rw [key]; exact h⟩
  · rintro ⟨k, h⟩; exact ⟨k, by rw [← key]; exact h⟩
theorem abv_trans {l : List Rw} {a b c : Int} (h1 : Abv l a b) (h2 : Abv l b c) : Abv l a c := by
  obtain ⟨i, hi⟩ := h1
  obtain ⟨j, hj⟩ := h2
  refine ⟨j + 1 + i, ?_⟩
  rw [show j + 1 + i + 1 = (j + 1) + (i + 1) by omega, nodeAt_add, hj]
  exact hi
end Go.AM

/- Moves that are done, plainly: all of them, all nodes; FoldDoes, FoldAll, FoldParts, FoldOthers. -/
set_option linter.unusedVariables false
set_option linter.unusedSimpArgs false
namespace Go.AM

/-! ### Lists of whole numbers -/
theorem iapp_Ints {l k : List Int} (hl : l.length < 2 ^ 20) (hk : k.length < 2 ^ 20) : iapp 1 8 (eInts l) (eInts k) = some (eInts (l ++ k)) := by
  simp only [iapp]
  rw [if_pos]
  · simp
  · refine ⟨by simp; omega, by simp [eInt]⟩
theorem islcL_hiI {l : List Int} {i : Nat} (hi : i ≤ l.length) : islcL 1 (eInts l) none (some (.int .i64 (i : Int))) = some (eInts (l.take i)) := by
  have h : (l.map eInt).all (fun e => e.length == 1) = true := by simp [eInt]
  simp only [islcL, h, if_true, ibnds, bnd, List.length_map]
  rw [if_pos ⟨by omega, by omega⟩]
  simp
theorem islcL_loI {l : List Int} {i : Nat} (hi : i ≤ l.length) : islcL 1 (eInts l) (some (.int .i64 (i : Int))) none = some (eInts (l.drop i)) := by
  have h : (l.map eInt).all (fun e => e.length == 1) = true := by simp [eInt]
  simp only [islcL, h, if_true, ibnds, bnd, List.length_map, Option.bind_some]
  rw [if_pos ⟨by omega, by omega⟩]
  simp [List.map_drop]
  rw [List.take_of_length_le (by simp)]
theorem intsI_eq (l : List Int) : intsI l = eInts l := rfl
def put2 (l : List Int) (a b : Int) : List Int := putI (putI l a) b
theorem putI_length (l : List Int) (n : Int) : (putI l n).length ≤ l.length + 1 := by
  unfold putI
  split
  · omega
  · have : atI l n ≤ l.length := by
      unfold atI
      cases h : l.findIdx? (fun x => !decide (x < n)) with
      | none => simp
      | some i => have := (List.findIdx?_eq_some_iff_getElem.1 h).1; simp; omega
    simp; omega
/-- The document's nodes. -/
def nodesL (l : List Rw) (ms : List Mv) : List Int := ms.foldl (fun k m => put2 k m.ch m.par) (l.foldl (fun k r => put2 k r.ch r.par) [0])
theorem put2_spec {l : List Int} (h : Rises l) (a b : Int) : Rises (put2 l a b) ∧ ∀ x, x ∈ put2 l a b ↔ x ∈ l ∨ x = a ∨ x = b := by
  obtain ⟨h1, h2⟩ := putI_spec h a
  obtain ⟨h3, h4⟩ := putI_spec h1 b
  exact ⟨h3, fun x => by unfold put2; rw [h4, h2, or_assoc]⟩
theorem puts2_spec {α : Type} (f g : α → Int) : ∀ (l : List α) {k : List Int}, Rises k → Rises (l.foldl (fun k r => put2 k (f r) (g r)) k) ∧ ∀ x, x ∈ l.foldl (fun k r => put2 k (f r) (g r)) k ↔ x ∈ k ∨ ∃ r ∈ l, x = f r ∨ x = g r
  | [], k, h => ⟨h, fun x => by simp⟩
  | r :: l, k, h => by
    obtain ⟨h1, h2⟩ := put2_spec h (f r) (g r)
    obtain ⟨h3, h4⟩ := puts2_spec f g l h1
    refine ⟨h3, fun x => ?_⟩
    rw [List.foldl_cons, h4, h2]
    simp only [List.mem_cons, exists_eq_or_imp, or_assoc]
theorem addPs_mem {α : Type} (f : α → Int × Int) : ∀ (l : List α) (K : List Int) (x : Int), x ∈ l.foldl (fun K a => addP K (f a)) K ↔ x ∈ K ∨ ∃ a ∈ l, x = (f a).1 ∨ x = (f a).2
  | [], K, x => by simp
  | a :: l, K, x => by
    have hk : ∀ (K : List Int) (k x : Int), x ∈ addK K k ↔ x ∈ K ∨ x = k := by
      intro K k x
      unfold addK
      split
      · rename_i h
        have : k ∈ K := by simpa using h
        constructor
        · exact .inl
        · rintro (h | rfl) <;> assumption
      · simp
    rw [List.foldl_cons, addPs_mem f l, addP, hk, hk]
    simp only [List.mem_cons, exists_eq_or_imp, or_assoc]
def toMA (m : Mv) : MvAt := ⟨m.c, m.r, m.par, m.ch, m.nm, m.rk⟩
theorem mapM_mvI : ∀ {ms : List Mv}, (∀ m ∈ ms, OKm m) → (ms.map eMv).mapM mvI = some (ms.map toMA)
  | [], _ => rfl
  | m :: ms, h => by
    have hm := h m List.mem_cons_self
    have h1 : mvI (eMv m) = some (toMA m) := by
      have w1 := in64_wf hm.ch
      have w2 := in64_wf hm.par
      simp [eMv, mvI, w1, w2, toMA]
    have h2 := mapM_mvI (ms := ms) fun x hx => h x (List.mem_cons_of_mem _ hx)
    rw [List.map_cons, List.mapM_cons, h1, h2]
    rfl
theorem ref14_All_eq {l : List Rw} {ms : List Mv} (hl : l.length + ms.length < 2 ^ 16) : ref14_All_s (eRws l) (eMvs ms) = some [eRws (allV l ms)] := by
  unfold ref14_All_s
  rw [iter_fold (vs0 := [eRws l, .int .i64 0]) (fun i (s : List Rw) => [eRws s, .int .i64 (i : Int)]) doV 0 (fun s => [eRws s]) (fun i s => s.length ≤ l.length + i) ms l rfl (by have := rounds_eq; omega) (by omega)]
  · simp [allV]
  · intro i s x hx hI
    have hi : i < ms.length := (List.getElem?_eq_some_iff.1 hx).1
    refine ⟨by have := doV_length s x; omega, ?_⟩
    unfold ref14_All_l3
    have hd := ref14_Do_eq (l := s) (by omega) x
    simp only [ilenL_lst, nth_zero, nth_one, nth_two, nth_three, nth_four, nth_five, ibin_lss, List.length_map, Int.ofNat_lt, hi, at_Mv hx, decide_true, icond_true, Option.bind_some, hd, ibin_succ (show i < 2 ^ 62 by omega)]
  · intro s _
    unfold ref14_All_l3
    simp

end Go.AM

/- tree.May, plainly; a move that is done leaves a tree a tree. -/
set_option linter.unusedVariables false
set_option linter.unusedSimpArgs false
namespace Go.AM

theorem mapM_oneB {O : List (List IV) → Option (List IV)} (h : ∀ r : Rw, O [eRw r] = some [.bool (oneR r)]) : ∀ l : List Rw, (l.map eRw).mapM (oneB O) = some (l.map oneR)
  | [] => rfl
  | r :: l => by
    have h1 : oneB O (eRw r) = some (oneR r) := by
      unfold oneB
      rw [h r]
    rw [List.map_cons, List.mapM_cons, h1, mapM_oneB h l]
    rfl
theorem risesQ_R (l : List Rw) : risesQ (fun i => (l.map oneR).getD i false) (l.map prR) 0 = (l.all oneR && adjB risR l) := by
  rw [Bool.eq_iff_iff, risesQ_iff, Bool.and_eq_true, adjB_iff]
  constructor
  · intro h
    refine ⟨List.all_eq_true.2 fun r hr => ?_, fun i x y hx hy => ?_⟩
    · obtain ⟨i, hi, rfl⟩ := List.mem_iff_getElem.1 hr
      have := (h i (by simpa using hi)).1
      simpa [List.getD_eq_getElem?_getD, hi] using this
    · have hi := (List.getElem?_eq_some_iff.1 hy).1
      have := (h (i + 1) (by simpa using hi)).2 (prR x) (prR y) (by omega) (by simp [hx]) (by simp [hy])
      simpa [risR, prR] using this
  · rintro ⟨h1, h2⟩ j hj
    have hj' : j < l.length := by simpa using hj
    refine ⟨?_, fun p q h0 hp hq => ?_⟩
    · have := List.all_eq_true.1 h1 l[j] (List.getElem_mem hj')
      simpa [List.getD_eq_getElem?_getD, hj'] using this
    · rw [List.getElem?_map] at hp hq
      cases hx : l[j - 1]? with
      | none => rw [hx] at hp; cases hp
      | some x =>
        cases hy : l[j]? with
        | none => rw [hy] at hq; cases hq
        | some y =>
          rw [hx] at hp; rw [hy] at hq
          cases hp; cases hq
          have := h2 (j - 1) x y hx (by rw [show j - 1 + 1 = j by omega]; exact hy)
          simpa [risR, prR] using this
theorem tree_May_eq {l : List Rw} (hl : l.length < 2 ^ 16) (ho : OKl l) : tree_May_s (eRws l) = some [.bool (mayR l)] := by
  show mayS _ (eRws l) = _
  unfold mayS
  simp only [List.length_map]
  rw [if_pos (by omega), mapM_rowI ho, mapM_oneB fun r => tree_One_eq r.ch r.par r.nm _]
  simp only [Option.bind_some, Option.map_some]
  congr 3
  unfold mayQ mayR
  rw [risesQ_R, List.length_map]
  congr 2
  rw [Bool.eq_iff_iff, List.all_eq_true, Bool.not_eq_true', List.any_eq_false]
  constructor
  · intro h r hr
    have h1 : r.ch ∈ ksof (l.map prR) := (mem_ksof _ _).2 (by
      unfold lkp
      rw [Option.isSome_map, List.find?_isSome]
      exact ⟨prR r, List.mem_map.2 ⟨r, hr, rfl⟩, by simp [prR]⟩)
    have := h _ h1
    rw [upto_wide] at this
    simpa using this
  · intro h c hc
    rw [upto_wide]
    have h2 := (mem_ksof _ _).1 hc
    unfold lkp at h2
    rw [Option.isSome_map, List.find?_isSome] at h2
    obtain ⟨p, hp, he⟩ := h2
    obtain ⟨r, hr, rfl⟩ := List.mem_map.1 hp
    have e : r.ch = c := by simpa [prR] using he
    have := h r hr
    rw [e] at this
    simpa using this

/-! ### A tree stays a tree -/
theorem least {P : Nat → Prop} : ∀ n, P n → ∃ j, P j ∧ ∀ i, i < j → ¬ P i := by
  intro n
  induction n using Nat.strongRecOn with
  | _ n ih =>
    intro h
    by_cases hh : ∃ i, i < n ∧ P i
    · obtain ⟨i, hi, hp⟩ := hh; exact ih i hi hp
    · exact ⟨n, h, fun i hi hp => hh ⟨i, hi, hp⟩⟩
theorem acyc_set {l : List Rw} {r : Rw} (h : ∀ c, ¬ Abv l c c) (h1 : r.ch ≠ r.par) (h2 : ¬ Abv l r.ch r.par) : ∀ c, ¬ Abv (setR l r) c c := by
  rintro c ⟨k, hk⟩
  have hf : ∀ x, x ≠ r.ch → upR (setR l r) x = upR l x := fun x hx => by rw [upR_set, if_neg hx]
  by_cases hv : ∃ j, j ≤ k ∧ nodeAt (upR (setR l r)) j c = some r.ch
  · obtain ⟨j, hj, hjc⟩ := hv
    have hrot : nodeAt (upR (setR l r)) (k + 1) r.ch = some r.ch := by
      have e1 : nodeAt (upR (setR l r)) (j + (k + 1)) c = nodeAt (upR (setR l r)) (k + 1) r.ch := by rw [nodeAt_add, hjc]; rfl
      have e2 : nodeAt (upR (setR l r)) (j + (k + 1)) c = some r.ch := by rw [Nat.add_comm, nodeAt_add, hk]; exact hjc
      rw [← e1, e2]
    rw [nodeAt_succ, upR_set, if_pos rfl] at hrot
    obtain ⟨i, hi, hmin⟩ := least (P := fun i => nodeAt (upR (setR l r)) i r.par = some r.ch) k hrot
    rw [nodeAt_same (c := r.ch) hf i hmin] at hi
    cases i with
    | zero => rw [nodeAt_zero] at hi; exact h1 (Option.some.inj hi).symm
    | succ i => exact h2 ⟨i, hi⟩
  · rw [nodeAt_same (c := r.ch) hf (k + 1) fun j hj hh => hv ⟨j, by omega, hh⟩] at hk
    exact h c ⟨k, hk⟩
theorem mem_setR {l : List Rw} {r x : Rw} (h : x ∈ setR l r) : x ∈ l ∨ x = r := by
  unfold setR at h
  split at h
  · exact List.mem_or_eq_of_mem_set h
  · simp only [List.mem_append, List.mem_singleton] at h
    rcases h with (h | h) | h
    · exact .inl (List.mem_of_mem_take h)
    · exact .inr h
    · exact .inl (List.mem_of_mem_drop h)
theorem rises_adj : ∀ {l : List Rw}, adjB risR l = true ↔ Rises (l.map (·.ch))
  | [] => by simp [adjB, Rises]
  | [x] => by simp [adjB, Rises]
  | x :: y :: l => by
    have ih := rises_adj (l := y :: l)
    simp only [adjB, Bool.and_eq_true]
    rw [ih]
    simp only [List.map_cons, Rises, List.pairwise_cons, risR, decide_eq_true_eq]
    constructor
    · rintro ⟨h1, h2, h3⟩
      refine ⟨fun a ha => ?_, h2, h3⟩
      rcases List.mem_cons.1 ha with rfl | ha
      · exact h1
      · exact Int.lt_trans h1 (h2 a ha)
    · rintro ⟨h1, h2, h3⟩
      exact ⟨h1 _ List.mem_cons_self, h2, h3⟩
theorem findIdx_same {α : Type} {p q : α → Bool} : ∀ {l : List α}, (∀ x ∈ l, p x = q x) → l.findIdx? p = l.findIdx? q
  | [], _ => rfl
  | x :: l, h => by
    rw [List.findIdx?_cons, List.findIdx?_cons, h x List.mem_cons_self, findIdx_same fun y hy => h y (List.mem_cons_of_mem _ hy)]
theorem setR_keys {l : List Rw} (h : Rises (l.map (·.ch))) (r : Rw) : (setR l r).map (·.ch) = putI (l.map (·.ch)) r.ch := by
  have hp := putI_spec h r.ch
  unfold setR
  cases hi : l.findIdx? (isC r.ch) with
  | some i =>
    obtain ⟨hlt, hc, _⟩ := List.findIdx?_eq_some_iff_getElem.1 hi
    have hch : l[i].ch = r.ch := by simpa [isC] using hc
    simp only
    have e : (l.set i r).map (·.ch) = l.map (·.ch) := by
      rw [List.map_set]
      apply List.ext_getElem?
      intro j
      rw [List.getElem?_set]
      split
      · rename_i hj; subst hj; simp [hlt, hch]
      · rfl
    rw [e]
    refine rises_ext h hp.1 fun x => ?_
    rw [hp.2]
    constructor
    · exact .inl
    · rintro (h | rfl)
      · exact h
      · exact List.mem_map.2 ⟨l[i], List.getElem_mem hlt, hch⟩
  | none =>
    have hno : ∀ x ∈ l, x.ch ≠ r.ch := by
      rw [List.findIdx?_eq_none_iff] at hi
      intro x hx; simpa [isC] using hi x hx
    have ek : atI (l.map (·.ch)) r.ch = atR l r.ch := by
      unfold atI atR
      rw [List.findIdx?_map, List.length_map]
      congr 1
      refine findIdx_same fun x hx => ?_
      have := hno x hx
      simp only [Function.comp]
      rw [Bool.eq_iff_iff]
      simp
      omega
    unfold putI
    rw [ek, if_neg]
    · simp [List.map_take, List.map_drop]
    · intro hh
      have := List.mem_of_getElem? hh
      obtain ⟨x, hx, he⟩ := List.mem_map.1 this
      exact hno x hx he
theorem mayR_parts {l : List Rw} (h : mayR l = true) : l.length ≤ 2000 ∧ (∀ r ∈ l, oneR r = true) ∧ Rises (l.map (·.ch)) ∧ ∀ c, ¬ Abv l c c := by
  unfold mayR at h
  simp only [Bool.and_eq_true, decide_eq_true_eq, List.all_eq_true, Bool.not_eq_true', List.any_eq_false] at h
  obtain ⟨h1, ⟨h2, h3⟩, h4⟩ := h
  refine ⟨h1, h2, rises_adj.1 h3, fun c hc => ?_⟩
  have hk : c ∈ l.map (·.ch) := by
    obtain ⟨k, hk⟩ := hc
    apply upR_key
    rw [nodeAt_succ] at hk
    cases hu : upR l c with
    | none => rw [hu] at hk; cases hk
    | some y => rfl
  obtain ⟨r, hr, rfl⟩ := List.mem_map.1 hk
  exact h4 r hr ((aboveV_iff _ _ _).2 hc)
theorem mayR_of {l : List Rw} (h1 : l.length ≤ 2000) (h2 : ∀ r ∈ l, oneR r = true) (h3 : Rises (l.map (·.ch))) (h4 : ∀ c, ¬ Abv l c c) : mayR l = true := by
  unfold mayR
  simp only [Bool.and_eq_true, decide_eq_true_eq, List.all_eq_true, Bool.not_eq_true', List.any_eq_false]
  exact ⟨h1, ⟨h2, rises_adj.2 h3⟩, fun r hr => by rw [aboveV_iff]; exact h4 _⟩
theorem mayR_do {l : List Rw} {m : Mv} (h : mayR l = true) (hm : oneV m = true) (hb : barV l m = false) (hl : l.length + 1 ≤ 2000) : mayR (doV l m) = true := by
  obtain ⟨h1, h2, h3, h4⟩ := mayR_parts h
  unfold barV at hb
  simp only [Bool.or_eq_false_iff, decide_eq_false_iff_not] at hb
  have hlen := doV_length l m
  have hd : doV l m = setR l (rowOf m) := by
    unfold doV
    rw [if_neg]
    unfold barV
    simp [hb]
  refine mayR_of (by omega) (fun r hr => ?_) ?_ ?_
  · rw [hd] at hr
    rcases mem_setR hr with hr | rfl
    · exact h2 r hr
    · unfold oneV at hm
      simp only [Bool.and_eq_true] at hm
      exact hm.2
  · rw [hd, setR_keys h3]
    exact (putI_spec h3 _).1
  · rw [hd]
    exact acyc_set h4 (fun e => hb.1.2 e) ((aboveV_false _ _ _).1 hb.2)
theorem keys_do {l : List Rw} {m : Mv} (h : mayR l = true) (hb : barV l m = false) (c : Int) : c ∈ (doV l m).map (·.ch) ↔ c ∈ l.map (·.ch) ∨ c = m.ch := by
  obtain ⟨h1, h2, h3, h4⟩ := mayR_parts h
  have hd : doV l m = setR l (rowOf m) := by unfold doV; rw [if_neg (by simp [hb])]
  rw [hd, setR_keys h3]
  exact (putI_spec h3 _).2 c
end Go.AM

/- FoldParts, FoldOthers, plainly. -/
set_option linter.unusedVariables false
set_option linter.unusedSimpArgs false
namespace Go.AM

theorem two_inv {cs : List IV} (h : Typed [.int .i64, .int .i64] cs) : ∃ v w : Int, cs = [.int .i64 v, .int .i64 w] ∧ in64 v ∧ in64 w := by
  obtain ⟨hl, hs⟩ := h
  match cs, hl with
  | [c0, c1], _ =>
    obtain ⟨a, rfl, ha⟩ := i64_inv (hs 0 _ c0 rfl rfl)
    obtain ⟨b, rfl, hb⟩ := i64_inv (hs 1 _ c1 rfl rfl)
    exact ⟨a, b, rfl, ha, hb⟩
theorem three_inv {cs : List IV} (h : Typed [.int .i64, .int .i64, .int .i64] cs) : ∃ v w u : Int, cs = [.int .i64 v, .int .i64 w, .int .i64 u] ∧ in64 v ∧ in64 w ∧ in64 u := by
  obtain ⟨hl, hs⟩ := h
  match cs, hl with
  | [c0, c1, c2], _ =>
    obtain ⟨a, rfl, ha⟩ := i64_inv (hs 0 _ c0 rfl rfl)
    obtain ⟨b, rfl, hb⟩ := i64_inv (hs 1 _ c1 rfl rfl)
    obtain ⟨c, rfl, hc⟩ := i64_inv (hs 2 _ c2 rfl rfl)
    exact ⟨a, b, c, rfl, ha, hb, hc⟩
theorem int64_inv {cs : List IV} (h : Typed [.int .i64] cs) : ∃ v : Int, cs = [.int .i64 v] ∧ in64 v := by
  obtain ⟨hl, hs⟩ := h
  match cs, hl with
  | [c0], _ =>
    obtain ⟨a, rfl, ha⟩ := i64_inv (hs 0 _ c0 rfl rfl)
    exact ⟨a, rfl, ha⟩

/-- Those that are not barred. -/
def goodV : List Rw → List Mv → List Mv
  | _, [] => []
  | l, m :: ms => if barV l m = true then goodV l ms else m :: goodV (doV l m) ms
theorem doV_bar {l : List Rw} {m : Mv} (h : barV l m = true) : doV l m = l := by unfold doV; rw [if_pos h]
theorem allV_good : ∀ (ms : List Mv) (l : List Rw), allV l (goodV l ms) = allV l ms
  | [], l => rfl
  | m :: ms, l => by
    unfold goodV
    split
    · rename_i h
      rw [allV_good ms l]
      show _ = allV (doV l m) ms
      rw [doV_bar h]
    · show allV (doV l m) (goodV (doV l m) ms) = allV (doV l m) ms
      exact allV_good ms _
theorem goodV_sub : ∀ (ms : List Mv) (l : List Rw), ∀ m ∈ goodV l ms, m ∈ ms
  | [], l, m, h => h
  | x :: ms, l, m, h => by
    unfold goodV at h
    split at h
    · exact List.mem_cons_of_mem _ (goodV_sub ms l m h)
    · rcases List.mem_cons.1 h with rfl | h
      · exact List.mem_cons_self
      · exact List.mem_cons_of_mem _ (goodV_sub ms _ m h)
theorem goodV_length : ∀ (ms : List Mv) (l : List Rw), (goodV l ms).length ≤ ms.length
  | [], l => Nat.le_refl _
  | x :: ms, l => by
    unfold goodV
    split
    · have := goodV_length ms l; simp; omega
    · have := goodV_length ms (doV l x); simp; omega
def goodStep (s : List Mv × List Rw) (m : Mv) : List Mv × List Rw := (if barV s.2 m = true then s.1 else s.1 ++ [m], doV s.2 m)
theorem goodStep_eq : ∀ (ms : List Mv) (l : List Rw) (g : List Mv), ms.foldl goodStep (g, l) = (g ++ goodV l ms, allV l ms)
  | [], l, g => by simp [goodV, allV]
  | m :: ms, l, g => by
    rw [List.foldl_cons]
    unfold goodStep goodV
    simp only
    split
    · rename_i h
      rw [show (fun s m => (if barV s.2 m = true then s.1 else s.1 ++ [m], doV s.2 m)) = goodStep from rfl, goodStep_eq ms, doV_bar h]
      show _ = (_, allV (doV l m) ms)
      rw [doV_bar h]
    · rw [show (fun s m => (if barV s.2 m = true then s.1 else s.1 ++ [m], doV s.2 m)) = goodStep from rfl, goodStep_eq ms]
      simp [allV]

theorem foundI_none : foundI none = [.int .i64 0, .int .i64 0, .str ⟨#[]⟩, .flt .f64 0, .bool false] := rfl
end Go.AM

/- FoldTree, plainly. -/
set_option linter.unusedVariables false
set_option linter.unusedSimpArgs false
namespace Go.AM

/-- A set of whole numbers, as a map to bools. -/
def eK (K : List Int) : IV := .map (K.map fun k => [.int .i64 k, .bool true])
theorem mem_addKP (K : List Int) (k x : Int) : x ∈ addK K k ↔ x ∈ K ∨ x = k := by
  unfold addK
  split
  · rename_i h
    have : k ∈ K := by simpa using h
    constructor
    · exact .inl
    · rintro (h | rfl) <;> assumption
  · simp
theorem addK_nodupP {K : List Int} (h : K.Nodup) (k : Int) : (addK K k).Nodup := by
  unfold addK
  split
  · exact h
  · rename_i hk
    have : k ∉ K := by simpa using hk
    rw [List.nodup_append]
    exact ⟨h, by simp, by intro a ha c hc; simp at hc; subst hc; exact fun e => this (e ▸ ha)⟩
theorem ifind_K (k : Int) : ∀ (K : List Int) (i : Nat), ∃ r, ifind (.int .i64 k) (K.map fun k => [IV.int .i64 k, .bool true]) i = some r ∧ ((r = none ∧ k ∉ K) ∨ ∃ j, r = some (i + j, .bool true) ∧ K[j]? = some k)
  | [], i => ⟨none, rfl, .inl ⟨rfl, by simp⟩⟩
  | x :: K, i => by
    by_cases h : k = x
    · subst h
      exact ⟨some (i, .bool true), by simp [ifind, isame], .inr ⟨0, rfl, rfl⟩⟩
    · obtain ⟨r, h1, h2⟩ := ifind_K k K (i + 1)
      refine ⟨r, ?_, ?_⟩
      · simp only [List.map_cons, ifind, isame, if_true]
        rw [show (k == x) = false by simpa using h]
        exact h1
      · rcases h2 with ⟨h2, h3⟩ | ⟨j, h2, h3⟩
        · exact .inl ⟨h2, by simp [h, h3]⟩
        · exact .inr ⟨j + 1, by rw [h2]; congr 2; omega, by simpa using h3⟩
theorem imputK_K (K : List Int) (k : Int) : imputK (.int .i64) (eK K) (.int .i64 k) (.bool true) = some (eK (addK K k)) := by
  obtain ⟨r, h1, h2⟩ := ifind_K k K 0
  unfold imputK
  rw [if_pos (by simp [ikey])]
  unfold imput eK
  simp only
  rw [h1]
  rcases h2 with ⟨rfl, h3⟩ | ⟨j, rfl, h3⟩
  · simp [addK, h3]
  · have hm : k ∈ K := List.mem_of_getElem? h3
    simp only [Option.bind_some, addK, List.contains_iff_mem, hm, if_true]
    congr 2
    apply List.ext_getElem?
    intro i
    rw [List.getElem?_set]
    split
    · rename_i e
      have hj : j < K.length := (List.getElem?_eq_some_iff.1 h3).1
      have : 0 + j = j := by omega
      rw [this] at e
      subst e
      simp [hj, h3]
      have := (List.getElem?_eq_some_iff.1 h3).2
      rw [this]
    · rfl
theorem imgetK_K (K : List Int) (k : Int) : imgetK (.int .i64) (eK K) (.int .i64 k) (.bool false) = some [.bool (K.contains k), .bool (K.contains k)] := by
  obtain ⟨r, h1, h2⟩ := ifind_K k K 0
  unfold imgetK
  rw [if_pos (by simp [ikey])]
  unfold imget eK
  simp only
  rw [h1]
  rcases h2 with ⟨rfl, h3⟩ | ⟨j, rfl, h3⟩
  · simp [h3]
  · have hm : k ∈ K := List.mem_of_getElem? h3
    simp [hm]
theorem imlen_K (K : List Int) : imlen (eK K) = some (.int .i64 K.length) := by
  unfold imlen eK; simp
theorem perm_length {K L : List Int} (h1 : K.Nodup) (h2 : L.Nodup) (h : ∀ c, c ∈ K ↔ c ∈ L) : K.length = L.length :=
  ((List.perm_ext_iff_of_nodup h1 h2).2 h).length_eq

/-- A loop that goes on or leaves at once. -/
theorem iter_or {f : List IV → Option SR} {n : Nat} (I : Nat → List IV → Prop) (E : Nat × List IV → Prop)
    (hstep : ∀ i vs, i < n → I i vs → (∃ vs', f vs = some (.next vs') ∧ I (i + 1) vs') ∨ ∃ e o, f vs = some (.done e o) ∧ E (e, o))
    (hend : ∀ vs, I n vs → ∃ e o, f vs = some (.done e o) ∧ E (e, o)) : ∀ (d i : Nat) (m : Nat) (vs : List IV), i + d = n → d < m → I i vs → ∃ p, iter m f vs = some p ∧ E p := by
  intro d
  induction d with
  | zero =>
    intro i m vs hi hm h
    obtain ⟨m, rfl⟩ : ∃ m', m = m' + 1 := ⟨m - 1, by omega⟩
    obtain rfl : i = n := by omega
    obtain ⟨e, o, h1, h2⟩ := hend vs h
    exact ⟨(e, o), iter_done m h1, h2⟩
  | succ d ih =>
    intro i m vs hi hm h
    obtain ⟨m, rfl⟩ : ∃ m', m = m' + 1 := ⟨m - 1, by omega⟩
    rcases hstep i vs (by omega) h with ⟨vs', h1, h2⟩ | ⟨e, o, h1, h2⟩
    · obtain ⟨p, h3, h4⟩ := ih (i + 1) m vs' (by omega) (by omega) h2
      refine ⟨p, ?_, h4⟩
      rw [iter, h1]
      exact h3
    · exact ⟨(e, o), iter_done m h1, h2⟩
theorem allV_snoc (l : List Rw) (ms : List Mv) (m : Mv) : allV l (ms ++ [m]) = doV (allV l ms) m := by
  rw [allV_append]; rfl
theorem take_snocM {α : Type} {l : List α} {k : Nat} {x : α} (h : l[k]? = some x) : l.take (k + 1) = l.take k ++ [x] := by
  rw [List.take_add_one, h]; rfl

end Go.AM

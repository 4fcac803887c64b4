/- Marks, plainly. -/
import Derived.Test.YtjgbgmedbfhgdaaGreatSh
import Derived.Test.YtjgbgmedbfhgdaaGreatAe
import Derived.Test.YtjgbgmedbfhgdaaGreatAd
set_option linter.unusedVariables false
set_option linter.unusedSimpArgs false
namespace Go.AM

theorem rounds_eq : rounds = 1000000 := rfl
structure Mark where
  r : Int
  c : Int
  deriving DecidableEq
def eMark (m : Mark) : List IV := [.int .i64 m.r, .int .i64 m.c]
abbrev eMarks (l : List Mark) : IV := .lst (l.map eMark)
theorem at_Mark {l : List Mark} {i : Nat} {x : Mark} (h : l[i]? = some x) : i < l.length ∧ iidx (eMarks l) (.int .i64 (i : Int)) 2 = some i ∧ ildN (eMarks l) i 0 2 = some [.int .i64 x.r, .int .i64 x.c] ∧ ild (eMarks l) i 0 = some (.int .i64 x.r) ∧ ild (eMarks l) i 1 = some (.int .i64 x.c) ∧ ibidx l.length (.int .i64 (i : Int)) = some i :=
  ⟨(List.getElem?_eq_some_iff.1 h).1, iidx_map h rfl (by decide), ildN_map h rfl, ild_map h, ild_map h, ibidx_lt (List.getElem?_eq_some_iff.1 h).1⟩
theorem iset_Mark {l : List Mark} {i : Nat} {x : Mark} (h : l[i]? = some x) (c : Int) : iset (eMarks l) i 1 [.int .i64 c] = some (eMarks (l.set i ⟨x.r, c⟩)) := by
  simp only [iset, List.getElem?_map, h, Option.map_some, Option.bind_some, eMark, List.length_cons, List.length_nil]
  rw [if_pos (by decide)]
  simp only [eMarks, List.map_set]
  rfl

def eInt (x : Int) : List IV := [.int .i64 x]
abbrev eInts (l : List Int) : IV := .lst (l.map eInt)
theorem at_Int {l : List Int} {i : Nat} {x : Int} (h : l[i]? = some x) : i < l.length ∧ iidx (eInts l) (.int .i64 (i : Int)) 1 = some i ∧ ildN (eInts l) i 0 1 = some [.int .i64 x] ∧ ild (eInts l) i 0 = some (.int .i64 x) ∧ ibidx l.length (.int .i64 (i : Int)) = some i :=
  ⟨(List.getElem?_eq_some_iff.1 h).1, iidx_map h rfl (by decide), ildN_map h rfl, ild_map h, ibidx_lt (List.getElem?_eq_some_iff.1 h).1⟩
/-- The index of the first, or one below 0. -/
def ixI {α : Type} (p : α → Bool) (l : List α) : Int := match l.findIdx? p with | some i => (i : Int) | none => -1
theorem ixI_none {α : Type} {p : α → Bool} {l : List α} (h : l.findIdx? p = none) : ixI p l = -1 := by simp [ixI, h]
theorem ixI_some {α : Type} {p : α → Bool} {l : List α} {i : Nat} (h : l.findIdx? p = some i) : ixI p l = (i : Int) := by simp [ixI, h]
theorem ixI_ge {α : Type} {p : α → Bool} {l : List α} : (0 ≤ ixI p l) ↔ l.any p = true := by
  unfold ixI
  cases h : l.findIdx? p with
  | none =>
    simp only [List.findIdx?_eq_none_iff] at h
    constructor
    · intro h0; simp at h0
    · intro h0
      obtain ⟨x, hx, hp⟩ := List.any_eq_true.1 h0
      rw [h x hx] at hp; cases hp
  | some i =>
    simp only [Int.natCast_nonneg, true_iff]
    obtain ⟨hi, hp, _⟩ := List.findIdx?_eq_some_iff_getElem.1 h
    exact List.any_eq_true.2 ⟨l[i], List.getElem_mem hi, hp⟩
theorem findIdx_get {α : Type} {p : α → Bool} {l : List α} {i : Nat} (h : l.findIdx? p = some i) : ∃ x, l[i]? = some x ∧ p x = true := by
  obtain ⟨hi, hp, _⟩ := List.findIdx?_eq_some_iff_getElem.1 h
  exact ⟨l[i], List.getElem?_eq_getElem hi, hp⟩

theorem indexFunc_Mark {C : IV → List Nat → List (List IV) → Option (List IV)} {fv : IV} {p : Mark → Bool} {l : List Mark} (hl : l.length < 2 ^ 16) (hC : ∀ x ∈ l, C fv [1] [eMark x] = some [.bool (p x)]) :
    slices_IndexFunc_Mark_s C (eMarks l) fv = some [.int .i64 (ixI p l)] := by
  unfold slices_IndexFunc_Mark_s
  simp only [ilenL_lst, Option.bind_some]
  rw [iter_search (vs0 := [IV.int .i64 0]) (fun i => [IV.int .i64 (i : Int)]) p 1 (fun i => [IV.int .i64 (i : Int)]) 0 [] l rfl (by have := rounds_eq; omega)]
  · unfold ixI
    cases l.findIdx? p <;> simp
  · intro i x hx
    have hi : i < l.length := (List.getElem?_eq_some_iff.1 hx).1
    have hc := hC x (List.mem_of_getElem? hx)
    unfold slices_IndexFunc_Mark_l2
    unfold eMark at hc
    simp [at_Mark hx, hc, icond_bool, ibin_succ (show i < 2 ^ 62 by omega)]
    split <;> rfl
  · unfold slices_IndexFunc_Mark_l2
    simp

/-! ### What they are -/
def getM : List Mark → Int → Int
  | [], _ => 0
  | x :: l, r => if x.r = r then x.c else getM l r
def isR (r : Int) (x : Mark) : Bool := decide (x.r = r)
def hasM (v : List Mark) (r : Int) : Bool := v.any (isR r)
def setM : List Mark → Int → Int → List Mark
  | [], _, _ => []
  | x :: l, c, r => if x.r = r then ⟨x.r, max x.c c⟩ :: l else x :: setM l c r
def insM : List Mark → Int → Int → List Mark
  | [], c, r => [⟨r, c⟩]
  | x :: l, c, r => if r < x.r then ⟨r, c⟩ :: x :: l else x :: insM l c r
def raiseM (v : List Mark) (c r : Int) : List Mark := if hasM v r = true then setM v c r else if c ≤ 0 then v else insM v c r
def joinM (a b : List Mark) : List Mark := b.foldl (fun v x => raiseM v x.c x.r) a
def belowM (a b : List Mark) : Bool := !a.any fun x => decide (getM b x.r < getM a x.r)
def mayM (v : List Mark) : Bool := !anyI (fun i x => decide (x.r < 1) || decide (255 < x.r) || decide (x.c < 1) || decide (4611686018427387903 < x.c) || (decide (0 < i) && decide (x.r ≤ (v.getD (i - 1) x).r))) v 0

theorem getM_ix {r : Int} : ∀ (l : List Mark), getM l r = match l.findIdx? (isR r) with | some i => (l.getD i ⟨0, 0⟩).c | none => 0
  | [] => rfl
  | x :: l => by
    simp only [getM, List.findIdx?_cons, isR, decide_eq_true_eq]
    by_cases h : x.r = r
    · simp [h]
    · simp only [h, if_false]
      rw [getM_ix l]
      cases l.findIdx? (isR r) <;> simp
theorem setM_ix {c r : Int} : ∀ (l : List Mark) (i : Nat) (x : Mark), l.findIdx? (isR r) = some i → l[i]? = some x → setM l c r = l.set i ⟨x.r, max x.c c⟩
  | [], i, x, h, _ => by simp at h
  | y :: l, i, x, h, hx => by
    simp only [List.findIdx?_cons, isR, decide_eq_true_eq] at h
    by_cases hy : y.r = r
    · simp only [hy, if_true, Option.some.injEq] at h
      subst h
      cases hx
      simp [setM, hy]
    · simp only [hy, if_false] at h
      obtain ⟨j, hj, rfl⟩ := Option.map_eq_some_iff.1 h
      simp only [setM, hy, if_false, List.set_cons_succ]
      rw [setM_ix l j x hj (by simpa using hx)]
theorem insM_ix {c r : Int} : ∀ (l : List Mark), insM l c r = l.take ((l.findIdx? fun x => decide (r < x.r)).getD l.length) ++ [⟨r, c⟩] ++ l.drop ((l.findIdx? fun x => decide (r < x.r)).getD l.length)
  | [] => rfl
  | x :: l => by
    simp only [insM, List.findIdx?_cons, decide_eq_true_eq]
    by_cases h : r < x.r
    · simp [h]
    · simp only [h, if_false]
      rw [insM_ix l]
      cases l.findIdx? (fun x => decide (r < x.r)) <;> simp

/-! ### The program's -/
theorem marks_place_eq {l : List Mark} (hl : l.length < 2 ^ 16) (r : Int) : marks_place_s (eMarks l) (.int .i64 r) = some [.int .i64 (ixI (isR r) l), .bool (decide (0 ≤ ixI (isR r) l))] := by
  unfold marks_place_s
  rw [indexFunc_Mark hl (p := isR r)]
  · simp
  · intro x _
    show marks_place_1_s (.int .i64 x.r) (.int .i64 x.c) (.ptr [.int .i64 r] 0) = _
    unfold marks_place_1_s
    simp [ipld, isR]
theorem marks_Get_eq {l : List Mark} (hl : l.length < 2 ^ 16) (r : Int) : marks_Get_s (eMarks l) (.int .i64 r) = some [.int .i64 (getM l r)] := by
  unfold marks_Get_s
  rw [marks_place_eq hl, getM_ix]
  cases h : l.findIdx? (isR r) with
  | none => simp [ixI_none h]
  | some i =>
    obtain ⟨x, hx, _⟩ := findIdx_get h
    have hxx : l.getD i ⟨0, 0⟩ = x := by rw [List.getD_eq_getElem?_getD, hx]; rfl
    simp only [hxx]
    simp [ixI_some h, at_Mark hx, icond_dec]
theorem marks_greatest_eq {l : List Int} (hl : l.length < 2 ^ 16) (n : Int) : marks_greatest_s (.int .i64 n) (eInts l) = some [.int .i64 (l.foldl max n)] := by
  unfold marks_greatest_s
  simp only [ilenL_lst, Option.bind_some]
  rw [iter_fold (vs0 := [IV.int .i64 n, .int .i64 0]) (fun i (n : Int) => [IV.int .i64 n, .int .i64 (i : Int)]) (fun n x => max n x) 0 (fun n => [.int .i64 n]) (fun _ _ => True) l n rfl (by have := rounds_eq; omega) trivial]
  · simp
  · intro i s x hx _
    have hi : i < l.length := (List.getElem?_eq_some_iff.1 hx).1
    refine ⟨trivial, ?_⟩
    unfold marks_greatest_l2
    simp [at_Int hx, ibin_succ (show i < 2 ^ 62 by omega)]
  · intro s _
    unfold marks_greatest_l2
    simp
theorem insert_Mark {l : List Mark} (hl : l.length < 2 ^ 16) {i : Nat} (hi : i ≤ l.length) (m : Mark) : slices_Insert_Mark_s (eMarks l) (.int .i64 (i : Int)) (.lst [[.int .i64 m.r, .int .i64 m.c]]) = some [eMarks (l.take i ++ [m] ++ l.drop i)] := by
  unfold slices_Insert_Mark_s
  simp only [insertS]
  rw [if_pos]
  · simp [eMark]
  · refine ⟨by omega, by simp; omega, by simp; omega, rfl⟩
theorem clone_Mark {l : List Mark} (hl : l.length < 2 ^ 16) : slices_Clone_Mark_s (eMarks l) = some [eMarks l] := by
  unfold slices_Clone_Mark_s
  simp only [cloneS]
  rw [if_pos]
  refine ⟨by simp; omega, by simp [eMark]⟩
theorem marks_Raise_eq {l : List Mark} (hl : l.length < 2 ^ 16) (c r : Int) : marks_Raise_s (eMarks l) (.int .i64 c) (.int .i64 r) = some [eMarks (raiseM l c r)] := by
  unfold marks_Raise_s raiseM hasM
  rw [clone_Mark hl]
  simp only [Option.bind_some]
  rw [marks_place_eq hl]
  simp only [Option.bind_some, nth_one, nth_zero, icond_dec, ixI_ge]
  by_cases h : l.any (isR r) = true
  · simp only [h, if_true]
    obtain ⟨i, hi⟩ : ∃ i, l.findIdx? (isR r) = some i := by
      cases hh : l.findIdx? (isR r) with
      | some i => exact ⟨i, rfl⟩
      | none => have := ixI_ge.2 h; rw [ixI_none hh] at this; omega
    obtain ⟨x, hx, _⟩ := findIdx_get hi
    rw [ixI_some hi, setM_ix l i x hi hx]
    have hg := marks_greatest_eq (l := [c]) (by simp) x.c
    simp only [eInts, eInt, List.map_cons, List.map_nil, List.foldl_cons, List.foldl_nil] at hg
    simp [at_Mark hx, hg, iset_Mark hx]
  · simp only [h, if_false, Bool.false_eq_true]
    simp only [ibin_leq, Option.bind_some, icond_dec]
    split
    · rfl
    · rw [indexFunc_Mark hl (p := fun x => decide (r < x.r))]
      · rw [insM_ix]
        cases hh : l.findIdx? (fun x => decide (r < x.r)) with
        | none =>
          have := insert_Mark hl (Nat.le_refl _) ⟨r, c⟩
          simp only at this
          simp [ixI_none hh, this]
        | some i =>
          obtain ⟨hi, _⟩ := List.findIdx?_eq_some_iff_getElem.1 hh
          have := insert_Mark hl (Nat.le_of_lt hi) ⟨r, c⟩
          simp only at this
          simp [ixI_some hh, this, icond_dec, show ¬ ((i : Int) < 0) by omega]
      · intro x _
        show marks_Raise_1_s (.int .i64 x.r) (.int .i64 x.c) (.ptr [.int .i64 c, .int .i64 r] 0) = _
        unfold marks_Raise_1_s
        simp [ipld, ipnn]
end Go.AM
/- Marks, plainly: the other functions, the program's and the references'. -/
set_option linter.unusedVariables false
set_option linter.unusedSimpArgs false
namespace Go.AM

/-! ### Lengths -/
theorem setM_length {c r : Int} : ∀ (l : List Mark), (setM l c r).length = l.length
  | [] => rfl
  | x :: l => by simp only [setM]; split <;> simp [setM_length l]
theorem insM_length {c r : Int} : ∀ (l : List Mark), (insM l c r).length = l.length + 1
  | [] => rfl
  | x :: l => by simp only [insM]; split <;> simp [insM_length l]
theorem raiseM_length {c r : Int} (l : List Mark) : (raiseM l c r).length ≤ l.length + 1 := by
  unfold raiseM
  split
  · rw [setM_length]; omega
  · split
    · omega
    · rw [insM_length]; omega
theorem joinM_length : ∀ (b a : List Mark), (joinM a b).length ≤ a.length + b.length
  | [], a => by simp [joinM]
  | x :: b, a => by
    have h1 := joinM_length b (raiseM a x.c x.r)
    have h2 := raiseM_length (c := x.c) (r := x.r) a
    simp only [joinM, List.foldl_cons, List.length_cons] at h1 ⊢
    omega

/-! ### Moves -/
structure Mv where
  c : Int
  r : Int
  par : Int
  ch : Int
  nm : ByteArray
  rk : Nat
  deriving DecidableEq
def eMv (m : Mv) : List IV := [.int .i64 m.c, .int .i64 m.r, .int .i64 m.par, .int .i64 m.ch, .str m.nm, .flt .f64 m.rk]
abbrev eMvs (l : List Mv) : IV := .lst (l.map eMv)
theorem ildN_pre {α : Type} {enc : α → List IV} {l : List α} {i n : Nat} {x : α} (h : l[i]? = some x) (hs : n ≤ (enc x).length) : ildN (.lst (l.map enc)) i 0 n = some ((enc x).take n) := by
  simp only [ildN, List.getElem?_map, h, Option.map_some, Option.bind_some, Nat.zero_add, List.drop_zero]
  rw [if_pos (by omega)]
theorem at_Mv {l : List Mv} {i : Nat} {x : Mv} (h : l[i]? = some x) : i < l.length ∧ iidx (eMvs l) (.int .i64 (i : Int)) 6 = some i ∧ ildN (eMvs l) i 0 6 = some [.int .i64 x.c, .int .i64 x.r, .int .i64 x.par, .int .i64 x.ch, .str x.nm, .flt .f64 x.rk] ∧ ildN (eMvs l) i 0 2 = some [.int .i64 x.c, .int .i64 x.r] ∧
    ild (eMvs l) i 0 = some (.int .i64 x.c) ∧ ild (eMvs l) i 1 = some (.int .i64 x.r) ∧ ild (eMvs l) i 2 = some (.int .i64 x.par) ∧ ild (eMvs l) i 3 = some (.int .i64 x.ch) ∧ ild (eMvs l) i 4 = some (.str x.nm) ∧ ild (eMvs l) i 5 = some (.flt .f64 x.rk) ∧ ibidx l.length (.int .i64 (i : Int)) = some i :=
  ⟨(List.getElem?_eq_some_iff.1 h).1, iidx_map h rfl (by decide), ildN_map h rfl, ildN_pre h (by simp [eMv]), ild_map h, ild_map h, ild_map h, ild_map h, ild_map h, ild_map h, ibidx_lt (List.getElem?_eq_some_iff.1 h).1⟩
def ofM (l : List Mv) : List Mark := l.foldl (fun v m => raiseM v m.c m.r) []
theorem foldM_length : ∀ (l : List Mv) (a : List Mark), (l.foldl (fun v m => raiseM v m.c m.r) a).length ≤ a.length + l.length
  | [], a => by simp
  | x :: b, a => by
    have h1 := foldM_length b (raiseM a x.c x.r)
    have h2 := raiseM_length (c := x.c) (r := x.r) a
    simp only [List.foldl_cons, List.length_cons] at h1 ⊢
    omega

/-! ### The program's -/
theorem marks_Join_eq {a b : List Mark} (ha : a.length < 2 ^ 15) (hb : b.length < 2 ^ 15) : marks_Join_s (eMarks a) (eMarks b) = some [eMarks (joinM a b)] := by
  unfold marks_Join_s joinM
  simp only [ilenL_lst, Option.bind_some]
  rw [iter_fold (vs0 := [eMarks a, .int .i64 0]) (fun i (v : List Mark) => [eMarks v, .int .i64 (i : Int)]) (fun v x => raiseM v x.c x.r) 0 (fun v => [eMarks v]) (fun i v => v.length ≤ a.length + i) b a rfl (by have := rounds_eq; omega) (by simp)]
  · simp
  · intro i s x hx hI
    have hi : i < b.length := (List.getElem?_eq_some_iff.1 hx).1
    have := raiseM_length (c := x.c) (r := x.r) s
    refine ⟨by omega, ?_⟩
    unfold marks_Join_l2
    simp [at_Mark hx, marks_Raise_eq (show s.length < 2 ^ 16 by omega), ibin_succ (show i < 2 ^ 62 by omega)]
  · intro s _
    unfold marks_Join_l2
    simp
theorem marks_Of_eq {l : List Mv} (hl : l.length < 2 ^ 15) : marks_Of_s (eMvs l) = some [eMarks (ofM l)] := by
  unfold marks_Of_s ofM
  simp only [ilenL_lst, Option.bind_some]
  rw [iter_fold (vs0 := [.lst [], .int .i64 0]) (fun i (v : List Mark) => [eMarks v, .int .i64 (i : Int)]) (fun v x => raiseM v x.c x.r) 0 (fun v => [eMarks v]) (fun i v => v.length ≤ i) l [] rfl (by have := rounds_eq; omega) (by simp)]
  · simp
  · intro i s x hx hI
    have hi : i < l.length := (List.getElem?_eq_some_iff.1 hx).1
    have := raiseM_length (c := x.c) (r := x.r) s
    refine ⟨by omega, ?_⟩
    unfold marks_Of_l3
    simp [at_Mv hx, marks_Raise_eq (show s.length < 2 ^ 16 by omega), ibin_succ (show i < 2 ^ 62 by omega)]
  · intro s _
    unfold marks_Of_l3
    simp
theorem marks_Below_eq {a b : List Mark} (ha : a.length < 2 ^ 16) (hb : b.length < 2 ^ 16) : marks_Below_s (eMarks a) (eMarks b) = some [.bool (belowM a b)] := by
  unfold marks_Below_s slices_ContainsFunc_Mark_s
  rw [indexFunc_Mark ha (p := fun x => decide (getM b x.r < getM a x.r))]
  · simp only [Option.bind_some, nth_zero, ibin_geq, ixI_ge, scal_bool, scal_nil, Option.map_some, iun_not]
    congr 3
    unfold belowM
    simp only [Bool.decide_eq_true]
  · intro x _
    show marks_Below_1_s (.int .i64 x.r) (.int .i64 x.c) (.ptr [eMarks a] 0) (.ptr [eMarks b] 0) = _
    unfold marks_Below_1_s
    simp [ipld, marks_Get_eq ha, marks_Get_eq hb]
theorem marks_May_eq {v : List Mark} (hv : v.length < 2 ^ 16) : marks_May_s (eMarks v) = some [.bool (mayM v)] := by
  unfold marks_May_s mayM
  simp only [ilenL_lst, Option.bind_some]
  rw [iter_check (vs0 := [.int .i64 0]) (fun i => [IV.int .i64 (i : Int)]) (fun i x => decide (x.r < 1) || decide (255 < x.r) || decide (x.c < 1) || decide (4611686018427387903 < x.c) || (decide (0 < i) && decide (x.r ≤ (v.getD (i - 1) x).r))) 1 [.bool false] 0 [] v rfl (by have := rounds_eq; omega)]
  · split <;> simp_all
  · intro i x hx
    have hi : i < v.length := (List.getElem?_eq_some_iff.1 hx).1
    unfold marks_May_l2
    simp only [nth_zero, nth_one, ibin_lss, ibin_gtr, List.length_map, Int.ofNat_lt, at_Mark hx, decide_true, icond_true, Option.bind_some, icond_dec, ibin_succ (show i < 2 ^ 62 by omega)]
    by_cases h1 : x.r < 1
    · simp [h1]
    by_cases h2 : 255 < x.r
    · simp [h1, h2]
    by_cases h3 : x.c < 1
    · simp [h1, h2, h3]
    by_cases h4 : 4611686018427387903 < x.c
    · simp [h1, h2, h3, h4]
    by_cases h5 : 0 < i
    · have hp : v[i - 1]? = some (v.getD (i - 1) x) := by
        rw [List.getD_eq_getElem?_getD, List.getElem?_eq_getElem (by omega)]; rfl
      simp only [h1, h2, h3, h4, if_false, show (0 : Int) < (i : Int) by omega, h5, if_true, ibin_pred (show i < 2 ^ 62 by omega) h5, Option.bind_some, at_Mark hp, ibin_geq, nth_zero, icond_dec, decide_false, Bool.false_or, decide_true, Bool.true_and, decide_eq_true_eq]
      split <;> rfl
    · simp [h1, h2, h3, h4, h5, show ¬ ((0 : Int) < (i : Int)) by omega]
  · unfold marks_May_l2
    simp
theorem iapp_Int {l : List Int} (hl : l.length < 2 ^ 20) (n : Int) : iapp 1 8 (eInts l) (.lst [[.int .i64 n]]) = some (eInts (l ++ [n])) := by
  simp only [iapp]
  rw [if_pos]
  · simp [eInt]
  · refine ⟨by simp; omega, rfl⟩
def topM (v : List Mark) (n : Int) : Int := v.foldl (fun n x => max n x.c) n
def nextM (v : List Mark) (n r : Int) : List IV := if 4611686018427387903 ≤ topM v (max 0 n) ∨ r < 1 ∨ 255 < r then [.int .i64 0, .int .i64 0, .bool false] else [.int .i64 (topM v (max 0 n) + 1), .int .i64 r, .bool true]
theorem topM_ge (v : List Mark) : ∀ n, n ≤ topM v n := by
  unfold topM
  induction v with
  | nil => intro n; exact Int.le_refl _
  | cons x v ih => intro n; exact Int.le_trans (by omega) (ih (max n x.c))
/-! ### The references' -/
theorem ref17_Same_eq {a b : List Mark} (ha : a.length < 2 ^ 16) : ref17_Same_s (eMarks a) (eMarks b) = some [.bool (decide (a = b))] := by
  unfold ref17_Same_s
  simp only [ilenL_lst, Option.bind_some, ibin_neq, List.length_map, icond_dec]
  by_cases hlen : a.length = b.length
  · rw [if_neg (by omega)]
    rw [iter_check (vs0 := [.int .i64 0]) (fun i => [IV.int .i64 (i : Int)]) (fun i x => decide (b[i]? ≠ some x)) 1 [.bool false] 0 [] a rfl (by have := rounds_eq; omega)]
    · have : (anyI (fun i x => decide (b[i]? ≠ some x)) a 0 = true) ↔ ¬ (a = b) := by
        rw [anyI_true]
        constructor
        · rintro ⟨i, x, h1, h2⟩ rfl
          simp [h1] at h2
        · intro hne
          have : ∃ i, a[i]? ≠ b[i]? := Classical.byContradiction fun h => hne (List.ext_getElem? fun i => Classical.byContradiction fun h' => h ⟨i, h'⟩)
          obtain ⟨i, hi⟩ := this
          by_cases hia : i < a.length
          · exact ⟨i, a[i], List.getElem?_eq_getElem hia, by
              rw [List.getElem?_eq_getElem hia] at hi
              simpa using fun h => hi h.symm⟩
          · rw [List.getElem?_eq_none (by omega), List.getElem?_eq_none (by omega)] at hi
            exact absurd rfl hi
      by_cases hab : a = b
      · have h2 := mt this.1 (not_not_intro hab)
        rw [if_neg h2]
        simp [hab]
      · have h2 := this.2 hab
        simp only [h2, if_true, Option.bind_some, sel_one, nth_zero, hab, decide_false, scal_bool, scal_nil, Option.map_some]
    · intro i x hx
      have hi : i < a.length := (List.getElem?_eq_some_iff.1 hx).1
      have hy : b[i]? = some (b[i]'(by omega)) := List.getElem?_eq_getElem (by omega)
      generalize b[i]'(by omega) = y at hy
      unfold ref17_Same_l4
      simp only [ilenL_lst, Option.bind_some, nth_zero, nth_one, ibin_lss, List.length_map, Int.ofNat_lt, at_Mark hx, at_Mark hy, decide_true, icond_true, ieqs, ieqL, ieq1, if_true, hy, ibin_succ (show i < 2 ^ 62 by omega), Option.map_some, icond_bool, Bool.and_true]
      by_cases h : x = y
      · subst h; simp
      · have h' : ¬ (x.r = y.r ∧ x.c = y.c) := fun ⟨h1, h2⟩ => h (by cases x; cases y; simp_all)
        have h'' : ¬ (y = x) := fun e => h e.symm
        simp only [ne_eq, Option.some.injEq, h'', not_false_eq_true, decide_true, if_true]
        by_cases h1 : x.r = y.r
        · have h2 : ¬ x.c = y.c := fun h2 => h' ⟨h1, h2⟩
          simp [h1, h2]
        · simp [h1]
    · unfold ref17_Same_l4
      simp
  · rw [if_pos (by omega)]
    have : ¬ a = b := fun h => hlen (by rw [h])
    simp [this]
theorem ref17_Get_eq {v : List Mark} (hv : v.length < 2 ^ 16) (r : Int) : ref17_Get_s (eMarks v) (.int .i64 r) = some [.int .i64 (getM v r)] := by
  unfold ref17_Get_s
  rw [iter_search (vs0 := [.int .i64 0]) (fun i => [IV.int .i64 (i : Int)]) (isR r) 1 (fun i => [IV.int .i64 (v.getD i ⟨0, 0⟩).c]) 0 [] v rfl (by have := rounds_eq; omega), getM_ix]
  · cases v.findIdx? (isR r) <;> simp
  · intro i x hx
    have hi : i < v.length := (List.getElem?_eq_some_iff.1 hx).1
    have hxx : v.getD i ⟨0, 0⟩ = x := by rw [List.getD_eq_getElem?_getD, hx]; rfl
    unfold ref17_Get_l2
    simp only [ilenL_lst, Option.bind_some, nth_zero, ibin_lss, ibin_eql, List.length_map, Int.ofNat_lt, at_Mark hx, decide_true, icond_true, icond_dec, ibin_succ (show i < 2 ^ 62 by omega), hxx, isR, decide_eq_true_eq]
    split <;> rfl
  · unfold ref17_Get_l2
    simp
theorem ref17_Below_eq {a b : List Mark} (ha : a.length < 2 ^ 16) (hb : b.length < 2 ^ 16) : ref17_Below_s (eMarks a) (eMarks b) = some [.bool (belowM a b)] := by
  unfold ref17_Below_s
  rw [iter_check (vs0 := [.int .i64 0]) (fun i => [IV.int .i64 (i : Int)]) (fun _ x => decide (getM b x.r < getM a x.r)) 1 [.bool false] 0 [] a rfl (by have := rounds_eq; omega), anyI_any]
  · unfold belowM
    cases a.any fun x => decide (getM b x.r < getM a x.r) <;> simp
  · intro i x hx
    have hi : i < a.length := (List.getElem?_eq_some_iff.1 hx).1
    unfold ref17_Below_l2
    simp only [ilenL_lst, Option.bind_some, nth_zero, ibin_lss, ibin_gtr, List.length_map, Int.ofNat_lt, at_Mark hx, decide_true, icond_true, icond_dec, ibin_succ (show i < 2 ^ 62 by omega), ref17_Get_eq ha, ref17_Get_eq hb, decide_eq_true_eq]
    split <;> rfl
  · unfold ref17_Below_l2
    simp
theorem ref17_May_eq {v : List Mark} (hv : v.length < 2 ^ 16) : ref17_May_s (eMarks v) = some [.bool (mayM v)] := by
  unfold ref17_May_s mayM
  rw [iter_check (vs0 := [.int .i64 0]) (fun i => [IV.int .i64 (i : Int)]) (fun i x => decide (x.r < 1) || decide (255 < x.r) || decide (x.c < 1) || decide (4611686018427387903 < x.c) || (decide (0 < i) && decide (x.r ≤ (v.getD (i - 1) x).r))) 1 [.bool false] 0 [] v rfl (by have := rounds_eq; omega)]
  · split <;> simp_all
  · intro i x hx
    have hi : i < v.length := (List.getElem?_eq_some_iff.1 hx).1
    unfold ref17_May_l2
    simp only [ilenL_lst, nth_zero, nth_one, ibin_lss, ibin_gtr, List.length_map, Int.ofNat_lt, at_Mark hx, decide_true, icond_true, Option.bind_some, icond_dec, ibin_succ (show i < 2 ^ 62 by omega)]
    by_cases h1 : x.r < 1
    · simp [h1]
    by_cases h2 : 255 < x.r
    · simp [h1, h2]
    by_cases h3 : x.c < 1
    · simp [h1, h2, h3]
    by_cases h4 : 4611686018427387903 < x.c
    · simp [h1, h2, h3, h4]
    by_cases h5 : 0 < i
    · have hp : v[i - 1]? = some (v.getD (i - 1) x) := by
        rw [List.getD_eq_getElem?_getD, List.getElem?_eq_getElem (by omega)]; rfl
      simp only [h1, h2, h3, h4, if_false, show (0 : Int) < (i : Int) by omega, h5, if_true, ibin_pred (show i < 2 ^ 62 by omega) h5, Option.bind_some, at_Mark hp, at_Mark hx, ibin_geq, nth_zero, icond_dec, decide_false, Bool.false_or, decide_true, Bool.true_and, decide_eq_true_eq]
      split <;> rfl
    · simp [h1, h2, h3, h4, h5, show ¬ ((0 : Int) < (i : Int)) by omega]
  · unfold ref17_May_l2
    simp
theorem iapp_Mark {l k : List Mark} (hl : l.length < 2 ^ 20) (hk : k.length < 2 ^ 20) : iapp 2 16 (eMarks l) (eMarks k) = some (eMarks (l ++ k)) := by
  simp only [iapp]
  rw [if_pos]
  · simp
  · refine ⟨by simp; omega, by simp [eMark]⟩
theorem bnd_nat {n i : Nat} {k : IntKind} (h : i ≤ n) : bnd (.int k (i : Int)) n = some i := by
  simp only [bnd]
  rw [if_pos (by omega)]; simp
theorem ibnds_lo {n i : Nat} {k : IntKind} (h : i ≤ n) : ibnds n (some (.int k (i : Int))) none = some (i, n) := by simp [ibnds, bnd_nat h]
theorem ibnds_hi {n i : Nat} {k : IntKind} (h : i ≤ n) : ibnds n none (some (.int k (i : Int))) = some (0, i) := by simp [ibnds, bnd_nat h]
theorem ref17_Raise_eq {l : List Mark} (hl : l.length < 2 ^ 16) (c r : Int) : ref17_Raise_s (eMarks l) (.int .i64 c) (.int .i64 r) = some [eMarks (raiseM l c r)] := by
  unfold ref17_Raise_s
  have h0 : iapp 2 16 (.lst []) (eMarks l) = some (eMarks l) := by
    have := iapp_Mark (l := []) (k := l) (by simp) (by omega)
    rwa [List.nil_append] at this
  rw [h0]
  simp only [Option.bind_some]
  rw [iter_search (vs0 := [eMarks l, .int .i64 0]) (fun i => [eMarks l, IV.int .i64 (i : Int)]) (isR r) 1 (fun i => [eMarks (l.set i ⟨(l.getD i ⟨0, 0⟩).r, max (l.getD i ⟨0, 0⟩).c c⟩)]) 0 [eMarks l] l rfl (by have := rounds_eq; omega)]
  · unfold raiseM hasM
    cases h : l.findIdx? (isR r) with
    | some i =>
      obtain ⟨x, hx, hp⟩ := findIdx_get h
      have hany : l.any (isR r) = true := List.any_eq_true.2 ⟨x, List.mem_of_getElem? hx, hp⟩
      have hxx : l.getD i ⟨0, 0⟩ = x := by rw [List.getD_eq_getElem?_getD, hx]; rfl
      simp only [Option.bind_some, sel_one, nth_zero, hany, if_true, setM_ix l i x h hx, hxx]
    | none =>
      have hall := List.findIdx?_eq_none_iff.1 h
      have hany : ¬ (l.any (isR r) = true) := by
        intro h'
        obtain ⟨x, hx, hp⟩ := List.any_eq_true.1 h'
        rw [hall x hx] at hp; cases hp
      simp only [Option.bind_some, sel_zero, nth_zero, hany, if_false, ibin_leq, icond_dec]
      split
      · rfl
      · rw [iter_search (vs0 := [.int .i64 0]) (fun i => [IV.int .i64 (i : Int)]) (fun x => decide (¬ x.r < r)) 0 (fun i => [IV.int .i64 (i : Int)]) 0 [IV.int .i64 (l.length : Int)] l rfl (by have := rounds_eq; omega)]
        · rw [insM_ix]
          have hpp : l.findIdx? (fun x => decide (¬ x.r < r)) = l.findIdx? fun x => decide (r < x.r) := by
            have : ∀ (l : List Mark), (∀ x ∈ l, isR r x = false) → l.findIdx? (fun x => decide (¬ x.r < r)) = l.findIdx? fun x => decide (r < x.r) := by
              intro l
              induction l with
              | nil => intro _; rfl
              | cons x l ih =>
                intro hh
                have h1 := hh x List.mem_cons_self
                simp only [isR, decide_eq_false_iff_not] at h1
                have h2 : (decide (¬ x.r < r)) = decide (r < x.r) := by
                  congr 1; exact propext ⟨fun h => by omega, fun h => by omega⟩
                simp only [List.findIdx?_cons, h2, ih fun y hy => hh y (List.mem_cons_of_mem _ hy)]
            exact this l hall
          rw [hpp]
          have fin : ∀ i, i ≤ l.length → ((ibnds (llen (eMarks l)) (some (IV.int .i64 (i : Int))) none).bind fun v23 => (iapp 2 16 (.lst []) (lsub (eMarks l) v23.1 v23.2)).bind fun v24 => (ibnds (llen (eMarks l)) none (some (IV.int .i64 (i : Int)))).bind fun v25 =>
              (iapp 2 16 (lsub (eMarks l) v25.1 v25.2) (.lst [[.int .i64 r, .int .i64 c]])).bind fun v26 => (iapp 2 16 v26 v24).bind fun v27 => some [v27]) = some [eMarks (l.take i ++ [⟨r, c⟩] ++ l.drop i)] := by
            intro i hi
            simp only [llen_lst, List.length_map, ibnds_lo hi, ibnds_hi hi, Option.bind_some, lsub_lst']
            have e1 : IV.lst (((l.map eMark).drop i).take (l.length - i)) = eMarks (l.drop i) := by
              rw [List.take_of_length_le (by simp), ← List.map_drop]
            have e2 : IV.lst (((l.map eMark).drop 0).take (i - 0)) = eMarks (l.take i) := by
              rw [List.drop_zero, Nat.sub_zero, ← List.map_take]
            have e3 : IV.lst [[.int .i64 r, .int .i64 c]] = eMarks [⟨r, c⟩] := rfl
            have e4 : IV.lst [] = eMarks [] := rfl
            rw [e1, e2, e3, e4, iapp_Mark (by simp) (by simp; omega)]
            simp only [Option.bind_some, List.nil_append]
            rw [iapp_Mark (by simp; omega) (by simp)]
            simp only [Option.bind_some]
            rw [iapp_Mark (by simp; omega) (by simp; omega)]
            rfl
          cases hh : l.findIdx? (fun x => decide (r < x.r)) with
          | none =>
            simp only [Option.bind_some, sel_zero, nth_zero, Option.getD_none]
            exact fin l.length (Nat.le_refl _)
          | some i =>
            obtain ⟨hi, _⟩ := List.findIdx?_eq_some_iff_getElem.1 hh
            simp only [Option.bind_some, sel_zero, nth_zero, Option.getD_some]
            exact fin i (Nat.le_of_lt hi)
        · intro i x hx
          have hi : i < l.length := (List.getElem?_eq_some_iff.1 hx).1
          unfold ref17_Raise_l11
          simp only [nth_zero, ibin_lss, llen_lst, List.length_map, Int.ofNat_lt, at_Mark hx, decide_true, icond_true, Option.bind_some, icond_dec, ibin_succ (show i < 2 ^ 62 by omega), decide_eq_true_eq]
          by_cases hr : x.r < r <;> simp [hr]
        · unfold ref17_Raise_l11
          simp
  · intro i x hx
    have hi : i < l.length := (List.getElem?_eq_some_iff.1 hx).1
    have hxx : l.getD i ⟨0, 0⟩ = x := by rw [List.getD_eq_getElem?_getD, hx]; rfl
    unfold ref17_Raise_l3
    simp only [nth_zero, nth_one, ibin_lss, ibin_eql, llen_lst, List.length_map, Int.ofNat_lt, at_Mark hx, decide_true, icond_true, Option.bind_some, icond_dec, ibin_succ (show i < 2 ^ 62 by omega), imax_ii, iset_Mark hx, hxx, isR, decide_eq_true_eq]
    split <;> rfl
  · unfold ref17_Raise_l3
    simp
theorem ref17_Of_eq {l : List Mv} (hl : l.length < 2 ^ 15) : ref17_Of_s (eMvs l) = some [eMarks (ofM l)] := by
  unfold ref17_Of_s ofM
  rw [iter_fold (vs0 := [.lst [], .int .i64 0]) (fun i (v : List Mark) => [eMarks v, .int .i64 (i : Int)]) (fun v x => raiseM v x.c x.r) 0 (fun v => [eMarks v]) (fun i v => v.length ≤ i) l [] rfl (by have := rounds_eq; omega) (by simp)]
  · simp
  · intro i s x hx hI
    have hi : i < l.length := (List.getElem?_eq_some_iff.1 hx).1
    have := raiseM_length (c := x.c) (r := x.r) s
    refine ⟨by omega, ?_⟩
    unfold ref17_Of_l3
    simp [at_Mv hx, ref17_Raise_eq (show s.length < 2 ^ 16 by omega), ibin_succ (show i < 2 ^ 62 by omega)]
  · intro s _
    unfold ref17_Of_l3
    simp
def fewV (l : List Mv) (n : Nat) : Bool := decide (l.length ≤ n) && !l.any fun m => decide (100 < m.nm.size)
theorem ref13_Few_eq {l : List Mv} {n : Nat} (hn : n < 2 ^ 16) : ref13_Few_s (eMvs l) (.int .i64 (n : Int)) = some [.bool (fewV l n)] := by
  unfold ref13_Few_s fewV
  simp only [ilenL_lst, Option.bind_some, ibin_gtr, List.length_map, icond_dec, Int.ofNat_lt]
  by_cases h : n < l.length
  · simp [h, Nat.not_le.2 h]
  · rw [if_neg h]
    rw [iter_check (vs0 := [.int .i64 0]) (fun i => [IV.int .i64 (i : Int)]) (fun _ m => decide (100 < m.nm.size)) 1 [.bool false] 0 [] l rfl (by have := rounds_eq; omega), anyI_any]
    · have hle : l.length ≤ n := by omega
      simp only [hle, decide_true, Bool.true_and]
      cases l.any fun m => decide (100 < m.nm.size) <;> simp
    · intro i x hx
      have hi : i < l.length := (List.getElem?_eq_some_iff.1 hx).1
      unfold ref13_Few_l4
      simp only [ilenL_lst, ilenS_str, nth_zero, ibin_lss, ibin_gtr, List.length_map, Int.ofNat_lt, at_Mv hx, decide_true, icond_true, Option.bind_some, icond_dec, ibin_succ (show i < 2 ^ 62 by omega), decide_eq_true_eq]
      have : ((100 : Int) < (x.nm.size : Int)) ↔ 100 < x.nm.size := by omega
      simp only [this]
      split <;> rfl
    · unfold ref13_Few_l4
      simp
end Go.AM

/- Marks: typed values; the laws that hold the program against the references. -/
set_option linter.unusedVariables false
set_option linter.unusedSimpArgs false
namespace Go.AM

theorem Typed.int_inv {k : IntKind} {c : IV} (h : ShOK (.int k) c) : ∃ n, c = .int k n ∧ (Lit.int k n).wf = true := by cases h; exact ⟨_, rfl, by assumption⟩
theorem ShOK.list_inv {α : Type} {enc : α → List IV} {L : List Sh} (hinv : ∀ e, Typed L e → ∃ x, e = enc x) {c : IV} (h : ShOK (.slc L) c) : ∃ l : List α, c = .lst (l.map enc) := by
  cases h with
  | slc _ es hl h1 h2 =>
    have : ∀ e ∈ es, ∃ x, e = enc x := fun e he => by
      obtain ⟨i, hi⟩ := List.getElem?_of_mem he
      exact hinv e ⟨h1 e he, fun j s c hs hc => h2 i j e c s hi hc hs⟩
    have key : ∀ (es : List (List IV)), (∀ e ∈ es, ∃ x, e = enc x) → ∃ l : List α, es = l.map enc := by
      intro es
      induction es with
      | nil => intro _; exact ⟨[], rfl⟩
      | cons e es ih =>
        intro h
        obtain ⟨x, rfl⟩ := h e List.mem_cons_self
        obtain ⟨l, rfl⟩ := ih fun e he => h e (List.mem_cons_of_mem _ he)
        exact ⟨x :: l, rfl⟩
    obtain ⟨l, rfl⟩ := key es this
    exact ⟨l, rfl⟩
theorem Typed.one_inv {s : Sh} {cs : List IV} (h : Typed [s] cs) : ∃ c, cs = [c] ∧ ShOK s c := by
  match cs, h.1 with
  | [c], _ => exact ⟨c, rfl, h.2 0 s c rfl rfl⟩
theorem Typed.cons_inv {s : Sh} {l : List Sh} {cs : List IV} (h : Typed (s :: l) cs) : ∃ c cs', cs = c :: cs' ∧ ShOK s c ∧ Typed l cs' := by
  match cs, h.1 with
  | c :: cs', hl => exact ⟨c, cs', rfl, h.2 0 s c rfl rfl, by simpa using hl, fun j s' c' h1 h2 => h.2 (j + 1) s' c' (by simpa using h1) (by simpa using h2)⟩
theorem Typed.nil_inv {cs : List IV} (h : Typed [] cs) : cs = [] := List.length_eq_zero_iff.1 h.1
abbrev shMark : List Sh := [.int .i64, .int .i64]
abbrev shMv : List Sh := [.int .i64, .int .i64, .int .i64, .int .i64, .str, .flt .f64]
theorem Mark_inv (e : List IV) (h : Typed shMark e) : ∃ x, e = eMark x := by
  obtain ⟨c0, _, rfl, h0, h⟩ := h.cons_inv
  obtain ⟨c1, _, rfl, h1, h⟩ := h.cons_inv
  cases h.nil_inv
  cases h0; cases h1
  exact ⟨⟨_, _⟩, rfl⟩
theorem Mv_inv (e : List IV) (h : Typed shMv e) : ∃ x, e = eMv x := by
  obtain ⟨c0, _, rfl, h0, h⟩ := h.cons_inv
  obtain ⟨c1, _, rfl, h1, h⟩ := h.cons_inv
  obtain ⟨c2, _, rfl, h2, h⟩ := h.cons_inv
  obtain ⟨c3, _, rfl, h3, h⟩ := h.cons_inv
  obtain ⟨c4, _, rfl, h4, h⟩ := h.cons_inv
  obtain ⟨c5, _, rfl, h5, h⟩ := h.cons_inv
  cases h.nil_inv
  cases h0; cases h1; cases h2; cases h3; cases h4; cases h5
  exact ⟨⟨_, _, _, _, _, _⟩, rfl⟩
theorem marks_inv {cs : List IV} (h : Typed [.slc shMark] cs) : ∃ v : List Mark, cs = [eMarks v] := by
  obtain ⟨c, rfl, h1⟩ := h.one_inv
  obtain ⟨l, rfl⟩ := h1.list_inv Mark_inv
  exact ⟨l, rfl⟩
theorem mvs_inv {cs : List IV} (h : Typed [.slc shMv] cs) : ∃ v : List Mv, cs = [eMvs v] := by
  obtain ⟨c, rfl, h1⟩ := h.one_inv
  obtain ⟨l, rfl⟩ := h1.list_inv Mv_inv
  exact ⟨l, rfl⟩
theorem time_inv {cs : List IV} (h : Typed [.int .i64, .int .i64] cs) : ∃ a b, cs = [.int .i64 a, .int .i64 b] := by
  obtain ⟨c0, _, rfl, h0, h⟩ := h.cons_inv
  obtain ⟨c1, _, rfl, h1, h⟩ := h.cons_inv
  cases h.nil_inv
  cases h0; cases h1
  exact ⟨_, _, rfl⟩
theorem int_inv {cs : List IV} (h : Typed [.int .i64] cs) : ∃ a, cs = [.int .i64 a] ∧ -(2 ^ 63) ≤ a ∧ a < 2 ^ 63 := by
  obtain ⟨c0, rfl, h0⟩ := h.one_inv
  cases h0 with
  | int k n h1 =>
    simp only [Lit.wf, Bool.and_eq_true, decide_eq_true_eq] at h1
    have h1 : IntKind.i64.min = -(2 ^ 63) := by rfl
    have h2 : IntKind.i64.max = 2 ^ 63 - 1 := by rfl
    exact ⟨n, rfl, by omega, by omega⟩
theorem TypedAll.cons_inv {l : List Sh} {L : List (List Sh)} {cs : List (List IV)} (h : TypedAll (l :: L) cs) : ∃ c cs', cs = c :: cs' ∧ Typed l c ∧ TypedAll L cs' := by
  cases h with
  | cons h t => exact ⟨_, _, rfl, h, t⟩
theorem TypedAll.nil_inv {cs : List (List IV)} (h : TypedAll [] cs) : cs = [] := by cases h; rfl

theorem nextM_eq (v : List Mark) (n r : Int) : ∃ a b c, nextM v n r = [.int .i64 a, .int .i64 b, .bool c] := by
  unfold nextM; split <;> exact ⟨_, _, _, rfl⟩
end Go.AM

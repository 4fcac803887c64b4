/- Rows, plainly: what the functions of a tree and their references do. -/
import Derived.Test.YtcnafacmpplhbaaMm
import Derived.Test.YtcnafacmpplhbaaAe
import Derived.KernelRfl
set_option linter.unusedVariables false
set_option linter.unusedSimpArgs false
namespace Go.AM

structure Rw where
  ch : Int
  par : Int
  nm : ByteArray
  rk : Nat
  deriving Inhabited
def eRw (r : Rw) : List IV := [.int .i64 r.ch, .int .i64 r.par, .str r.nm, .flt .f64 r.rk]
abbrev eRws (l : List Rw) : IV := .lst (l.map eRw)
theorem at_Rw {l : List Rw} {i : Nat} {x : Rw} (h : l[i]? = some x) : i < l.length ∧ iidx (eRws l) (.int .i64 (i : Int)) 4 = some i ∧ ildN (eRws l) i 0 4 = some [.int .i64 x.ch, .int .i64 x.par, .str x.nm, .flt .f64 x.rk] ∧ ild (eRws l) i 0 = some (.int .i64 x.ch) ∧ ild (eRws l) i 1 = some (.int .i64 x.par) ∧ ild (eRws l) i 2 = some (.str x.nm) ∧ ild (eRws l) i 3 = some (.flt .f64 x.rk) ∧ ibidx l.length (.int .i64 (i : Int)) = some i :=
  ⟨(List.getElem?_eq_some_iff.1 h).1, iidx_map h rfl (by decide), ildN_map h rfl, ild_map h, ild_map h, ild_map h, ild_map h, ibidx_lt (List.getElem?_eq_some_iff.1 h).1⟩
theorem iset_Rw {l : List Rw} {i : Nat} {x : Rw} (h : l[i]? = some x) (r : Rw) : iset (eRws l) i 0 [.int .i64 r.ch, .int .i64 r.par, .str r.nm, .flt .f64 r.rk] = some (eRws (l.set i r)) := by
  simp only [iset, List.getElem?_map, h, Option.map_some, Option.bind_some, eRw, List.length_cons, List.length_nil]
  rw [if_pos (by decide)]
  simp only [eRws, List.map_set]
  rfl
def isC (c : Int) (x : Rw) : Bool := decide (x.ch = c)
def atR (l : List Rw) (c : Int) : Nat := (l.findIdx? fun x => decide (c < x.ch)).getD l.length
def findR (l : List Rw) (c : Int) : Option Rw := l.find? (isC c)
def setR (l : List Rw) (r : Rw) : List Rw := match l.findIdx? (isC r.ch) with | some i => l.set i r | none => l.take (atR l r.ch) ++ [r] ++ l.drop (atR l r.ch)
def dropR (l : List Rw) (c : Int) : List Rw := match l.findIdx? (isC c) with | some i => l.take i ++ l.drop (i + 1) | none => l
theorem atR_le (l : List Rw) (c : Int) : atR l c ≤ l.length := by
  unfold atR
  cases h : l.findIdx? fun x => decide (c < x.ch) with
  | none => simp
  | some i => have := (List.findIdx?_eq_some_iff_getElem.1 h).1; simp; omega
theorem findR_ix (l : List Rw) (c : Int) : findR l c = match l.findIdx? (isC c) with | some i => l[i]? | none => none := by
  unfold findR
  induction l with
  | nil => rfl
  | cons x l ih =>
    simp only [List.find?_cons, List.findIdx?_cons]
    cases h : isC c x with
    | true => simp
    | false =>
      simp only [ih, Bool.false_eq_true, if_false]
      cases l.findIdx? (isC c) <;> simp

/-- Rows that hold whole numbers and floats of their kinds. -/
def in64 (n : Int) : Prop := -(2 ^ 63) ≤ n ∧ n < 2 ^ 63
structure OKr (r : Rw) : Prop where
  rk : r.rk < 2 ^ 64
  ch : in64 r.ch
  par : in64 r.par
def OKl (l : List Rw) : Prop := ∀ r ∈ l, OKr r
theorem in64_wf {n : Int} (h : in64 n) : (Lit.int .i64 n).wf = true := by
  have h1 : IntKind.i64.min = -(2 ^ 63) := by rfl
  have h2 : IntKind.i64.max = 2 ^ 63 - 1 := by rfl
  simp only [Lit.wf, Bool.and_eq_true, decide_eq_true_eq]
  unfold in64 at h
  omega
theorem OKl.set {l : List Rw} {r : Rw} (h : OKl l) (hr : OKr r) : OKl (setR l r) := by
  intro x hx
  unfold setR at hx
  split at hx
  · rcases List.mem_or_eq_of_mem_set hx with hx | rfl
    · exact h x hx
    · exact hr
  · rcases List.mem_append.1 hx with hx | hx
    · rcases List.mem_append.1 hx with hx | hx
      · exact h x (List.mem_of_mem_take hx)
      · simp at hx; subst hx; exact hr
    · exact h x (List.mem_of_mem_drop hx)
theorem OKl.drop {l : List Rw} {c : Int} (h : OKl l) : OKl (dropR l c) := by
  intro x hx
  unfold dropR at hx
  split at hx
  · rcases List.mem_append.1 hx with hx | hx
    · exact h x (List.mem_of_mem_take hx)
    · exact h x (List.mem_of_mem_drop hx)
  · exact h x hx
theorem setR_length (l : List Rw) (r : Rw) : (setR l r).length ≤ l.length + 1 := by
  unfold setR
  split
  · simp
  · have := atR_le l r.ch
    simp; omega
theorem dropR_length (l : List Rw) (c : Int) : (dropR l c).length ≤ l.length := by
  unfold dropR
  split
  · simp; omega
  · exact Nat.le_refl _

/-! ### The program -/
theorem indexFunc_Row {C : IV → List Nat → List (List IV) → Option (List IV)} {fv : IV} {p : Rw → Bool} {l : List Rw} (hl : l.length < 2 ^ 16) (hC : ∀ x ∈ l, C fv [1] [eRw x] = some [.bool (p x)]) :
    slices_IndexFunc_Row_s C (eRws l) fv = some [.int .i64 (ixI p l)] := by
  unfold slices_IndexFunc_Row_s
  simp only [ilenL_lst, Option.bind_some]
  rw [iter_search (vs0 := [IV.int .i64 0]) (fun i => [IV.int .i64 (i : Int)]) p 1 (fun i => [IV.int .i64 (i : Int)]) 0 [] l rfl (by have := rounds_eq; omega)]
  · unfold ixI
    cases l.findIdx? p <;> simp
  · intro i x hx
    have hi : i < l.length := (List.getElem?_eq_some_iff.1 hx).1
    have hc := hC x (List.mem_of_getElem? hx)
    unfold slices_IndexFunc_Row_l2
    unfold eRw at hc
    simp only [nth_zero, nth_one, nth_two, nth_three, nth_four, nth_five, ibin_lss, List.length_map, Int.ofNat_lt, at_Rw hx, decide_true, icond_true, Option.bind_some, hc, icond_bool, ibin_succ (show i < 2 ^ 62 by omega), if_true]
    cases p x <;> rfl
  · unfold slices_IndexFunc_Row_l2
    simp
theorem tree_place_eq {l : List Rw} (hl : l.length < 2 ^ 16) (c : Int) : tree_place_s (eRws l) (.int .i64 c) = some [.int .i64 (ixI (isC c) l), .bool (decide (0 ≤ ixI (isC c) l))] := by
  unfold tree_place_s
  rw [indexFunc_Row hl (p := isC c)]
  · simp
  · intro x _
    show tree_place_1_s (.int .i64 x.ch) (.int .i64 x.par) (.str x.nm) (.flt .f64 x.rk) (.ptr [.int .i64 c] 0) = _
    unfold tree_place_1_s
    simp [ipld, isC]
/-- What is found, as cells. -/
def foundI : Option Rw → List IV
  | some x => [.int .i64 x.ch, .int .i64 x.par, .str x.nm, .flt .f64 x.rk, .bool true]
  | none => [.int .i64 0, .int .i64 0, .str ⟨#[]⟩, .flt .f64 0, .bool false]
theorem tree_Find_eq {l : List Rw} (hl : l.length < 2 ^ 16) (c : Int) : tree_Find_s (eRws l) (.int .i64 c) = some (foundI (findR l c)) := by
  unfold tree_Find_s
  rw [tree_place_eq hl, findR_ix]
  cases h : l.findIdx? (isC c) with
  | none => simp [ixI_none h, foundI, icond_dec]
  | some i =>
    obtain ⟨x, hx, _⟩ := findIdx_get h
    simp [ixI_some h, at_Rw hx, icond_dec, hx, foundI]
    have e := (List.getElem?_eq_some_iff.1 hx).2
    simp [e]
theorem insert_Rw {l : List Rw} (hl : l.length < 2 ^ 16) {i : Nat} (hi : i ≤ l.length) (r : Rw) : slices_Insert_Row_s (eRws l) (.int .i64 (i : Int)) (.lst [[.int .i64 r.ch, .int .i64 r.par, .str r.nm, .flt .f64 r.rk]]) = some [eRws (l.take i ++ [r] ++ l.drop i)] := by
  unfold slices_Insert_Row_s
  simp only [insertS]
  rw [if_pos]
  · simp [eRw]
  · refine ⟨by omega, by simp; omega, by simp; omega, rfl⟩
theorem clone_Rw {l : List Rw} (hl : l.length < 2 ^ 16) : slices_Clone_Row_s (eRws l) = some [eRws l] := by
  unfold slices_Clone_Row_s
  simp only [cloneS]
  rw [if_pos]
  refine ⟨by simp; omega, by simp [eRw]⟩
theorem delete_Rw {l : List Rw} (hl : l.length < 2 ^ 16) {i : Nat} (hi : i < l.length) : slices_Delete_Row_s (eRws l) (.int .i64 (i : Int)) (.int .i64 ((i + 1 : Nat) : Int)) = some [eRws (l.take i ++ l.drop (i + 1))] := by
  unfold slices_Delete_Row_s
  simp only [deleteS]
  rw [if_pos]
  · simp
  · refine ⟨by omega, by omega, by simp; omega, by simp; omega⟩
theorem tree_Set_eq {l : List Rw} (hl : l.length < 2 ^ 16) (r : Rw) : tree_Set_s (eRws l) (.int .i64 r.ch) (.int .i64 r.par) (.str r.nm) (.flt .f64 r.rk) = some [eRws (setR l r)] := by
  unfold tree_Set_s setR
  rw [clone_Rw hl]
  simp only [Option.bind_some]
  rw [tree_place_eq hl]
  simp only [Option.bind_some, nth_one, nth_zero, icond_dec]
  cases h : l.findIdx? (isC r.ch) with
  | some i =>
    obtain ⟨x, hx, _⟩ := findIdx_get h
    rw [ixI_some h, if_pos (Int.natCast_nonneg _)]
    simp only [llen_lst, List.length_map, at_Rw hx, Option.bind_some, iset_Rw hx]
  | none =>
    rw [ixI_none h, if_neg (by omega)]
    rw [indexFunc_Row hl (p := fun x => decide (r.ch < x.ch))]
    · simp only [Option.bind_some, nth_zero, ibin_lss, icond_dec, atR]
      cases hh : l.findIdx? (fun x => decide (r.ch < x.ch)) with
      | none =>
        have := insert_Rw hl (Nat.le_refl _) r
        simp [ixI_none hh, this]
      | some i =>
        obtain ⟨hi, _⟩ := List.findIdx?_eq_some_iff_getElem.1 hh
        have := insert_Rw hl (Nat.le_of_lt hi) r
        simp [ixI_some hh, this, show ¬ ((i : Int) < 0) by omega]
    · intro x _
      show tree_Set_1_s (.int .i64 x.ch) (.int .i64 x.par) (.str x.nm) (.flt .f64 x.rk) (.ptr [.int .i64 r.ch, .int .i64 r.par, .str r.nm, .flt .f64 r.rk] 0) = _
      unfold tree_Set_1_s
      simp [ipld, ipnn]
theorem tree_Drop_eq {l : List Rw} (hl : l.length < 2 ^ 16) (c : Int) : tree_Drop_s (eRws l) (.int .i64 c) = some [eRws (dropR l c)] := by
  unfold tree_Drop_s dropR
  rw [tree_place_eq hl]
  simp only [Option.bind_some, nth_one, nth_zero, iun_not, icond_bool]
  cases h : l.findIdx? (isC c) with
  | some i =>
    obtain ⟨x, hx, _⟩ := findIdx_get h
    have hi := (List.getElem?_eq_some_iff.1 hx).1
    rw [ixI_some h]
    simp only [Int.natCast_nonneg, decide_true, Bool.not_true, Bool.false_eq_true, if_false]
    rw [clone_Rw hl]
    simp only [Option.bind_some, nth_zero, ibin_succ (show i < 2 ^ 62 by omega), delete_Rw hl hi]
  | none => rw [ixI_none h]; simp

/-! ### The references -/
theorem ref12_place_eq {l : List Rw} (hl : l.length < 2 ^ 16) (c : Int) : ref12_place_s (eRws l) (.int .i64 c) = some [.int .i64 (ixI (isC c) l)] := by
  unfold ref12_place_s
  rw [iter_search (vs0 := [IV.int .i64 0]) (fun i => [IV.int .i64 (i : Int)]) (isC c) 1 (fun i => [IV.int .i64 (i : Int)]) 0 [] l rfl (by have := rounds_eq; omega)]
  · unfold ixI
    cases l.findIdx? (isC c) <;> simp
  · intro i x hx
    have hi : i < l.length := (List.getElem?_eq_some_iff.1 hx).1
    unfold ref12_place_l2
    simp only [ilenL_lst, Option.bind_some, nth_zero, ibin_lss, List.length_map, Int.ofNat_lt, at_Rw hx, decide_true, icond_true, ibin_eql, icond_dec, ibin_succ (show i < 2 ^ 62 by omega)]
    by_cases h : x.ch = c <;> simp [isC, h]
  · unfold ref12_place_l2
    simp
theorem ref12_Find_eq {l : List Rw} (hl : l.length < 2 ^ 16) (c : Int) : ref12_Find_s (eRws l) (.int .i64 c) = some (foundI (findR l c)) := by
  unfold ref12_Find_s
  rw [ref12_place_eq hl, findR_ix]
  cases h : l.findIdx? (isC c) with
  | none => simp [ixI_none h, foundI, icond_dec]
  | some i =>
    obtain ⟨x, hx, _⟩ := findIdx_get h
    simp [ixI_some h, at_Rw hx, icond_dec, hx, foundI, show ¬ ((i : Int) < 0) by omega]
    have e := (List.getElem?_eq_some_iff.1 hx).2
    simp [e]
theorem iapp_Rw {l k : List Rw} (hl : l.length < 2 ^ 20) (hk : k.length < 2 ^ 20) : iapp 4 40 (eRws l) (eRws k) = some (eRws (l ++ k)) := by
  simp only [iapp]
  rw [if_pos]
  · simp
  · refine ⟨by simp; omega, by simp [eRw]⟩
theorem islcL_hiR {l : List Rw} {i : Nat} (hi : i ≤ l.length) : islcL 4 (eRws l) none (some (.int .i64 (i : Int))) = some (eRws (l.take i)) := by
  have h : (l.map eRw).all (fun e => e.length == 4) = true := by simp [eRw]
  simp only [islcL, h, if_true, ibnds, bnd, List.length_map]
  rw [if_pos ⟨by omega, by omega⟩]
  simp
theorem islcL_loR {l : List Rw} {i : Nat} (hi : i ≤ l.length) : islcL 4 (eRws l) (some (.int .i64 (i : Int))) none = some (eRws (l.drop i)) := by
  have h : (l.map eRw).all (fun e => e.length == 4) = true := by simp [eRw]
  simp only [islcL, h, if_true, ibnds, bnd, List.length_map, Option.bind_some]
  rw [if_pos ⟨by omega, by omega⟩]
  simp [List.map_drop]
  rw [List.take_of_length_le (by simp)]
/-- Where no row is the node's, the first that is not ahead of it is the first behind it. -/
theorem atR_not {l : List Rw} {c : Int} (h : l.findIdx? (isC c) = none) : (l.findIdx? fun x => !decide (x.ch < c)) = l.findIdx? fun x => decide (c < x.ch) := by
  rw [List.findIdx?_eq_none_iff] at h
  induction l with
  | nil => rfl
  | cons x l ih =>
    have hx := h x List.mem_cons_self
    have hne : x.ch ≠ c := by simpa [isC] using hx
    have e : (!decide (x.ch < c)) = decide (c < x.ch) := by
      by_cases h1 : x.ch < c
      · have : ¬ c < x.ch := by omega
        simp [h1, this]
      · have : c < x.ch := by omega
        simp [h1, this]
    simp only [List.findIdx?_cons, e, ih fun y hy => h y (List.mem_cons_of_mem _ hy)]
theorem ref12_Set_eq {l : List Rw} (hl : l.length < 2 ^ 16) (r : Rw) : ref12_Set_s (eRws l) (.int .i64 r.ch) (.int .i64 r.par) (.str r.nm) (.flt .f64 r.rk) = some [eRws (setR l r)] := by
  unfold ref12_Set_s setR
  rw [ref12_place_eq hl]
  simp only [Option.bind_some, nth_zero, ibin_geq, icond_dec]
  have h0 : iapp 4 40 (.lst []) (eRws l) = some (eRws l) := by
    have := iapp_Rw (l := []) (k := l) (by simp) (by omega)
    exact this
  cases h : l.findIdx? (isC r.ch) with
  | some i =>
    obtain ⟨x, hx, _⟩ := findIdx_get h
    rw [ixI_some h, if_pos (Int.natCast_nonneg _), h0]
    simp only [Option.bind_some, llen_lst, List.length_map, at_Rw hx, iset_Rw hx]
  | none =>
    rw [ixI_none h, if_neg (by omega)]
    rw [iter_search (vs0 := [IV.int .i64 0]) (fun i => [IV.int .i64 (i : Int)]) (fun x : Rw => !decide (x.ch < r.ch)) 0 (fun i => [IV.int .i64 (i : Int)]) 0 [IV.int .i64 (l.length : Int)] l rfl (by have := rounds_eq; omega)]
    · have key : ∀ i : Nat, i ≤ l.length → ((islcL 4 (eRws l) none (some (.int .i64 (i : Int)))).bind fun v15 => (iapp 4 40 (.lst []) v15).bind fun v16 => (iapp 4 40 v16 (.lst [[.int .i64 r.ch, .int .i64 r.par, .str r.nm, .flt .f64 r.rk]])).bind fun v17 => (islcL 4 (eRws l) (some (.int .i64 (i : Int))) none).bind fun v18 => (iapp 4 40 v17 v18).bind fun v19 => some [v19]) = some [eRws (l.take i ++ [r] ++ l.drop i)] := by
        intro i hi
        rw [islcL_hiR hi, islcL_loR hi]
        simp only [Option.bind_some]
        have h1 : iapp 4 40 (.lst []) (eRws (l.take i)) = some (eRws (l.take i)) := by
          have := iapp_Rw (l := []) (k := l.take i) (by simp) (by simp; omega)
          exact this
        have h2 : iapp 4 40 (eRws (l.take i)) (.lst [[.int .i64 r.ch, .int .i64 r.par, .str r.nm, .flt .f64 r.rk]]) = some (eRws (l.take i ++ [r])) := iapp_Rw (l := l.take i) (k := [r]) (by simp; omega) (by simp)
        have h3 := iapp_Rw (l := l.take i ++ [r]) (k := l.drop i) (by simp; omega) (by simp; omega)
        rw [h1]
        simp only [Option.bind_some, h2, h3]
      rw [atR_not h]
      unfold atR
      cases hh : l.findIdx? fun x => decide (r.ch < x.ch) with
      | none => simp only [Option.bind_some, sel_zero, nth_zero, Option.getD_none]; exact key _ (Nat.le_refl _)
      | some i => simp only [Option.bind_some, sel_zero, nth_zero, Option.getD_some]; exact key i (Nat.le_of_lt (List.findIdx?_eq_some_iff_getElem.1 hh).1)
    · intro i x hx
      have hi : i < l.length := (List.getElem?_eq_some_iff.1 hx).1
      unfold ref12_Set_l7
      simp only [ilenL_lst, Option.bind_some, nth_zero, ibin_lss, List.length_map, Int.ofNat_lt, at_Rw hx, decide_true, icond_true, icond_dec, ibin_succ (show i < 2 ^ 62 by omega), if_true]
      by_cases h : x.ch < r.ch <;> simp [h, at_Rw hx]
    · unfold ref12_Set_l7
      simp
theorem ref12_Drop_eq {l : List Rw} (hl : l.length < 2 ^ 16) (c : Int) : ref12_Drop_s (eRws l) (.int .i64 c) = some [eRws (dropR l c)] := by
  unfold ref12_Drop_s dropR
  rw [ref12_place_eq hl]
  simp only [Option.bind_some, nth_zero, ibin_lss, icond_dec]
  cases h : l.findIdx? (isC c) with
  | none => rw [ixI_none h, if_pos (by omega)]
  | some i =>
    obtain ⟨x, hx, _⟩ := findIdx_get h
    have hi := (List.getElem?_eq_some_iff.1 hx).1
    rw [ixI_some h, if_neg (by omega), islcL_hiR (by omega)]
    have h1 : iapp 4 40 (.lst []) (eRws (l.take i)) = some (eRws (l.take i)) := by
      have := iapp_Rw (l := []) (k := l.take i) (by simp) (by simp; omega)
      exact this
    have h3 := iapp_Rw (l := l.take i) (k := l.drop (i + 1)) (by simp; omega) (by simp; omega)
    simp only [Option.bind_some, h1, ibin_succ (show i < 2 ^ 62 by omega)]
    rw [islcL_loR (by omega)]
    simp only [Option.bind_some, h3]
def keyR (r : Rw) : Int × Int × List UInt8 × Nat := (r.ch, r.par, r.nm.toList, bitsN r.rk)
def sameR (a b : List Rw) : Bool := decide (a.map keyR = b.map keyR)
theorem ref12_AlikeR {a b : Rw} (h : a.rk < 2 ^ 64) (h' : b.rk < 2 ^ 64) : ref12_Alike_s (.int .i64 a.ch) (.int .i64 a.par) (.str a.nm) (.flt .f64 a.rk) (.int .i64 b.ch) (.int .i64 b.par) (.str b.nm) (.flt .f64 b.rk) = some [.bool (decide (keyR a = keyR b))] := by
  rw [ref12_Alike_eq h h']
  simp [keyR, Prod.mk.injEq]
theorem ref12_Same_eq {a b : List Rw} (ha : a.length < 2 ^ 16) (hfa : ∀ r ∈ a, r.rk < 2 ^ 64) (hfb : ∀ r ∈ b, r.rk < 2 ^ 64) : ref12_Same_s (eRws a) (eRws b) = some [.bool (sameR a b)] := by
  unfold ref12_Same_s sameR
  simp only [ilenL_lst, Option.bind_some, ibin_neq, List.length_map, icond_dec]
  by_cases hlen : a.length = b.length
  · rw [if_neg (by omega)]
    rw [iter_check (vs0 := [.int .i64 0]) (fun i => [IV.int .i64 (i : Int)]) (fun i x => decide ((b[i]?).map keyR ≠ some (keyR x))) 1 [.bool false] 0 [] a rfl (by have := rounds_eq; omega), any_keys hlen (b0 := b) (fun i => by rw [Nat.zero_add])]
    · by_cases h : a.map keyR = b.map keyR <;> simp [h]
    · intro i x hx
      have hi : i < a.length := (List.getElem?_eq_some_iff.1 hx).1
      have hy : b[i]? = some (b[i]'(by omega)) := List.getElem?_eq_getElem (by omega)
      generalize b[i]'(by omega) = y at hy
      have hk := ref12_AlikeR (hfa x (List.mem_of_getElem? hx)) (hfb y (List.mem_of_getElem? hy))
      unfold ref12_Same_l4
      simp only [ilenL_lst, Option.bind_some, nth_zero, nth_one, nth_two, nth_three, nth_four, nth_five, ibin_lss, List.length_map, Int.ofNat_lt, at_Rw hx, at_Rw hy, decide_true, icond_true, hk, iun_not, icond_bool, ibin_succ (show i < 2 ^ 62 by omega), hy, Option.map_some, if_true]
      by_cases h : keyR x = keyR y
      · simp [h]
      · have : ¬ keyR y = keyR x := fun e => h e.symm
        simp [h, this]
    · unfold ref12_Same_l4
      simp
  · rw [if_pos (by omega)]
    have : ¬ a.map keyR = b.map keyR := fun h => hlen (by have := congrArg List.length h; simpa using this)
    simp [this]
theorem sameR_refl (a : List Rw) : sameR a a = true := by simp [sameR]
def fewR (l : List Rw) : Bool := decide (l.length ≤ 60) && !l.any fun r => decide (100 < r.nm.size)
theorem ref12_Few_eq (l : List Rw) : ref12_Few_s (eRws l) = some [.bool (fewR l)] := by
  unfold ref12_Few_s fewR
  simp only [ilenL_lst, Option.bind_some, ibin_gtr, List.length_map, icond_dec]
  by_cases h : l.length ≤ 60
  · rw [if_neg (by omega)]
    rw [iter_check (vs0 := [.int .i64 0]) (fun i => [IV.int .i64 (i : Int)]) (fun _ (r : Rw) => decide (100 < r.nm.size)) 1 [.bool false] 0 [] l rfl (by have := rounds_eq; omega), anyI_any]
    · cases hh : l.any fun r => decide (100 < r.nm.size) <;> simp [h]
    · intro i x hx
      have hi : i < l.length := (List.getElem?_eq_some_iff.1 hx).1
      unfold ref12_Few_l4
      simp only [ilenL_lst, ilenS_str, Option.bind_some, nth_zero, ibin_lss, ibin_gtr, List.length_map, Int.ofNat_lt, at_Rw hx, decide_true, icond_true, icond_dec, ibin_succ (show i < 2 ^ 62 by omega), if_true]
      by_cases h2 : 100 < x.nm.size
      · have : (100 : Int) < (x.nm.size : Int) := by omega
        simp [h2, this]
      · have : ¬ (100 : Int) < (x.nm.size : Int) := by omega
        simp [h2, this]
    · unfold ref12_Few_l4
      simp
  · rw [if_pos (by omega)]
    simp [h]
end Go.AM
/- Rows, plainly: who is above. -/
set_option linter.unusedVariables false
set_option linter.unusedSimpArgs false
namespace Go.AM

/-! ### Going up -/
theorem upto_mono {f : Int → Option Int} : ∀ {n m : Nat} {b : Int}, n ≤ m → ∀ x, x ∈ upto f n b → x ∈ upto f m b
  | 0, m, b, _, x, h => by simp [upto] at h
  | n + 1, m + 1, b, hle, x, h => by
    unfold upto at h ⊢
    split
    · rename_i hb; rw [hb] at h; exact h
    · rename_i y hb
      rw [hb] at h
      rcases List.mem_cons.1 h with rfl | h
      · exact List.mem_cons_self
      · exact List.mem_cons_of_mem _ (upto_mono (by omega) x h)
/-- The node after so many steps. -/
def nodeAt (f : Int → Option Int) : Nat → Int → Option Int
  | 0, b => some b
  | n + 1, b => (f b).bind fun y => nodeAt f n y
theorem mem_upto {f : Int → Option Int} : ∀ {n : Nat} {b x : Int}, x ∈ upto f n b ↔ ∃ k, k < n ∧ nodeAt f (k + 1) b = some x
  | 0, b, x => by simp [upto]
  | n + 1, b, x => by
    unfold upto
    cases hb : f b with
    | none =>
      simp only [List.not_mem_nil, false_iff, not_exists, not_and]
      intro k _ h
      simp [nodeAt, hb] at h
    | some y =>
      simp only [List.mem_cons]
      rw [mem_upto]
      constructor
      · rintro (rfl | ⟨k, hk, h⟩)
        · exact ⟨0, by omega, by simp [nodeAt, hb]⟩
        · exact ⟨k + 1, by omega, by rw [nodeAt, hb]; exact h⟩
      · rintro ⟨k, hk, h⟩
        rw [nodeAt, hb] at h
        cases k with
        | zero => left; simpa [nodeAt] using h.symm
        | succ k => right; exact ⟨k, by omega, h⟩
theorem nodeAt_add {f : Int → Option Int} : ∀ (j : Nat) {k : Nat} {b : Int}, nodeAt f (j + k) b = (nodeAt f j b).bind (nodeAt f k)
  | 0, k, b => by simp [nodeAt]
  | j + 1, k, b => by
    rw [show j + 1 + k = (j + k) + 1 by omega, nodeAt, nodeAt]
    cases f b with
    | none => rfl
    | some y => simp only [Option.bind_some]; exact nodeAt_add j
theorem nodeAt_some {f : Int → Option Int} {n : Nat} {b x : Int} (h : nodeAt f n b = some x) : ∀ k, k ≤ n → ∃ y, nodeAt f k b = some y := by
  intro k hk
  have : nodeAt f (k + (n - k)) b = some x := by rw [show k + (n - k) = n by omega]; exact h
  rw [nodeAt_add] at this
  obtain ⟨y, h1, _⟩ := Option.bind_eq_some_iff.1 this
  exact ⟨y, h1⟩
/-- Two numbers below a bound at which a function with few values is the same. -/
theorem pigeon {K : List Int} (g : Nat → Int) : ∀ n, K.length < n → (∀ i, i < n → g i ∈ K) → ∃ i j, i < j ∧ j < n ∧ g i = g j := by
  induction K generalizing g with
  | nil => intro n hn h; exact absurd (h 0 (by simpa using hn)) (by simp)
  | cons x K ih =>
    intro n hn h
    by_cases hx : ∃ i j, i < j ∧ j < n ∧ g i = g j
    · exact hx
    · exfalso
      -- leave out the place at which it is x
      have : ∃ i0, i0 < n ∧ (∀ i, i < n → g i = x → i = i0) := by
        by_cases h0 : ∃ i, i < n ∧ g i = x
        · obtain ⟨i0, h1, h2⟩ := h0
          refine ⟨i0, h1, fun i hi he => ?_⟩
          rcases Nat.lt_trichotomy i i0 with hl | hl | hl
          · exact absurd ⟨i, i0, hl, h1, he.trans h2.symm⟩ hx
          · exact hl
          · exact absurd ⟨i0, i, hl, hi, h2.trans he.symm⟩ hx
        · exact ⟨0, by simp at hn; omega, fun i hi he => absurd ⟨i, hi, he⟩ h0⟩
      obtain ⟨i0, h1, h2⟩ := this
      obtain ⟨i, j, h3, h4, h5⟩ := ih (fun i => g (if i < i0 then i else i + 1)) (n - 1) (by simp at hn; omega) (fun i hi => by
        have hlt : (if i < i0 then i else i + 1) < n := by split <;> omega
        rcases List.mem_cons.1 (h _ hlt) with he | he
        · have := h2 _ hlt he
          split at this <;> omega
        · exact he)
      refine hx ⟨if i < i0 then i else i + 1, if j < i0 then j else j + 1, ?_, ?_, h5⟩
      · split <;> split <;> omega
      · split <;> omega
/-- As many steps as there are nodes with a way on are enough. -/
theorem nodeAt_short {f : Int → Option Int} {K : List Int} (hK : ∀ x, (f x).isSome = true → x ∈ K) {b x : Int} : ∀ n, nodeAt f (n + 1) b = some x → ∃ k, k < K.length ∧ nodeAt f (k + 1) b = some x := by
  intro n
  induction n using Nat.strongRecOn with
  | ind n ih =>
    intro h
    by_cases hn : n < K.length
    · exact ⟨n, hn, h⟩
    · have hg : ∀ i, i < n + 1 → ∃ y, nodeAt f i b = some y ∧ y ∈ K := by
        intro i hi
        obtain ⟨y, hy⟩ := nodeAt_some h i (by omega)
        obtain ⟨z, hz⟩ := nodeAt_some h (i + 1) (by omega)
        rw [nodeAt_add, hy] at hz
        simp only [Option.bind_some, nodeAt] at hz
        refine ⟨y, hy, hK y ?_⟩
        cases hf : f y with
        | none => rw [hf] at hz; simp at hz
        | some _ => rfl
      obtain ⟨i, j, h1, h2, h3⟩ := pigeon (K := K) (fun i => (nodeAt f i b).getD 0) (n + 1) (by omega) (fun i hi => by
        obtain ⟨y, hy, hk⟩ := hg i hi
        rw [hy]; exact hk)
      obtain ⟨yi, hi, _⟩ := hg i (by omega)
      obtain ⟨yj, hj, _⟩ := hg j h2
      rw [hi, hj] at h3
      simp only [Option.getD_some] at h3
      subst h3
      have : nodeAt f (i + (n - j) + 1) b = some x := by
        rw [show i + (n - j) + 1 = i + (n + 1 - j) by omega, nodeAt_add, hi]
        have h4 : nodeAt f (j + (n + 1 - j)) b = some x := by rw [show j + (n + 1 - j) = n + 1 by omega]; exact h
        rw [nodeAt_add, hj] at h4
        exact h4
      exact ih (i + (n - j)) (by omega) this
theorem upto_enough {f : Int → Option Int} {K : List Int} (hK : ∀ x, (f x).isSome = true → x ∈ K) {b : Int} {n : Nat} (hn : K.length ≤ n) (x : Int) : x ∈ upto f n b ↔ x ∈ upto f K.length b := by
  constructor
  · intro h
    obtain ⟨k, _, h1⟩ := mem_upto.1 h
    obtain ⟨j, hj, h2⟩ := nodeAt_short hK k h1
    exact mem_upto.2 ⟨j, hj, h2⟩
  · exact upto_mono hn x

/-! ### Above -/
def prR (r : Rw) : Int × Int := (r.ch, r.par)
def upR (l : List Rw) : Int → Option Int := lkp (l.map prR)
def aboveV (l : List Rw) (a b : Int) : Bool := (upto (upR l) l.length b).contains a
theorem upR_find (l : List Rw) (c : Int) : upR l c = (findR l c).map (·.par) := by
  unfold upR lkp findR
  induction l with
  | nil => rfl
  | cons x l ih =>
    simp only [List.map_cons, List.find?_cons]
    have e : ((prR x).1 == c) = isC c x := by unfold prR isC; by_cases h : x.ch = c <;> simp [h]
    rw [e]
    cases isC c x with
    | true => rfl
    | false => exact ih

theorem contains_iff {l : List Int} {x : Int} : l.contains x = true ↔ x ∈ l := by simp
theorem rowI_eRw {r : Rw} (h : OKr r) : rowI (eRw r) = some (prR r) := by
  unfold rowI eRw
  simp only
  rw [if_pos ⟨in64_wf h.ch, in64_wf h.par⟩]
  rfl
theorem mapM_rowI : ∀ {l : List Rw}, OKl l → (l.map eRw).mapM rowI = some (l.map prR)
  | [], _ => rfl
  | r :: l, h => by
    rw [List.map_cons, List.mapM_cons, rowI_eRw (h r List.mem_cons_self), mapM_rowI fun x hx => h x (List.mem_cons_of_mem _ hx)]
    rfl
theorem upto_wide (l : List Rw) (a b : Int) : (upto (lkp (l.map prR)) (ksof (l.map prR)).length b).contains a = aboveV l a b := by
  unfold aboveV upR
  have h := upto_enough (f := lkp (l.map prR)) (K := ksof (l.map prR)) (fun x hx => (mem_ksof _ x).2 hx) (b := b) (n := l.length) (by have := ksof_le (l.map prR); simpa using this) a
  cases h1 : (upto (lkp (l.map prR)) (ksof (l.map prR)).length b).contains a <;> cases h2 : (upto (lkp (l.map prR)) l.length b).contains a <;> simp_all
theorem tree_Above_eq {l : List Rw} (hl : l.length < 2 ^ 16) (ho : OKl l) (a : Int) {b : Int} (hb : in64 b) : tree_Above_s (eRws l) (.int .i64 a) (.int .i64 b) = some [.bool (aboveV l a b)] := by
  unfold tree_Above_s aboveS
  simp only [List.length_map]
  rw [if_pos ⟨by omega, in64_wf hb⟩, mapM_rowI ho, Option.map_some, upto_wide]
theorem ref12_Above_eq {l : List Rw} (hl : l.length < 2 ^ 16) (a b : Int) : ref12_Above_s (eRws l) (.int .i64 a) (.int .i64 b) = some [.bool (aboveV l a b)] := by
  unfold ref12_Above_s
  have key : ∀ (k n m : Nat) (b : Int), n + k = l.length → k < m → ∃ e o, iter m (ref12_Above_l2 (eRws l) (.int .i64 a)) [.int .i64 b, .int .i64 (n : Int)] = some (e, o) ∧
      ((e = 1 ∧ o = [.bool ((upto (upR l) k b).contains a)]) ∨ (e = 0 ∧ o = [] ∧ (upto (upR l) k b).contains a = false)) := by
    intro k
    induction k with
    | zero =>
      intro n m b hn hm
      obtain ⟨m, rfl⟩ : ∃ m', m = m' + 1 := ⟨m - 1, by omega⟩
      refine ⟨0, [], iter_done m ?_, .inr ⟨rfl, rfl, by simp [upto]⟩⟩
      unfold ref12_Above_l2
      have : ¬ n < l.length := by omega
      simp [this]
    | succ k ih =>
      intro n m b hn hm
      obtain ⟨m, rfl⟩ : ∃ m', m = m' + 1 := ⟨m - 1, by omega⟩
      have hlt : n < l.length := by omega
      have hfind := ref12_Find_eq hl b
      cases hf : findR l b with
      | none =>
        refine ⟨1, [.bool false], iter_done m ?_, .inl ⟨rfl, ?_⟩⟩
        · unfold ref12_Above_l2
          simp [hlt, hfind, hf, foundI]
        · simp [upto, upR_find, hf]
      | some r =>
        by_cases hp : r.par = a
        · refine ⟨1, [.bool true], iter_done m ?_, .inl ⟨rfl, ?_⟩⟩
          · unfold ref12_Above_l2
            simp [hlt, hfind, hf, foundI, hp]
          · simp [upto, upR_find, hf, hp]
        · obtain ⟨e, o, h1, h2⟩ := ih (n + 1) m r.par (by omega) (by omega)
          have hu : (upto (upR l) (k + 1) b).contains a = (upto (upR l) k r.par).contains a := by
            have : ¬ a = r.par := fun e => hp e.symm
            simp [upto, upR_find, hf, this]
          refine ⟨e, o, ?_, by rw [hu]; exact h2⟩
          rw [iter]
          have hstep : ref12_Above_l2 (eRws l) (.int .i64 a) [.int .i64 b, .int .i64 (n : Int)] = some (.next [.int .i64 r.par, .int .i64 ((n + 1 : Nat) : Int)]) := by
            unfold ref12_Above_l2
            simp [hlt, hfind, hf, foundI, hp, ibin_succ (show n < 2 ^ 62 by omega)]
          rw [hstep]
          exact h1
  obtain ⟨e, o, h1, h2⟩ := key l.length 0 rounds b (by omega) (by have := rounds_eq; omega)
  rw [show (IV.int .i64 0) = IV.int .i64 ((0 : Nat) : Int) from rfl, h1]
  rcases h2 with ⟨rfl, rfl⟩ | ⟨rfl, rfl, h3⟩
  · simp [aboveV]
  · simp [aboveV] at h3 ⊢; exact h3

/-! ### Moves -/
def barV (l : List Rw) (m : Mv) : Bool := decide (m.ch = 0) || decide (m.ch = m.par) || aboveV l m.ch m.par
structure OKm (m : Mv) : Prop where
  rk : m.rk < 2 ^ 64
  ch : in64 m.ch
  par : in64 m.par
def rowOf (m : Mv) : Rw := ⟨m.ch, m.par, m.nm, m.rk⟩
theorem OKm.row {m : Mv} (h : OKm m) : OKr (rowOf m) := ⟨h.rk, h.ch, h.par⟩
def doV (l : List Rw) (m : Mv) : List Rw := if barV l m = true then l else setR l (rowOf m)
theorem OKl.doV {l : List Rw} {m : Mv} (h : OKl l) (hm : OKm m) : OKl (doV l m) := by
  unfold AM.doV
  split
  · exact h
  · exact h.set hm.row
end Go.AM

/- Steps, plainly: what undo's functions and their references do. -/
set_option linter.unusedVariables false
set_option linter.unusedSimpArgs false
namespace Go.AM

structure Stp where
  mv : Mv
  moved : Bool
  had : Bool
  old : Rw
structure OKs (s : Stp) : Prop where
  mv : OKm s.mv
  old : OKr s.old
def zeroRw : Rw := ⟨0, 0, ⟨#[]⟩, 0⟩
theorem OKr.zero : OKr zeroRw := ⟨by decide, by unfold in64 zeroRw; decide, by unfold in64 zeroRw; decide⟩
def stepV (l : List Rw) (m : Mv) : Stp :=
  if barV l m = true then ⟨m, false, false, zeroRw⟩ else match findR l m.ch with | some x => ⟨m, true, true, x⟩ | none => ⟨m, true, false, zeroRw⟩
theorem findR_ok {l : List Rw} (h : OKl l) {c : Int} {x : Rw} (hx : findR l c = some x) : OKr x := h x (List.mem_of_find?_eq_some hx)
theorem OKs.step {l : List Rw} (h : OKl l) {m : Mv} (hm : OKm m) : OKs (stepV l m) := by
  unfold stepV
  split
  · exact ⟨hm, .zero⟩
  · split
    · rename_i x hx; exact ⟨hm, findR_ok h hx⟩
    · exact ⟨hm, .zero⟩
def undoV (l : List Rw) (s : Stp) : List Rw := if s.moved = true then (if s.had = true then setR l s.old else dropR l s.mv.ch) else l
theorem OKl.undo {l : List Rw} (h : OKl l) {s : Stp} (hs : OKs s) : OKl (undoV l s) := by
  unfold undoV
  split
  · split
    · exact h.set hs.old
    · exact h.drop
  · exact h
/-! ### Runs -/
def stepsV : List Rw → List Mv → List Stp
  | _, [] => []
  | l, m :: ms => stepV l m :: stepsV (doV l m) ms
theorem OKs.steps : ∀ {ms : List Mv} {l : List Rw}, OKl l → (∀ m ∈ ms, OKm m) → ∀ s ∈ stepsV l ms, OKs s
  | [], l, _, _, s, hs => by simp [stepsV] at hs
  | m :: ms, l, h, hm, s, hs => by
    rcases List.mem_cons.1 hs with rfl | hs
    · exact OKs.step h (hm m List.mem_cons_self)
    · exact OKs.steps (h.doV (hm m List.mem_cons_self)) (fun x hx => hm x (List.mem_cons_of_mem _ hx)) s hs
/-! ### Backward -/
def backV (l : List Rw) (ss : List Stp) : List Rw := ss.foldr (fun s l => undoV l s) l
theorem OKl.back {l : List Rw} (h : OKl l) : ∀ {ss : List Stp}, (∀ s ∈ ss, OKs s) → OKl (backV l ss)
  | [], _ => h
  | s :: ss, hs => (OKl.back h fun x hx => hs x (List.mem_cons_of_mem _ hx)).undo (hs s List.mem_cons_self)
/-! ### What steps are -/
structure KeyO where
  moved : Bool
  had : Bool
  old : Int × Int × List UInt8 × Nat
  deriving DecidableEq
structure KeyS where
  m : Key
  o : KeyO
  deriving DecidableEq
theorem tree_Same_1_eq {a b : Rw} (h : a.rk < 2 ^ 64) (h' : b.rk < 2 ^ 64) : tree_Same_1_s (.int .i64 a.ch) (.int .i64 a.par) (.str a.nm) (.flt .f64 a.rk) (.int .i64 b.ch) (.int .i64 b.par) (.str b.nm) (.flt .f64 b.rk) = some [.bool (decide (keyR a = keyR b))] := by
  unfold tree_Same_1_s keyR
  simp only [ibin_eql, ibin_strs, bits_Same_eq h h', Option.bind_some, nth_zero, icond_mb, scal_bool, scal_nil, Option.map_some]
  congr 3
  by_cases h1 : a.ch = b.ch <;> by_cases h2 : a.par = b.par <;> by_cases h3 : a.nm.toList = b.nm.toList <;> simp [h1, h2, h3]
theorem tree_Same_eq {a b : List Rw} (ha : a.length < 2 ^ 16) (hfa : ∀ r ∈ a, r.rk < 2 ^ 64) (hfb : ∀ r ∈ b, r.rk < 2 ^ 64) : tree_Same_s (eRws a) (eRws b) = some [.bool (sameR a b)] := by
  unfold tree_Same_s slices_EqualFunc_Row_Row_s sameR
  simp only [ilenL_lst, Option.bind_some, ibin_neq, List.length_map, icond_dec]
  by_cases hlen : a.length = b.length
  · rw [if_neg (by omega)]
    rw [iter_check (vs0 := [.int .i64 0]) (fun i => [IV.int .i64 (i : Int)]) (fun i x => decide ((b[i]?).map keyR ≠ some (keyR x))) 1 [.bool false] 0 [] a rfl (by have := rounds_eq; omega), any_keys hlen (b0 := b) (fun i => by rw [Nat.zero_add])]
    · by_cases h : a.map keyR = b.map keyR <;> simp [h]
    · intro i x hx
      have hi : i < a.length := (List.getElem?_eq_some_iff.1 hx).1
      have hy : b[i]? = some (b[i]'(by omega)) := List.getElem?_eq_getElem (by omega)
      generalize b[i]'(by omega) = y at hy
      have hk : Cx_tree_Same (.clo (.func n_tree_Same_1) []) [1] [[.int .i64 x.ch, .int .i64 x.par, .str x.nm, .flt .f64 x.rk], [.int .i64 y.ch, .int .i64 y.par, .str y.nm, .flt .f64 y.rk]] = some [.bool (decide (keyR x = keyR y))] :=
        tree_Same_1_eq (hfa x (List.mem_of_getElem? hx)) (hfb y (List.mem_of_getElem? hy))
      unfold slices_EqualFunc_Row_Row_l4
      simp only [ilenL_lst, Option.bind_some, nth_zero, nth_one, nth_two, nth_three, nth_four, nth_five, ibin_lss, List.length_map, Int.ofNat_lt, at_Rw hx, at_Rw hy, decide_true, icond_true, hk, iun_not, icond_bool, ibin_succ (show i < 2 ^ 62 by omega), hy, Option.map_some, if_true]
      by_cases h : keyR x = keyR y
      · simp [h]
      · have : ¬ keyR y = keyR x := fun e => h e.symm
        simp [h, this]
    · unfold slices_EqualFunc_Row_Row_l4
      simp
  · rw [if_pos (by omega)]
    have : ¬ a.map keyR = b.map keyR := fun h => hlen (by have := congrArg List.length h; simpa using this)
    simp [this]
end Go.AM

/- The laws of undo, first part: what the references tell. -/
set_option linter.unusedVariables false
set_option linter.unusedSimpArgs false
namespace Go.AM

abbrev shRw : List Sh := [.int .i64, .int .i64, .str, .flt .f64]
theorem in64_of {k : Int} (h : (Lit.int .i64 k).wf = true) : in64 k := by
  have h1 : IntKind.i64.min = -(2 ^ 63) := by rfl
  have h2 : IntKind.i64.max = 2 ^ 63 - 1 := by rfl
  simp only [Lit.wf, Bool.and_eq_true, decide_eq_true_eq] at h
  unfold in64
  omega
theorem i64_inv {c : IV} (h : ShOK (.int .i64) c) : ∃ n, c = .int .i64 n ∧ in64 n := by
  cases h with | int k n hw => exact ⟨n, rfl, in64_of hw⟩
theorem f64_inv {c : IV} (h : ShOK (.flt .f64) c) : ∃ n, c = .flt .f64 n ∧ n < 2 ^ 64 := by
  cases h with | flt k n hw => simp only [Lit.wf, decide_eq_true_eq] at hw; exact ⟨n, rfl, hw⟩
theorem Rw_inv (e : List IV) (h : Typed shRw e) : ∃ x, e = eRw x ∧ OKr x := by
  obtain ⟨c0, _, rfl, h0, h⟩ := h.cons_inv
  obtain ⟨c1, _, rfl, h1, h⟩ := h.cons_inv
  obtain ⟨c2, _, rfl, h2, h⟩ := h.cons_inv
  obtain ⟨c3, _, rfl, h3, h⟩ := h.cons_inv
  cases h.nil_inv
  obtain ⟨n0, rfl, w0⟩ := i64_inv h0
  obtain ⟨n1, rfl, w1⟩ := i64_inv h1
  cases h2
  obtain ⟨n3, rfl, w3⟩ := f64_inv h3
  exact ⟨⟨_, _, _, _⟩, rfl, w3, w0, w1⟩
theorem rowsB_inv {cs : List IV} (h : Typed [.slc shRw] cs) : ∃ v : List Rw, cs = [eRws v] ∧ OKl v := by
  obtain ⟨c, rfl, h1⟩ := h.one_inv
  obtain ⟨l, rfl, hl⟩ := h1.list_invP Rw_inv
  exact ⟨l, rfl, hl⟩
theorem fewR_len {l : List Rw} (h : fewR l = true) : l.length ≤ 60 := by
  unfold fewR at h; simp only [Bool.and_eq_true, decide_eq_true_eq] at h; exact h.1
theorem OKl.fl {l : List Rw} (h : OKl l) : ∀ r ∈ l, r.rk < 2 ^ 64 := fun r hr => (h r hr).rk

end Go.AM

/- Rows, plainly: what the functions of a tree and their references do. -/
import Derived.Test.YtmmacbkganjkbaaMv
import Derived.Test.YtmmacbkganjkbaaAe
import Derived.KernelRfl
set_option linter.unusedVariables false
set_option linter.unusedSimpArgs false
namespace Go.AM

structure Rw where
  ch : Int
  par : Int
  nm : ByteArray
  rk : Nat
  deriving Inhabited
def eRw (r : Rw) : List IV := [.int .i64 r.ch, .int .i64 r.par, .str r.nm, .flt .f64 r.rk]
abbrev eRws (l : List Rw) : IV := .lst (l.map eRw)
theorem at_Rw {l : List Rw} {i : Nat} {x : Rw} (h : l[i]? = some x) : i < l.length ∧ iidx (eRws l) (.int .i64 (i : Int)) 4 = some i ∧ ildN (eRws l) i 0 4 = some [.int .i64 x.ch, .int .i64 x.par, .str x.nm, .flt .f64 x.rk] ∧ ild (eRws l) i 0 = some (.int .i64 x.ch) ∧ ild (eRws l) i 1 = some (.int .i64 x.par) ∧ ild (eRws l) i 2 = some (.str x.nm) ∧ ild (eRws l) i 3 = some (.flt .f64 x.rk) ∧ ibidx l.length (.int .i64 (i : Int)) = some i :=
  ⟨(List.getElem?_eq_some_iff.1 h).1, iidx_map h rfl (by decide), ildN_map h rfl, ild_map h, ild_map h, ild_map h, ild_map h, ibidx_lt (List.getElem?_eq_some_iff.1 h).1⟩
theorem iset_Rw {l : List Rw} {i : Nat} {x : Rw} (h : l[i]? = some x) (r : Rw) : iset (eRws l) i 0 [.int .i64 r.ch, .int .i64 r.par, .str r.nm, .flt .f64 r.rk] = some (eRws (l.set i r)) := by
  simp only [iset, List.getElem?_map, h, Option.map_some, Option.bind_some, eRw, List.length_cons, List.length_nil]
  rw [if_pos (by decide)]
  simp only [eRws, List.map_set]
  rfl
def isC (c : Int) (x : Rw) : Bool := decide (x.ch = c)
def atR (l : List Rw) (c : Int) : Nat := (l.findIdx? fun x => decide (c < x.ch)).getD l.length
def findR (l : List Rw) (c : Int) : Option Rw := l.find? (isC c)
def setR (l : List Rw) (r : Rw) : List Rw := match l.findIdx? (isC r.ch) with | some i => l.set i r | none => l.take (atR l r.ch) ++ [r] ++ l.drop (atR l r.ch)
def dropR (l : List Rw) (c : Int) : List Rw := match l.findIdx? (isC c) with | some i => l.take i ++ l.drop (i + 1) | none => l
theorem atR_le (l : List Rw) (c : Int) : atR l c ≤ l.length := by
  unfold atR
  cases h : l.findIdx? fun x => decide (c < x.ch) with
  | none => simp
  | some i => have := (List.findIdx?_eq_some_iff_getElem.1 h).1; simp; omega
theorem findR_ix (l : List Rw) (c : Int) : findR l c = match l.findIdx? (isC c) with | some i => l[i]? | none => none := by
  unfold findR
  induction l with
  | nil => rfl
  | cons x l ih =>
    simp only [List.find?_cons, List.findIdx?_cons]
    cases h : isC c x with
    | true => simp
    | false =>
      simp only [ih, Bool.false_eq_true, if_false]
      cases l.findIdx? (isC c) <;> simp

/-- Rows that hold whole numbers and floats of their kinds. -/
def in64 (n : Int) : Prop := -(2 ^ 63) ≤ n ∧ n < 2 ^ 63
structure OKr (r : Rw) : Prop where
  rk : r.rk < 2 ^ 64
  ch : in64 r.ch
  par : in64 r.par
def OKl (l : List Rw) : Prop := ∀ r ∈ l, OKr r
theorem in64_wf {n : Int} (h : in64 n) : (Lit.int .i64 n).wf = true := by
  have h1 : IntKind.i64.min = -(2 ^ 63) := by rfl
  have h2 : IntKind.i64.max = 2 ^ 63 - 1 := by rfl
  simp only [Lit.wf, Bool.and_eq_true, decide_eq_true_eq]
  unfold in64 at h
  omega
theorem OKl.set {l : List Rw} {r : Rw} (h : OKl l) (hr : OKr r) : OKl (setR l r) := by
  intro x hx
  unfold setR at hx
  split at hx
  · rcases List.mem_or_eq_of_mem_set hx with hx | rfl
    · exact h x hx
    · exact hr
  · rcases List.mem_append.1 hx with hx | hx
    · rcases List.mem_append.1 hx with hx | hx
      · exact h x (List.mem_of_mem_take hx)
      · simp at hx; subst hx; exact hr
    · exact h x (List.mem_of_mem_drop hx)
theorem OKl.drop {l : List Rw} {c : Int} (h : OKl l) : OKl (dropR l c) := by
  intro x hx
  unfold dropR at hx
  split at hx
  · rcases List.mem_append.1 hx with hx | hx
    · exact h x (List.mem_of_mem_take hx)
    · exact h x (List.mem_of_mem_drop hx)
  · exact h x hx
theorem setR_length (l : List Rw) (r : Rw) : (setR l r).length ≤ l.length + 1 := by
  unfold setR
  split
  · simp
  · have := atR_le l r.ch
    simp; omega
/-! ### The program -/
theorem indexFunc_Row {C : IV → List Nat → List (List IV) → Option (List IV)} {fv : IV} {p : Rw → Bool} {l : List Rw} (hl : l.length < 2 ^ 16) (hC : ∀ x ∈ l, C fv [1] [eRw x] = some [.bool (p x)]) :
    slices_IndexFunc_Row_s C (eRws l) fv = some [.int .i64 (ixI p l)] := by
  unfold slices_IndexFunc_Row_s
  simp only [ilenL_lst, Option.bind_some]
  rw [iter_search (vs0 := [IV.int .i64 0]) (fun i => [IV.int .i64 (i : Int)]) p 1 (fun i => [IV.int .i64 (i : Int)]) 0 [] l rfl (by have := rounds_eq; omega)]
  · unfold ixI
    cases l.findIdx? p <;> simp
  · intro i x hx
    have hi : i < l.length := (List.getElem?_eq_some_iff.1 hx).1
    have hc := hC x (List.mem_of_getElem? hx)
    unfold slices_IndexFunc_Row_l2
    unfold eRw at hc
    simp only [nth_zero, nth_one, nth_two, nth_three, nth_four, nth_five, ibin_lss, List.length_map, Int.ofNat_lt, at_Rw hx, decide_true, icond_true, Option.bind_some, hc, icond_bool, ibin_succ (show i < 2 ^ 62 by omega), if_true]
    cases p x <;> rfl
  · unfold slices_IndexFunc_Row_l2
    simp
theorem tree_place_eq {l : List Rw} (hl : l.length < 2 ^ 16) (c : Int) : tree_place_s (eRws l) (.int .i64 c) = some [.int .i64 (ixI (isC c) l), .bool (decide (0 ≤ ixI (isC c) l))] := by
  unfold tree_place_s
  rw [indexFunc_Row hl (p := isC c)]
  · simp
  · intro x _
    show tree_place_1_s (.int .i64 x.ch) (.int .i64 x.par) (.str x.nm) (.flt .f64 x.rk) (.ptr [.int .i64 c] 0) = _
    unfold tree_place_1_s
    simp [ipld, isC]
/-- What is found, as cells. -/
def foundI : Option Rw → List IV
  | some x => [.int .i64 x.ch, .int .i64 x.par, .str x.nm, .flt .f64 x.rk, .bool true]
  | none => [.int .i64 0, .int .i64 0, .str ⟨#[]⟩, .flt .f64 0, .bool false]
theorem tree_Find_eq {l : List Rw} (hl : l.length < 2 ^ 16) (c : Int) : tree_Find_s (eRws l) (.int .i64 c) = some (foundI (findR l c)) := by
  unfold tree_Find_s
  rw [tree_place_eq hl, findR_ix]
  cases h : l.findIdx? (isC c) with
  | none => simp [ixI_none h, foundI, icond_dec]
  | some i =>
    obtain ⟨x, hx, _⟩ := findIdx_get h
    simp [ixI_some h, at_Rw hx, icond_dec, hx, foundI]
    have e := (List.getElem?_eq_some_iff.1 hx).2
    simp [e]
theorem insert_Rw {l : List Rw} (hl : l.length < 2 ^ 16) {i : Nat} (hi : i ≤ l.length) (r : Rw) : slices_Insert_Row_s (eRws l) (.int .i64 (i : Int)) (.lst [[.int .i64 r.ch, .int .i64 r.par, .str r.nm, .flt .f64 r.rk]]) = some [eRws (l.take i ++ [r] ++ l.drop i)] := by
  unfold slices_Insert_Row_s
  simp only [insertS]
  rw [if_pos]
  · simp [eRw]
  · refine ⟨by omega, by simp; omega, by simp; omega, rfl⟩
theorem clone_Rw {l : List Rw} (hl : l.length < 2 ^ 16) : slices_Clone_Row_s (eRws l) = some [eRws l] := by
  unfold slices_Clone_Row_s
  simp only [cloneS]
  rw [if_pos]
  refine ⟨by simp; omega, by simp [eRw]⟩
theorem delete_Rw {l : List Rw} (hl : l.length < 2 ^ 16) {i : Nat} (hi : i < l.length) : slices_Delete_Row_s (eRws l) (.int .i64 (i : Int)) (.int .i64 ((i + 1 : Nat) : Int)) = some [eRws (l.take i ++ l.drop (i + 1))] := by
  unfold slices_Delete_Row_s
  simp only [deleteS]
  rw [if_pos]
  · simp
  · refine ⟨by omega, by omega, by simp; omega, by simp; omega⟩
theorem tree_Set_eq {l : List Rw} (hl : l.length < 2 ^ 16) (r : Rw) : tree_Set_s (eRws l) (.int .i64 r.ch) (.int .i64 r.par) (.str r.nm) (.flt .f64 r.rk) = some [eRws (setR l r)] := by
  unfold tree_Set_s setR
  rw [clone_Rw hl]
  simp only [Option.bind_some]
  rw [tree_place_eq hl]
  simp only [Option.bind_some, nth_one, nth_zero, icond_dec]
  cases h : l.findIdx? (isC r.ch) with
  | some i =>
    obtain ⟨x, hx, _⟩ := findIdx_get h
    rw [ixI_some h, if_pos (Int.natCast_nonneg _)]
    simp only [llen_lst, List.length_map, at_Rw hx, Option.bind_some, iset_Rw hx]
  | none =>
    rw [ixI_none h, if_neg (by omega)]
    rw [indexFunc_Row hl (p := fun x => decide (r.ch < x.ch))]
    · simp only [Option.bind_some, nth_zero, ibin_lss, icond_dec, atR]
      cases hh : l.findIdx? (fun x => decide (r.ch < x.ch)) with
      | none =>
        have := insert_Rw hl (Nat.le_refl _) r
        simp [ixI_none hh, this]
      | some i =>
        obtain ⟨hi, _⟩ := List.findIdx?_eq_some_iff_getElem.1 hh
        have := insert_Rw hl (Nat.le_of_lt hi) r
        simp [ixI_some hh, this, show ¬ ((i : Int) < 0) by omega]
    · intro x _
      show tree_Set_1_s (.int .i64 x.ch) (.int .i64 x.par) (.str x.nm) (.flt .f64 x.rk) (.ptr [.int .i64 r.ch, .int .i64 r.par, .str r.nm, .flt .f64 r.rk] 0) = _
      unfold tree_Set_1_s
      simp [ipld, ipnn]
theorem tree_Drop_eq {l : List Rw} (hl : l.length < 2 ^ 16) (c : Int) : tree_Drop_s (eRws l) (.int .i64 c) = some [eRws (dropR l c)] := by
  unfold tree_Drop_s dropR
  rw [tree_place_eq hl]
  simp only [Option.bind_some, nth_one, nth_zero, iun_not, icond_bool]
  cases h : l.findIdx? (isC c) with
  | some i =>
    obtain ⟨x, hx, _⟩ := findIdx_get h
    have hi := (List.getElem?_eq_some_iff.1 hx).1
    rw [ixI_some h]
    simp only [Int.natCast_nonneg, decide_true, Bool.not_true, Bool.false_eq_true, if_false]
    rw [clone_Rw hl]
    simp only [Option.bind_some, nth_zero, ibin_succ (show i < 2 ^ 62 by omega), delete_Rw hl hi]
  | none => rw [ixI_none h]; simp

/-! ### The references -/
theorem ref12_place_eq {l : List Rw} (hl : l.length < 2 ^ 16) (c : Int) : ref12_place_s (eRws l) (.int .i64 c) = some [.int .i64 (ixI (isC c) l)] := by
  unfold ref12_place_s
  rw [iter_search (vs0 := [IV.int .i64 0]) (fun i => [IV.int .i64 (i : Int)]) (isC c) 1 (fun i => [IV.int .i64 (i : Int)]) 0 [] l rfl (by have := rounds_eq; omega)]
  · unfold ixI
    cases l.findIdx? (isC c) <;> simp
  · intro i x hx
    have hi : i < l.length := (List.getElem?_eq_some_iff.1 hx).1
    unfold ref12_place_l2
    simp only [ilenL_lst, Option.bind_some, nth_zero, ibin_lss, List.length_map, Int.ofNat_lt, at_Rw hx, decide_true, icond_true, ibin_eql, icond_dec, ibin_succ (show i < 2 ^ 62 by omega)]
    by_cases h : x.ch = c <;> simp [isC, h]
  · unfold ref12_place_l2
    simp
theorem ref12_Find_eq {l : List Rw} (hl : l.length < 2 ^ 16) (c : Int) : ref12_Find_s (eRws l) (.int .i64 c) = some (foundI (findR l c)) := by
  unfold ref12_Find_s
  rw [ref12_place_eq hl, findR_ix]
  cases h : l.findIdx? (isC c) with
  | none => simp [ixI_none h, foundI, icond_dec]
  | some i =>
    obtain ⟨x, hx, _⟩ := findIdx_get h
    simp [ixI_some h, at_Rw hx, icond_dec, hx, foundI, show ¬ ((i : Int) < 0) by omega]
    have e := (List.getElem?_eq_some_iff.1 hx).2
    simp [e]
theorem iapp_Rw {l k : List Rw} (hl : l.length < 2 ^ 20) (hk : k.length < 2 ^ 20) : iapp 4 40 (eRws l) (eRws k) = some (eRws (l ++ k)) := by
  simp only [iapp]
  rw [if_pos]
  · simp
  · refine ⟨by simp; omega, by simp [eRw]⟩
theorem islcL_hiR {l : List Rw} {i : Nat} (hi : i ≤ l.length) : islcL 4 (eRws l) none (some (.int .i64 (i : Int))) = some (eRws (l.take i)) := by
  have h : (l.map eRw).all (fun e => e.length == 4) = true := by simp [eRw]
  simp only [islcL, h, if_true, ibnds, bnd, List.length_map]
  rw [if_pos ⟨by omega, by omega⟩]
  simp
theorem islcL_loR {l : List Rw} {i : Nat} (hi : i ≤ l.length) : islcL 4 (eRws l) (some (.int .i64 (i : Int))) none = some (eRws (l.drop i)) := by
  have h : (l.map eRw).all (fun e => e.length == 4) = true := by simp [eRw]
  simp only [islcL, h, if_true, ibnds, bnd, List.length_map, Option.bind_some]
  rw [if_pos ⟨by omega, by omega⟩]
  simp [List.map_drop]
  rw [List.take_of_length_le (by simp)]
/-- Where no row is the node's, the first that is not ahead of it is the first behind it. -/
theorem atR_not {l : List Rw} {c : Int} (h : l.findIdx? (isC c) = none) : (l.findIdx? fun x => !decide (x.ch < c)) = l.findIdx? fun x => decide (c < x.ch) := by
  rw [List.findIdx?_eq_none_iff] at h
  induction l with
  | nil => rfl
  | cons x l ih =>
    have hx := h x List.mem_cons_self
    have hne : x.ch ≠ c := by simpa [isC] using hx
    have e : (!decide (x.ch < c)) = decide (c < x.ch) := by
      by_cases h1 : x.ch < c
      · have : ¬ c < x.ch := by omega
        simp [h1, this]
      · have : c < x.ch := by omega
        simp [h1, this]
    simp only [List.findIdx?_cons, e, ih fun y hy => h y (List.mem_cons_of_mem _ hy)]
theorem ref12_Set_eq {l : List Rw} (hl : l.length < 2 ^ 16) (r : Rw) : ref12_Set_s (eRws l) (.int .i64 r.ch) (.int .i64 r.par) (.str r.nm) (.flt .f64 r.rk) = some [eRws (setR l r)] := by
  unfold ref12_Set_s setR
  rw [ref12_place_eq hl]
  simp only [Option.bind_some, nth_zero, ibin_geq, icond_dec]
  have h0 : iapp 4 40 (.lst []) (eRws l) = some (eRws l) := by
    have := iapp_Rw (l := []) (k := l) (by simp) (by omega)
    exact this
  cases h : l.findIdx? (isC r.ch) with
  | some i =>
    obtain ⟨x, hx, _⟩ := findIdx_get h
    rw [ixI_some h, if_pos (Int.natCast_nonneg _), h0]
    simp only [Option.bind_some, llen_lst, List.length_map, at_Rw hx, iset_Rw hx]
  | none =>
    rw [ixI_none h, if_neg (by omega)]
    rw [iter_search (vs0 := [IV.int .i64 0]) (fun i => [IV.int .i64 (i : Int)]) (fun x : Rw => !decide (x.ch < r.ch)) 0 (fun i => [IV.int .i64 (i : Int)]) 0 [IV.int .i64 (l.length : Int)] l rfl (by have := rounds_eq; omega)]
    · have key : ∀ i : Nat, i ≤ l.length → ((islcL 4 (eRws l) none (some (.int .i64 (i : Int)))).bind fun v15 => (iapp 4 40 (.lst []) v15).bind fun v16 => (iapp 4 40 v16 (.lst [[.int .i64 r.ch, .int .i64 r.par, .str r.nm, .flt .f64 r.rk]])).bind fun v17 => (islcL 4 (eRws l) (some (.int .i64 (i : Int))) none).bind fun v18 => (iapp 4 40 v17 v18).bind fun v19 => some [v19]) = some [eRws (l.take i ++ [r] ++ l.drop i)] := by
        intro i hi
        rw [islcL_hiR hi, islcL_loR hi]
        simp only [Option.bind_some]
        have h1 : iapp 4 40 (.lst []) (eRws (l.take i)) = some (eRws (l.take i)) := by
          have := iapp_Rw (l := []) (k := l.take i) (by simp) (by simp; omega)
          exact this
        have h2 : iapp 4 40 (eRws (l.take i)) (.lst [[.int .i64 r.ch, .int .i64 r.par, .str r.nm, .flt .f64 r.rk]]) = some (eRws (l.take i ++ [r])) := iapp_Rw (l := l.take i) (k := [r]) (by simp; omega) (by simp)
        have h3 := iapp_Rw (l := l.take i ++ [r]) (k := l.drop i) (by simp; omega) (by simp; omega)
        rw [h1]
        simp only [Option.bind_some, h2, h3]
      rw [atR_not h]
      unfold atR
      cases hh : l.findIdx? fun x => decide (r.ch < x.ch) with
      | none => simp only [Option.bind_some, sel_zero, nth_zero, Option.getD_none]; exact key _ (Nat.le_refl _)
      | some i => simp only [Option.bind_some, sel_zero, nth_zero, Option.getD_some]; exact key i (Nat.le_of_lt (List.findIdx?_eq_some_iff_getElem.1 hh).1)
    · intro i x hx
      have hi : i < l.length := (List.getElem?_eq_some_iff.1 hx).1
      unfold ref12_Set_l7
      simp only [ilenL_lst, Option.bind_some, nth_zero, ibin_lss, List.length_map, Int.ofNat_lt, at_Rw hx, decide_true, icond_true, icond_dec, ibin_succ (show i < 2 ^ 62 by omega), if_true]
      by_cases h : x.ch < r.ch <;> simp [h, at_Rw hx]
    · unfold ref12_Set_l7
      simp
def keyR (r : Rw) : Int × Int × List UInt8 × Nat := (r.ch, r.par, r.nm.toList, bitsN r.rk)
def sameR (a b : List Rw) : Bool := decide (a.map keyR = b.map keyR)
theorem ref12_AlikeR {a b : Rw} (h : a.rk < 2 ^ 64) (h' : b.rk < 2 ^ 64) : ref12_Alike_s (.int .i64 a.ch) (.int .i64 a.par) (.str a.nm) (.flt .f64 a.rk) (.int .i64 b.ch) (.int .i64 b.par) (.str b.nm) (.flt .f64 b.rk) = some [.bool (decide (keyR a = keyR b))] := by
  rw [ref12_Alike_eq h h']
  simp [keyR, Prod.mk.injEq]
theorem ref12_Same_eq {a b : List Rw} (ha : a.length < 2 ^ 16) (hfa : ∀ r ∈ a, r.rk < 2 ^ 64) (hfb : ∀ r ∈ b, r.rk < 2 ^ 64) : ref12_Same_s (eRws a) (eRws b) = some [.bool (sameR a b)] := by
  unfold ref12_Same_s sameR
  simp only [ilenL_lst, Option.bind_some, ibin_neq, List.length_map, icond_dec]
  by_cases hlen : a.length = b.length
  · rw [if_neg (by omega)]
    rw [iter_check (vs0 := [.int .i64 0]) (fun i => [IV.int .i64 (i : Int)]) (fun i x => decide ((b[i]?).map keyR ≠ some (keyR x))) 1 [.bool false] 0 [] a rfl (by have := rounds_eq; omega), any_keys hlen (b0 := b) (fun i => by rw [Nat.zero_add])]
    · by_cases h : a.map keyR = b.map keyR <;> simp [h]
    · intro i x hx
      have hi : i < a.length := (List.getElem?_eq_some_iff.1 hx).1
      have hy : b[i]? = some (b[i]'(by omega)) := List.getElem?_eq_getElem (by omega)
      generalize b[i]'(by omega) = y at hy
      have hk := ref12_AlikeR (hfa x (List.mem_of_getElem? hx)) (hfb y (List.mem_of_getElem? hy))
      unfold ref12_Same_l4
      simp only [ilenL_lst, Option.bind_some, nth_zero, nth_one, nth_two, nth_three, nth_four, nth_five, ibin_lss, List.length_map, Int.ofNat_lt, at_Rw hx, at_Rw hy, decide_true, icond_true, hk, iun_not, icond_bool, ibin_succ (show i < 2 ^ 62 by omega), hy, Option.map_some, if_true]
      by_cases h : keyR x = keyR y
      · simp [h]
      · have : ¬ keyR y = keyR x := fun e => h e.symm
        simp [h, this]
    · unfold ref12_Same_l4
      simp
  · rw [if_pos (by omega)]
    have : ¬ a.map keyR = b.map keyR := fun h => hlen (by have := congrArg List.length h; simpa using this)
    simp [this]
theorem sameR_refl (a : List Rw) : sameR a a = true := by simp [sameR]
def fewR (l : List Rw) : Bool := decide (l.length ≤ 60) && !l.any fun r => decide (100 < r.nm.size)
theorem ref12_Few_eq (l : List Rw) : ref12_Few_s (eRws l) = some [.bool (fewR l)] := by
  unfold ref12_Few_s fewR
  simp only [ilenL_lst, Option.bind_some, ibin_gtr, List.length_map, icond_dec]
  by_cases h : l.length ≤ 60
  · rw [if_neg (by omega)]
    rw [iter_check (vs0 := [.int .i64 0]) (fun i => [IV.int .i64 (i : Int)]) (fun _ (r : Rw) => decide (100 < r.nm.size)) 1 [.bool false] 0 [] l rfl (by have := rounds_eq; omega), anyI_any]
    · cases hh : l.any fun r => decide (100 < r.nm.size) <;> simp [h]
    · intro i x hx
      have hi : i < l.length := (List.getElem?_eq_some_iff.1 hx).1
      unfold ref12_Few_l4
      simp only [ilenL_lst, ilenS_str, Option.bind_some, nth_zero, ibin_lss, ibin_gtr, List.length_map, Int.ofNat_lt, at_Rw hx, decide_true, icond_true, icond_dec, ibin_succ (show i < 2 ^ 62 by omega), if_true]
      by_cases h2 : 100 < x.nm.size
      · have : (100 : Int) < (x.nm.size : Int) := by omega
        simp [h2, this]
      · have : ¬ (100 : Int) < (x.nm.size : Int) := by omega
        simp [h2, this]
    · unfold ref12_Few_l4
      simp
  · rw [if_pos (by omega)]
    simp [h]
end Go.AM
/- Rows, plainly: who is above. -/
set_option linter.unusedVariables false
set_option linter.unusedSimpArgs false
namespace Go.AM

/-! ### Going up -/
theorem upto_mono {f : Int → Option Int} : ∀ {n m : Nat} {b : Int}, n ≤ m → ∀ x, x ∈ upto f n b → x ∈ upto f m b
  | 0, m, b, _, x, h => by simp [upto] at h
  | n + 1, m + 1, b, hle, x, h => by
    unfold upto at h ⊢
    split
    · rename_i hb; rw [hb] at h; exact h
    · rename_i y hb
      rw [hb] at h
      rcases List.mem_cons.1 h with rfl | h
      · exact List.mem_cons_self
      · exact List.mem_cons_of_mem _ (upto_mono (by omega) x h)
/-- The node after so many steps. -/
def nodeAt (f : Int → Option Int) : Nat → Int → Option Int
  | 0, b => some b
  | n + 1, b => (f b).bind fun y => nodeAt f n y
theorem mem_upto {f : Int → Option Int} : ∀ {n : Nat} {b x : Int}, x ∈ upto f n b ↔ ∃ k, k < n ∧ nodeAt f (k + 1) b = some x
  | 0, b, x => by simp [upto]
  | n + 1, b, x => by
    unfold upto
    cases hb : f b with
    | none =>
      simp only [List.not_mem_nil, false_iff, not_exists, not_and]
      intro k _ h
      simp [nodeAt, hb] at h
    | some y =>
      simp only [List.mem_cons]
      rw [mem_upto]
      constructor
      · rintro (rfl | ⟨k, hk, h⟩)
        · exact ⟨0, by omega, by simp [nodeAt, hb]⟩
        · exact ⟨k + 1, by omega, by rw [nodeAt, hb]; exact h⟩
      · rintro ⟨k, hk, h⟩
        rw [nodeAt, hb] at h
        cases k with
        | zero => left; simpa [nodeAt] using h.symm
        | succ k => right; exact ⟨k, by omega, h⟩
theorem nodeAt_add {f : Int → Option Int} : ∀ (j : Nat) {k : Nat} {b : Int}, nodeAt f (j + k) b = (nodeAt f j b).bind (nodeAt f k)
  | 0, k, b => by simp [nodeAt]
  | j + 1, k, b => by
    rw [show j + 1 + k = (j + k) + 1 by omega, nodeAt, nodeAt]
    cases f b with
    | none => rfl
    | some y => simp only [Option.bind_some]; exact nodeAt_add j
theorem nodeAt_some {f : Int → Option Int} {n : Nat} {b x : Int} (h : nodeAt f n b = some x) : ∀ k, k ≤ n → ∃ y, nodeAt f k b = some y := by
  intro k hk
  have : nodeAt f (k + (n - k)) b = some x := by rw [show k + (n - k) = n by omega]; exact h
  rw [nodeAt_add] at this
  obtain ⟨y, h1, _⟩ := Option.bind_eq_some_iff.1 this
  exact ⟨y, h1⟩
/-- Two numbers below a bound at which a function with few values is the same. -/
theorem pigeon {K : List Int} (g : Nat → Int) : ∀ n, K.length < n → (∀ i, i < n → g i ∈ K) → ∃ i j, i < j ∧ j < n ∧ g i = g j := by
  induction K generalizing g with
  | nil => intro n hn h; exact absurd (h 0 (by simpa using hn)) (by simp)
  | cons x K ih =>
    intro n hn h
    by_cases hx : ∃ i j, i < j ∧ j < n ∧ g i = g j
    · exact hx
    · exfalso
      -- leave out the place at which it is x
      have : ∃ i0, i0 < n ∧ (∀ i, i < n → g i = x → i = i0) := by
        by_cases h0 : ∃ i, i < n ∧ g i = x
        · obtain ⟨i0, h1, h2⟩ := h0
          refine ⟨i0, h1, fun i hi he => ?_⟩
          rcases Nat.lt_trichotomy i i0 with hl | hl | hl
          · exact absurd ⟨i, i0, hl, h1, he.trans h2.symm⟩ hx
          · exact hl
          · exact absurd ⟨i0, i, hl, hi, h2.trans he.symm⟩ hx
        · exact ⟨0, by simp at hn; omega, fun i hi he => absurd ⟨i, hi, he⟩ h0⟩
      obtain ⟨i0, h1, h2⟩ := this
      obtain ⟨i, j, h3, h4, h5⟩ := ih (fun i => g (if i < i0 then i else i + 1)) (n - 1) (by simp at hn; omega) (fun i hi => by
        have hlt : (if i < i0 then i else i + 1) < n := by split <;> omega
        rcases List.mem_cons.1 (h _ hlt) with he | he
        · have := h2 _ hlt he
          split at this <;> omega
        · exact he)
      refine hx ⟨if i < i0 then i else i + 1, if j < i0 then j else j + 1, ?_, ?_, h5⟩
      · split <;> split <;> omega
      · split <;> omega
/-- As many steps as there are nodes with a way on are enough. -/
theorem nodeAt_short {f : Int → Option Int} {K : List Int} (hK : ∀ x, (f x).isSome = true → x ∈ K) {b x : Int} : ∀ n, nodeAt f (n + 1) b = some x → ∃ k, k < K.length ∧ nodeAt f (k + 1) b = some x := by
  intro n
  induction n using Nat.strongRecOn with
  | ind n ih =>
    intro h
    by_cases hn : n < K.length
    · exact ⟨n, hn, h⟩
    · have hg : ∀ i, i < n + 1 → ∃ y, nodeAt f i b = some y ∧ y ∈ K := by
        intro i hi
        obtain ⟨y, hy⟩ := nodeAt_some h i (by omega)
        obtain ⟨z, hz⟩ := nodeAt_some h (i + 1) (by omega)
        rw [nodeAt_add, hy] at hz
        simp only [Option.bind_some, nodeAt] at hz
        refine ⟨y, hy, hK y ?_⟩
        cases hf : f y with
        | none => rw [hf] at hz; simp at hz
        | some _ => rfl
      obtain ⟨i, j, h1, h2, h3⟩ := pigeon (K := K) (fun i => (nodeAt f i b).getD 0) (n + 1) (by omega) (fun i hi => by
        obtain ⟨y, hy, hk⟩ := hg i hi
        rw [hy]; exact hk)
      obtain ⟨yi, hi, _⟩ := hg i (by omega)
      obtain ⟨yj, hj, _⟩ := hg j h2
      rw [hi, hj] at h3
      simp only [Option.getD_some] at h3
      subst h3
      have : nodeAt f (i + (n - j) + 1) b = some x := by
        rw [show i + (n - j) + 1 = i + (n + 1 - j) by omega, nodeAt_add, hi]
        have h4 : nodeAt f (j + (n + 1 - j)) b = some x := by rw [show j + (n + 1 - j) = n + 1 by omega]; exact h
        rw [nodeAt_add, hj] at h4
        exact h4
      exact ih (i + (n - j)) (by omega) this
theorem upto_enough {f : Int → Option Int} {K : List Int} (hK : ∀ x, (f x).isSome = true → x ∈ K) {b : Int} {n : Nat} (hn : K.length ≤ n) (x : Int) : x ∈ upto f n b ↔ x ∈ upto f K.length b := by
  constructor
  · intro h
    obtain ⟨k, _, h1⟩ := mem_upto.1 h
    obtain ⟨j, hj, h2⟩ := nodeAt_short hK k h1
    exact mem_upto.2 ⟨j, hj, h2⟩
  · exact upto_mono hn x

/-! ### Above -/
def prR (r : Rw) : Int × Int := (r.ch, r.par)
def upR (l : List Rw) : Int → Option Int := lkp (l.map prR)
def aboveV (l : List Rw) (a b : Int) : Bool := (upto (upR l) l.length b).contains a
theorem upR_find (l : List Rw) (c : Int) : upR l c = (findR l c).map (·.par) := by
  unfold upR lkp findR
  induction l with
  | nil => rfl
  | cons x l ih =>
    simp only [List.map_cons, List.find?_cons]
    have e : ((prR x).1 == c) = isC c x := by unfold prR isC; by_cases h : x.ch = c <;> simp [h]
    rw [e]
    cases isC c x with
    | true => rfl
    | false => exact ih

theorem contains_iff {l : List Int} {x : Int} : l.contains x = true ↔ x ∈ l := by simp
theorem rowI_eRw {r : Rw} (h : OKr r) : rowI (eRw r) = some (prR r) := by
  unfold rowI eRw
  simp only
  rw [if_pos ⟨in64_wf h.ch, in64_wf h.par⟩]
  rfl
theorem mapM_rowI : ∀ {l : List Rw}, OKl l → (l.map eRw).mapM rowI = some (l.map prR)
  | [], _ => rfl
  | r :: l, h => by
    rw [List.map_cons, List.mapM_cons, rowI_eRw (h r List.mem_cons_self), mapM_rowI fun x hx => h x (List.mem_cons_of_mem _ hx)]
    rfl
theorem upto_wide (l : List Rw) (a b : Int) : (upto (lkp (l.map prR)) (ksof (l.map prR)).length b).contains a = aboveV l a b := by
  unfold aboveV upR
  have h := upto_enough (f := lkp (l.map prR)) (K := ksof (l.map prR)) (fun x hx => (mem_ksof _ x).2 hx) (b := b) (n := l.length) (by have := ksof_le (l.map prR); simpa using this) a
  cases h1 : (upto (lkp (l.map prR)) (ksof (l.map prR)).length b).contains a <;> cases h2 : (upto (lkp (l.map prR)) l.length b).contains a <;> simp_all
theorem tree_Above_eq {l : List Rw} (hl : l.length < 2 ^ 16) (ho : OKl l) (a : Int) {b : Int} (hb : in64 b) : tree_Above_s (eRws l) (.int .i64 a) (.int .i64 b) = some [.bool (aboveV l a b)] := by
  unfold tree_Above_s aboveS
  simp only [List.length_map]
  rw [if_pos ⟨by omega, in64_wf hb⟩, mapM_rowI ho, Option.map_some, upto_wide]
theorem ref12_Above_eq {l : List Rw} (hl : l.length < 2 ^ 16) (a b : Int) : ref12_Above_s (eRws l) (.int .i64 a) (.int .i64 b) = some [.bool (aboveV l a b)] := by
  unfold ref12_Above_s
  have key : ∀ (k n m : Nat) (b : Int), n + k = l.length → k < m → ∃ e o, iter m (ref12_Above_l2 (eRws l) (.int .i64 a)) [.int .i64 b, .int .i64 (n : Int)] = some (e, o) ∧
      ((e = 1 ∧ o = [.bool ((upto (upR l) k b).contains a)]) ∨ (e = 0 ∧ o = [] ∧ (upto (upR l) k b).contains a = false)) := by
    intro k
    induction k with
    | zero =>
      intro n m b hn hm
      obtain ⟨m, rfl⟩ : ∃ m', m = m' + 1 := ⟨m - 1, by omega⟩
      refine ⟨0, [], iter_done m ?_, .inr ⟨rfl, rfl, by simp [upto]⟩⟩
      unfold ref12_Above_l2
      have : ¬ n < l.length := by omega
      simp [this]
    | succ k ih =>
      intro n m b hn hm
      obtain ⟨m, rfl⟩ : ∃ m', m = m' + 1 := ⟨m - 1, by omega⟩
      have hlt : n < l.length := by omega
      have hfind := ref12_Find_eq hl b
      cases hf : findR l b with
      | none =>
        refine ⟨1, [.bool false], iter_done m ?_, .inl ⟨rfl, ?_⟩⟩
        · unfold ref12_Above_l2
          simp [hlt, hfind, hf, foundI]
        · simp [upto, upR_find, hf]
      | some r =>
        by_cases hp : r.par = a
        · refine ⟨1, [.bool true], iter_done m ?_, .inl ⟨rfl, ?_⟩⟩
          · unfold ref12_Above_l2
            simp [hlt, hfind, hf, foundI, hp]
          · simp [upto, upR_find, hf, hp]
        · obtain ⟨e, o, h1, h2⟩ := ih (n + 1) m r.par (by omega) (by omega)
          have hu : (upto (upR l) (k + 1) b).contains a = (upto (upR l) k r.par).contains a := by
            have : ¬ a = r.par := fun e => hp e.symm
            simp [upto, upR_find, hf, this]
          refine ⟨e, o, ?_, by rw [hu]; exact h2⟩
          rw [iter]
          have hstep : ref12_Above_l2 (eRws l) (.int .i64 a) [.int .i64 b, .int .i64 (n : Int)] = some (.next [.int .i64 r.par, .int .i64 ((n + 1 : Nat) : Int)]) := by
            unfold ref12_Above_l2
            simp [hlt, hfind, hf, foundI, hp, ibin_succ (show n < 2 ^ 62 by omega)]
          rw [hstep]
          exact h1
  obtain ⟨e, o, h1, h2⟩ := key l.length 0 rounds b (by omega) (by have := rounds_eq; omega)
  rw [show (IV.int .i64 0) = IV.int .i64 ((0 : Nat) : Int) from rfl, h1]
  rcases h2 with ⟨rfl, rfl⟩ | ⟨rfl, rfl, h3⟩
  · simp [aboveV]
  · simp [aboveV] at h3 ⊢; exact h3

/-! ### Moves -/
def barV (l : List Rw) (m : Mv) : Bool := decide (m.ch = 0) || decide (m.ch = m.par) || aboveV l m.ch m.par
structure OKm (m : Mv) : Prop where
  rk : m.rk < 2 ^ 64
  ch : in64 m.ch
  par : in64 m.par
def rowOf (m : Mv) : Rw := ⟨m.ch, m.par, m.nm, m.rk⟩
theorem OKm.row {m : Mv} (h : OKm m) : OKr (rowOf m) := ⟨h.rk, h.ch, h.par⟩
def doV (l : List Rw) (m : Mv) : List Rw := if barV l m = true then l else setR l (rowOf m)
theorem OKl.doV {l : List Rw} {m : Mv} (h : OKl l) (hm : OKm m) : OKl (doV l m) := by
  unfold AM.doV
  split
  · exact h
  · exact h.set hm.row
theorem doV_length (l : List Rw) (m : Mv) : (doV l m).length ≤ l.length + 1 := by
  unfold doV
  split
  · omega
  · exact setR_length _ _
theorem fold_Barred_eq {l : List Rw} (hl : l.length < 2 ^ 16) (ho : OKl l) {m : Mv} (hm : OKm m) : fold_Barred_s (eRws l) (.int .i64 m.c) (.int .i64 m.r) (.int .i64 m.par) (.int .i64 m.ch) (.str m.nm) (.flt .f64 m.rk) = some [.bool (barV l m)] := by
  unfold fold_Barred_s barV
  simp only [ibin_eql, Option.bind_some, icond_dec]
  by_cases h1 : m.ch = 0
  · simp [h1]
  · by_cases h2 : m.ch = m.par
    · simp [h1, h2]
    · simp only [h1, h2, if_false, tree_Above_eq hl ho m.ch hm.par, Option.bind_some, nth_zero, scal_bool, scal_nil, Option.map_some, decide_false, Bool.false_or]
theorem ref14_Barred_eq {l : List Rw} (hl : l.length < 2 ^ 16) (m : Mv) : ref14_Barred_s (eRws l) (.int .i64 m.c) (.int .i64 m.r) (.int .i64 m.par) (.int .i64 m.ch) (.str m.nm) (.flt .f64 m.rk) = some [.bool (barV l m)] := by
  unfold ref14_Barred_s barV
  simp only [ibin_eql, Option.bind_some, icond_dec]
  by_cases h2 : m.ch = m.par
  · by_cases h1 : m.ch = 0 <;> simp [h2]
  · by_cases h1 : m.ch = 0
    · simp [h1, h2]
    · simp only [h1, h2, if_false, ref12_Above_eq hl m.ch m.par, Option.bind_some, nth_zero, scal_bool, scal_nil, Option.map_some, decide_false, Bool.false_or]
theorem fold_Do_eq {l : List Rw} (hl : l.length < 2 ^ 16) (ho : OKl l) {m : Mv} (hm : OKm m) : fold_Do_s (eRws l) (.int .i64 m.c) (.int .i64 m.r) (.int .i64 m.par) (.int .i64 m.ch) (.str m.nm) (.flt .f64 m.rk) = some [eRws (doV l m), .bool (!barV l m)] := by
  unfold fold_Do_s doV
  simp only [fold_Barred_eq hl ho hm, Option.bind_some, nth_zero, icond_bool]
  cases h : barV l m with
  | true => simp
  | false =>
    have := tree_Set_eq hl (rowOf m)
    simp only [rowOf] at this
    simp only [Bool.false_eq_true, if_false, moves_Row_eq m, Option.bind_some, nth_zero, nth_one, nth_two, nth_three, this, Bool.not_false]
    rfl
theorem ref14_Do_eq {l : List Rw} (hl : l.length < 2 ^ 16) (m : Mv) : ref14_Do_s (eRws l) (.int .i64 m.c) (.int .i64 m.r) (.int .i64 m.par) (.int .i64 m.ch) (.str m.nm) (.flt .f64 m.rk) = some [eRws (doV l m), .bool (!barV l m)] := by
  unfold ref14_Do_s doV
  simp only [ref14_Barred_eq hl m, Option.bind_some, nth_zero, icond_bool]
  cases h : barV l m with
  | true => simp
  | false =>
    have := ref12_Set_eq hl (rowOf m)
    simp only [rowOf] at this
    simp only [Bool.false_eq_true, if_false, ref13_Row_eq m, Option.bind_some, nth_zero, nth_one, nth_two, nth_three, this, Bool.not_false]
    rfl
/-- What a run leaves. -/
def allV (l : List Rw) (ms : List Mv) : List Rw := ms.foldl doV l
theorem OKl.allV : ∀ {ms : List Mv} {l : List Rw}, OKl l → (∀ m ∈ ms, OKm m) → OKl (allV l ms)
  | [], l, h, _ => h
  | m :: ms, l, h, hm => OKl.allV (ms := ms) (h.doV (hm m List.mem_cons_self)) fun x hx => hm x (List.mem_cons_of_mem _ hx)
theorem allV_length : ∀ (ms : List Mv) (l : List Rw), (allV l ms).length ≤ l.length + ms.length
  | [], l => Nat.le_refl _
  | m :: ms, l => by
    have h1 := allV_length ms (doV l m)
    have h2 := doV_length l m
    show (allV (doV l m) ms).length ≤ _
    simp only [List.length_cons]
    omega
theorem allV_append (l : List Rw) (a b : List Mv) : allV l (a ++ b) = allV (allV l a) b := List.foldl_append
theorem fold_All_eq {l : List Rw} {ms : List Mv} (hl : l.length + ms.length < 2 ^ 16) (ho : OKl l) (hm : ∀ m ∈ ms, OKm m) : fold_All_s (eRws l) (eMvs ms) = some [eRws (allV l ms)] := by
  unfold fold_All_s
  simp only [ilenL_lst, Option.bind_some]
  rw [iter_fold (vs0 := [eRws l, .int .i64 0]) (fun i (s : List Rw) => [eRws s, .int .i64 (i : Int)]) doV 0 (fun s => [eRws s]) (fun i s => OKl s ∧ s.length ≤ l.length + i) ms l rfl (by have := rounds_eq; omega) ⟨ho, by omega⟩]
  · simp [allV]
  · intro i s x hx hI
    have hi : i < ms.length := (List.getElem?_eq_some_iff.1 hx).1
    have hxm := hm x (List.mem_of_getElem? hx)
    refine ⟨⟨hI.1.doV hxm, by have := doV_length s x; omega⟩, ?_⟩
    unfold fold_All_l2
    have hd := fold_Do_eq (l := s) (by omega) hI.1 hxm
    simp only [nth_zero, nth_one, nth_two, nth_three, nth_four, nth_five, ibin_lss, List.length_map, Int.ofNat_lt, hi, at_Mv hx, decide_true, icond_true, Option.bind_some, hd, ibin_succ (show i < 2 ^ 62 by omega)]
  · intro s _
    unfold fold_All_l2
    simp
end Go.AM

/- Steps, plainly: what undo's functions and their references do. -/
set_option linter.unusedVariables false
set_option linter.unusedSimpArgs false
namespace Go.AM

structure Stp where
  mv : Mv
  moved : Bool
  had : Bool
  old : Rw
def eStp (s : Stp) : List IV := [.int .i64 s.mv.c, .int .i64 s.mv.r, .int .i64 s.mv.par, .int .i64 s.mv.ch, .str s.mv.nm, .flt .f64 s.mv.rk, .bool s.moved, .bool s.had, .int .i64 s.old.ch, .int .i64 s.old.par, .str s.old.nm, .flt .f64 s.old.rk]
abbrev eStps (l : List Stp) : IV := .lst (l.map eStp)
theorem at_Stp {l : List Stp} {i : Nat} {s : Stp} (h : l[i]? = some s) : i < l.length ∧ iidx (eStps l) (.int .i64 (i : Int)) 12 = some i ∧ ildN (eStps l) i 0 12 = some (eStp s) ∧ ild (eStps l) i 4 = some (.str s.mv.nm) ∧ ild (eStps l) i 10 = some (.str s.old.nm) ∧ ildN (eStps l) i 0 6 = some [.int .i64 s.mv.c, .int .i64 s.mv.r, .int .i64 s.mv.par, .int .i64 s.mv.ch, .str s.mv.nm, .flt .f64 s.mv.rk] :=
  ⟨(List.getElem?_eq_some_iff.1 h).1, iidx_map h rfl (by decide), ildN_map h rfl, ild_map h, ild_map h, by
    simp only [ildN, List.getElem?_map, h, Option.map_some, Option.bind_some, eStp, List.length_cons, List.length_nil]
    rw [if_pos (by decide)]
    rfl⟩
structure OKs (s : Stp) : Prop where
  mv : OKm s.mv
  old : OKr s.old
def zeroRw : Rw := ⟨0, 0, ⟨#[]⟩, 0⟩
theorem OKr.zero : OKr zeroRw := ⟨by decide, by unfold in64 zeroRw; decide, by unfold in64 zeroRw; decide⟩
def stepV (l : List Rw) (m : Mv) : Stp :=
  if barV l m = true then ⟨m, false, false, zeroRw⟩ else match findR l m.ch with | some x => ⟨m, true, true, x⟩ | none => ⟨m, true, false, zeroRw⟩
theorem findR_ok {l : List Rw} (h : OKl l) {c : Int} {x : Rw} (hx : findR l c = some x) : OKr x := h x (List.mem_of_find?_eq_some hx)
theorem OKs.step {l : List Rw} (h : OKl l) {m : Mv} (hm : OKm m) : OKs (stepV l m) := by
  unfold stepV
  split
  · exact ⟨hm, .zero⟩
  · split
    · rename_i x hx; exact ⟨hm, findR_ok h hx⟩
    · exact ⟨hm, .zero⟩
theorem stepV_mv (l : List Rw) (m : Mv) : (stepV l m).mv = m := by
  unfold stepV
  split
  · rfl
  · split <;> rfl
theorem undo_Do_eq {l : List Rw} (hl : l.length < 2 ^ 16) (ho : OKl l) {m : Mv} (hm : OKm m) : undo_Do_s (eRws l) (.int .i64 m.c) (.int .i64 m.r) (.int .i64 m.par) (.int .i64 m.ch) (.str m.nm) (.flt .f64 m.rk) = some (eRws (doV l m) :: eStp (stepV l m)) := by
  unfold undo_Do_s stepV
  simp only [fold_Do_eq hl ho hm, Option.bind_some, nth_zero, nth_one, icond_bool]
  cases h : barV l m with
  | true => simp [eStp, zeroRw]
  | false =>
    simp only [Bool.not_false, if_true, Bool.false_eq_true, if_false, tree_Find_eq hl, Option.bind_some]
    cases hf : findR l m.ch with
    | none => simp [foundI, eStp, zeroRw]
    | some x => simp [foundI, eStp]
theorem ref15_Do_eq {l : List Rw} (hl : l.length < 2 ^ 16) (m : Mv) : ref15_Do_s (eRws l) (.int .i64 m.c) (.int .i64 m.r) (.int .i64 m.par) (.int .i64 m.ch) (.str m.nm) (.flt .f64 m.rk) = some (eRws (doV l m) :: eStp (stepV l m)) := by
  unfold ref15_Do_s stepV
  simp only [ref14_Do_eq hl m, Option.bind_some, nth_zero, nth_one, icond_bool]
  cases h : barV l m with
  | true => simp [eStp, zeroRw]
  | false =>
    simp only [Bool.not_false, if_true, Bool.false_eq_true, if_false, ref12_Find_eq hl, Option.bind_some]
    cases hf : findR l m.ch with
    | none => simp [foundI, eStp, zeroRw]
    | some x => simp [foundI, eStp]
def undoV (l : List Rw) (s : Stp) : List Rw := if s.moved = true then (if s.had = true then setR l s.old else dropR l s.mv.ch) else l
theorem OKl.undo {l : List Rw} (h : OKl l) {s : Stp} (hs : OKs s) : OKl (undoV l s) := by
  unfold undoV
  split
  · split
    · exact h.set hs.old
    · exact h.drop
  · exact h
theorem undo_Undo_eq {l : List Rw} (hl : l.length < 2 ^ 16) (s : Stp) : undo_Undo_s (eRws l) (.int .i64 s.mv.c) (.int .i64 s.mv.r) (.int .i64 s.mv.par) (.int .i64 s.mv.ch) (.str s.mv.nm) (.flt .f64 s.mv.rk) (.bool s.moved) (.bool s.had) (.int .i64 s.old.ch) (.int .i64 s.old.par) (.str s.old.nm) (.flt .f64 s.old.rk) = some [eRws (undoV l s)] := by
  unfold undo_Undo_s undoV
  simp only [iun_not, Option.bind_some, icond_bool, tree_Set_eq hl s.old, tree_Drop_eq hl, nth_zero]
  cases s.moved <;> cases s.had <;> simp
/-! ### Runs -/
def runV (p : List Rw × List Stp) (m : Mv) : List Rw × List Stp := (doV p.1 m, p.2 ++ [stepV p.1 m])
def stepsV : List Rw → List Mv → List Stp
  | _, [] => []
  | l, m :: ms => stepV l m :: stepsV (doV l m) ms
theorem runV_eq : ∀ (ms : List Mv) (l : List Rw) (k : List Stp), ms.foldl runV (l, k) = (allV l ms, k ++ stepsV l ms)
  | [], l, k => by simp [allV, stepsV]
  | m :: ms, l, k => by
    rw [List.foldl_cons]
    show ms.foldl runV (doV l m, k ++ [stepV l m]) = _
    rw [runV_eq ms]
    simp [allV, stepsV]
theorem stepsV_length : ∀ (ms : List Mv) (l : List Rw), (stepsV l ms).length = ms.length
  | [], _ => rfl
  | m :: ms, l => by simp [stepsV, stepsV_length ms]
theorem stepsV_mv : ∀ (ms : List Mv) (l : List Rw), (stepsV l ms).map (·.mv) = ms
  | [], _ => rfl
  | m :: ms, l => by simp [stepsV, stepsV_mv ms, stepV_mv]
theorem stepsV_append : ∀ (a b : List Mv) (l : List Rw), stepsV l (a ++ b) = stepsV l a ++ stepsV (allV l a) b
  | [], _, _ => rfl
  | m :: a, b, l => by simp [stepsV, stepsV_append a b, allV]
theorem OKs.steps : ∀ {ms : List Mv} {l : List Rw}, OKl l → (∀ m ∈ ms, OKm m) → ∀ s ∈ stepsV l ms, OKs s
  | [], l, _, _, s, hs => by simp [stepsV] at hs
  | m :: ms, l, h, hm, s, hs => by
    rcases List.mem_cons.1 hs with rfl | hs
    · exact OKs.step h (hm m List.mem_cons_self)
    · exact OKs.steps (h.doV (hm m List.mem_cons_self)) (fun x hx => hm x (List.mem_cons_of_mem _ hx)) s hs
theorem iapp_Stp {l k : List Stp} (hl : l.length < 2 ^ 20) (hk : k.length < 2 ^ 20) : iapp 12 104 (eStps l) (eStps k) = some (eStps (l ++ k)) := by
  simp only [iapp]
  rw [if_pos]
  · simp
  · refine ⟨by simp; omega, by simp [eStp]⟩
theorem undo_Run_eq {l : List Rw} {ms : List Mv} (hl : l.length + ms.length < 2 ^ 16) (ho : OKl l) (hm : ∀ m ∈ ms, OKm m) : undo_Run_s (eRws l) (eMvs ms) = some [eRws (allV l ms), eStps (stepsV l ms)] := by
  unfold undo_Run_s
  simp only [ilenL_lst, Option.bind_some]
  rw [iter_fold (vs0 := [eRws l, .lst [], .int .i64 0]) (fun i (s : List Rw × List Stp) => [eRws s.1, eStps s.2, .int .i64 (i : Int)]) runV 0 (fun s => [eRws s.1, eStps s.2]) (fun i s => OKl s.1 ∧ s.1.length ≤ l.length + i ∧ s.2.length = i) ms (l, []) rfl (by have := rounds_eq; omega) ⟨ho, by simp, rfl⟩]
  · simp [runV_eq]
  · intro i s x hx hI
    have hi : i < ms.length := (List.getElem?_eq_some_iff.1 hx).1
    have hxm := hm x (List.mem_of_getElem? hx)
    refine ⟨⟨hI.1.doV hxm, by have := doV_length s.1 x; simp only [runV]; omega, by simp [runV, hI.2.2]⟩, ?_⟩
    unfold undo_Run_l3
    have hd := undo_Do_eq (l := s.1) (by omega) hI.1 hxm
    have ha : iapp 12 104 (eStps s.2) (.lst [eStp (stepV s.1 x)]) = some (eStps (s.2 ++ [stepV s.1 x])) := iapp_Stp (l := s.2) (k := [stepV s.1 x]) (by omega) (by simp)
    simp only [eStp] at ha hd
    simp only [nth_zero, nth_one, nth_two, nth_three, nth_four, nth_five, nth_six, nth_seven, nth_succ, ibin_lss, List.length_map, Int.ofNat_lt, hi, at_Mv hx, decide_true, icond_true, Option.bind_some, hd, ha, ibin_succ (show i < 2 ^ 62 by omega), runV]
  · intro s _
    unfold undo_Run_l3
    simp
theorem ref15_Run_eq {l : List Rw} {ms : List Mv} (hl : l.length + ms.length < 2 ^ 16) : ref15_Run_s (eRws l) (eMvs ms) = some [eRws (allV l ms), eStps (stepsV l ms)] := by
  unfold ref15_Run_s
  rw [iter_fold (vs0 := [eRws l, .lst [], .int .i64 0]) (fun i (s : List Rw × List Stp) => [eRws s.1, eStps s.2, .int .i64 (i : Int)]) runV 0 (fun s => [eRws s.1, eStps s.2]) (fun i s => s.1.length ≤ l.length + i ∧ s.2.length = i) ms (l, []) rfl (by have := rounds_eq; omega) ⟨by simp, rfl⟩]
  · simp [runV_eq]
  · intro i s x hx hI
    have hi : i < ms.length := (List.getElem?_eq_some_iff.1 hx).1
    refine ⟨⟨by have := doV_length s.1 x; simp only [runV]; omega, by simp [runV, hI.2]⟩, ?_⟩
    unfold ref15_Run_l3
    have hd := ref15_Do_eq (l := s.1) (by omega) x
    have ha : iapp 12 104 (eStps s.2) (.lst [eStp (stepV s.1 x)]) = some (eStps (s.2 ++ [stepV s.1 x])) := iapp_Stp (l := s.2) (k := [stepV s.1 x]) (by omega) (by simp)
    simp only [eStp] at ha hd
    simp only [ilenL_lst, nth_zero, nth_one, nth_two, nth_three, nth_four, nth_five, nth_six, nth_seven, nth_succ, ibin_lss, List.length_map, Int.ofNat_lt, hi, at_Mv hx, decide_true, icond_true, Option.bind_some, hd, ha, ibin_succ (show i < 2 ^ 62 by omega), runV]
  · intro s _
    unfold ref15_Run_l3
    simp

/-! ### Backward -/
def backV (l : List Rw) (ss : List Stp) : List Rw := ss.foldr (fun s l => undoV l s) l
theorem OKl.back {l : List Rw} (h : OKl l) : ∀ {ss : List Stp}, (∀ s ∈ ss, OKs s) → OKl (backV l ss)
  | [], _ => h
  | s :: ss, hs => (OKl.back h fun x hx => hs x (List.mem_cons_of_mem _ hx)).undo (hs s List.mem_cons_self)
/-! ### What steps are -/
theorem flat_Mvs (l : List Mv) : flatI (eMvs l) = true := by
  simp only [flatI, List.all_map, List.all_eq_true]
  intro m _
  rfl
theorem flat_Stps (l : List Stp) : flatI (eStps l) = true := by
  simp only [flatI, List.all_map, List.all_eq_true]
  intro m _
  rfl
theorem flat_Rws (l : List Rw) : flatI (eRws l) = true := by
  simp only [flatI, List.all_map, List.all_eq_true]
  intro m _
  rfl
theorem undo_Moves_eq {ss : List Stp} (hl : ss.length < 2 ^ 16) : undo_Moves_s (eStps ss) = some [eMvs (ss.map (·.mv))] := by
  unfold undo_Moves_s
  simp only [ilenL_lst, Option.bind_some]
  rw [iter_fold (vs0 := [.lst [], .int .i64 0]) (fun i (s : List Mv) => [eMvs s, .int .i64 (i : Int)]) (fun s x => s ++ [x.mv]) 0 (fun s => [eMvs s]) (fun i s => s.length = i) ss [] rfl (by have := rounds_eq; omega) rfl]
  · have : ∀ (ss : List Stp) (k : List Mv), ss.foldl (fun s x => s ++ [x.mv]) k = k ++ ss.map (·.mv) := by
      intro ss
      induction ss with
      | nil => intro k; simp
      | cons s ss ih => intro k; rw [List.foldl_cons, ih]; simp
    simp [this, flat_Mvs]
  · intro i s x hx hI
    have hi : i < ss.length := (List.getElem?_eq_some_iff.1 hx).1
    refine ⟨by simp [hI], ?_⟩
    unfold undo_Moves_l3
    have ha : iapp 6 56 (eMvs s) (.lst [[.int .i64 x.mv.c, .int .i64 x.mv.r, .int .i64 x.mv.par, .int .i64 x.mv.ch, .str x.mv.nm, .flt .f64 x.mv.rk]]) = some (eMvs (s ++ [x.mv])) := iapp_Mv (l := s) (k := [x.mv]) (by omega) (by simp)
    simp only [nth_zero, nth_one, nth_two, nth_three, nth_four, nth_five, nth_six, nth_seven, ibin_lss, List.length_map, Int.ofNat_lt, hi, at_Stp hx, eStp, decide_true, icond_true, Option.bind_some, ha, ibin_succ (show i < 2 ^ 62 by omega)]
  · intro s _
    unfold undo_Moves_l3
    simp
structure KeyO where
  moved : Bool
  had : Bool
  old : Int × Int × List UInt8 × Nat
  deriving DecidableEq
structure KeyS where
  m : Key
  o : KeyO
  deriving DecidableEq
def keyO (s : Stp) : KeyO := ⟨s.moved, s.had, keyR s.old⟩
def keyS (s : Stp) : KeyS := ⟨keyV s.mv, keyO s⟩
def sameS (a b : List Stp) : Bool := decide (a.map keyS = b.map keyS)
theorem sameS_refl (a : List Stp) : sameS a a = true := by simp [sameS]
theorem ref15_Alike_eq {a b : Stp} (ha : OKs a) (hb : OKs b) : ref15_Alike_s (.int .i64 a.mv.c) (.int .i64 a.mv.r) (.int .i64 a.mv.par) (.int .i64 a.mv.ch) (.str a.mv.nm) (.flt .f64 a.mv.rk) (.bool a.moved) (.bool a.had) (.int .i64 a.old.ch) (.int .i64 a.old.par) (.str a.old.nm) (.flt .f64 a.old.rk)
    (.int .i64 b.mv.c) (.int .i64 b.mv.r) (.int .i64 b.mv.par) (.int .i64 b.mv.ch) (.str b.mv.nm) (.flt .f64 b.mv.rk) (.bool b.moved) (.bool b.had) (.int .i64 b.old.ch) (.int .i64 b.old.par) (.str b.old.nm) (.flt .f64 b.old.rk) = some [.bool (decide (keyS a = keyS b))] := by
  unfold ref15_Alike_s keyS keyO
  simp only [ref13_Alike_eq ha.mv.rk hb.mv.rk, ref12_AlikeR ha.old.rk hb.old.rk, Option.bind_some, nth_zero, ibinB_eql, icond_bool, scal_bool, scal_nil, Option.map_some]
  by_cases h1 : keyV a.mv = keyV b.mv <;> cases a.moved <;> cases b.moved <;> cases a.had <;> cases b.had <;> simp [h1, KeyS.mk.injEq, KeyO.mk.injEq]
theorem ref15_Same_eq {a b : List Stp} (ha : a.length < 2 ^ 16) (hfa : ∀ s ∈ a, OKs s) (hfb : ∀ s ∈ b, OKs s) : ref15_Same_s (eStps a) (eStps b) = some [.bool (sameS a b)] := by
  unfold ref15_Same_s sameS
  simp only [ilenL_lst, Option.bind_some, ibin_neq, List.length_map, icond_dec]
  by_cases hlen : a.length = b.length
  · rw [if_neg (by omega)]
    rw [iter_check (vs0 := [.int .i64 0]) (fun i => [IV.int .i64 (i : Int)]) (fun i x => decide ((b[i]?).map keyS ≠ some (keyS x))) 1 [.bool false] 0 [] a rfl (by have := rounds_eq; omega), any_keys hlen (b0 := b) (fun i => by rw [Nat.zero_add])]
    · by_cases h : a.map keyS = b.map keyS <;> simp [h]
    · intro i x hx
      have hi : i < a.length := (List.getElem?_eq_some_iff.1 hx).1
      have hy : b[i]? = some (b[i]'(by omega)) := List.getElem?_eq_getElem (by omega)
      generalize b[i]'(by omega) = y at hy
      have hk := ref15_Alike_eq (hfa x (List.mem_of_getElem? hx)) (hfb y (List.mem_of_getElem? hy))
      unfold ref15_Same_l4
      simp only [ilenL_lst, Option.bind_some, nth_zero, nth_one, nth_two, nth_three, nth_four, nth_five, nth_six, nth_seven, nth_succ, ibin_lss, List.length_map, Int.ofNat_lt, at_Stp hx, at_Stp hy, eStp, decide_true, icond_true, hk, iun_not, icond_bool, ibin_succ (show i < 2 ^ 62 by omega), hy, Option.map_some, if_true]
      by_cases h : keyS x = keyS y
      · simp [h]
      · have : ¬ keyS y = keyS x := fun e => h e.symm
        simp [h, this]
    · unfold ref15_Same_l4
      simp
  · rw [if_pos (by omega)]
    have : ¬ a.map keyS = b.map keyS := fun h => hlen (by have := congrArg List.length h; simpa using this)
    simp [this]
end Go.AM

/- The laws of undo, first part: what the references tell. -/
set_option linter.unusedVariables false
set_option linter.unusedSimpArgs false
namespace Go.AM

abbrev shRw : List Sh := [.int .i64, .int .i64, .str, .flt .f64]
theorem in64_of {k : Int} (h : (Lit.int .i64 k).wf = true) : in64 k := by
  have h1 : IntKind.i64.min = -(2 ^ 63) := by rfl
  have h2 : IntKind.i64.max = 2 ^ 63 - 1 := by rfl
  simp only [Lit.wf, Bool.and_eq_true, decide_eq_true_eq] at h
  unfold in64
  omega
theorem i64_inv {c : IV} (h : ShOK (.int .i64) c) : ∃ n, c = .int .i64 n ∧ in64 n := by
  cases h with | int k n hw => exact ⟨n, rfl, in64_of hw⟩
theorem f64_inv {c : IV} (h : ShOK (.flt .f64) c) : ∃ n, c = .flt .f64 n ∧ n < 2 ^ 64 := by
  cases h with | flt k n hw => simp only [Lit.wf, decide_eq_true_eq] at hw; exact ⟨n, rfl, hw⟩
theorem Rw_inv (e : List IV) (h : Typed shRw e) : ∃ x, e = eRw x ∧ OKr x := by
  obtain ⟨c0, _, rfl, h0, h⟩ := h.cons_inv
  obtain ⟨c1, _, rfl, h1, h⟩ := h.cons_inv
  obtain ⟨c2, _, rfl, h2, h⟩ := h.cons_inv
  obtain ⟨c3, _, rfl, h3, h⟩ := h.cons_inv
  cases h.nil_inv
  obtain ⟨n0, rfl, w0⟩ := i64_inv h0
  obtain ⟨n1, rfl, w1⟩ := i64_inv h1
  cases h2
  obtain ⟨n3, rfl, w3⟩ := f64_inv h3
  exact ⟨⟨_, _, _, _⟩, rfl, w3, w0, w1⟩
theorem Mv_invB (e : List IV) (h : Typed shMv e) : ∃ x, e = eMv x ∧ OKm x := by
  obtain ⟨c0, _, rfl, h0, h⟩ := h.cons_inv
  obtain ⟨c1, _, rfl, h1, h⟩ := h.cons_inv
  obtain ⟨c2, _, rfl, h2, h⟩ := h.cons_inv
  obtain ⟨c3, _, rfl, h3, h⟩ := h.cons_inv
  obtain ⟨c4, _, rfl, h4, h⟩ := h.cons_inv
  obtain ⟨c5, _, rfl, h5, h⟩ := h.cons_inv
  cases h.nil_inv
  obtain ⟨n0, rfl, w0⟩ := i64_inv h0
  obtain ⟨n1, rfl, w1⟩ := i64_inv h1
  obtain ⟨n2, rfl, w2⟩ := i64_inv h2
  obtain ⟨n3, rfl, w3⟩ := i64_inv h3
  cases h4
  obtain ⟨n5, rfl, w5⟩ := f64_inv h5
  exact ⟨⟨_, _, _, _, _, _⟩, rfl, w5, w3, w2⟩
theorem rowsB_inv {cs : List IV} (h : Typed [.slc shRw] cs) : ∃ v : List Rw, cs = [eRws v] ∧ OKl v := by
  obtain ⟨c, rfl, h1⟩ := h.one_inv
  obtain ⟨l, rfl, hl⟩ := h1.list_invP Rw_inv
  exact ⟨l, rfl, hl⟩
theorem mvsB_inv {cs : List IV} (h : Typed [.slc shMv] cs) : ∃ v : List Mv, cs = [eMvs v] ∧ ∀ m ∈ v, OKm m := by
  obtain ⟨c, rfl, h1⟩ := h.one_inv
  obtain ⟨l, rfl, hl⟩ := h1.list_invP Mv_invB
  exact ⟨l, rfl, hl⟩
theorem mvB_inv {cs : List IV} (h : Typed shMv cs) : ∃ m : Mv, cs = [.int .i64 m.c, .int .i64 m.r, .int .i64 m.par, .int .i64 m.ch, .str m.nm, .flt .f64 m.rk] ∧ OKm m := Mv_invB cs h
theorem fewR_len {l : List Rw} (h : fewR l = true) : l.length ≤ 60 := by
  unfold fewR at h; simp only [Bool.and_eq_true, decide_eq_true_eq] at h; exact h.1
theorem OKl.fl {l : List Rw} (h : OKl l) : ∀ r ∈ l, r.rk < 2 ^ 64 := fun r hr => (h r hr).rk

end Go.AM

/- The laws of undo, second part: what was done goes back. -/
set_option linter.unusedVariables false
set_option linter.unusedSimpArgs false
namespace Go.AM

theorem any_not {α : Type} (p : α → Bool) : ∀ l : List α, (l.any fun x => !p x) = !l.all p
  | [] => rfl
  | x :: l => by simp only [List.any_cons, List.all_cons, any_not p l, Bool.not_and]
def oneR (r : Rw) : Bool := rowB r.ch r.par r.nm
def risR (a b : Rw) : Bool := decide (a.ch < b.ch)
def mayR (l : List Rw) : Bool := decide (l.length ≤ 2000) && (l.all oneR && adjB risR l && !l.any fun r => aboveV l r.ch r.ch)
theorem ref12_May_eq {l : List Rw} (hl : l.length < 2 ^ 16) : ref12_May_s (eRws l) = some [.bool (mayR l)] := by
  unfold ref12_May_s mayR
  simp only [ilenL_lst, Option.bind_some, ibin_gtr, List.length_map, icond_dec]
  by_cases h : l.length ≤ 2000
  · rw [if_neg (by omega)]
    rw [iter_check (vs0 := [.int .i64 0]) (fun i => [IV.int .i64 (i : Int)]) (fun i x => !oneR x || (decide (0 < i) && !risR (l.getD (i - 1) x) x)) 1 [.bool false] 0 [] l rfl (by have := rounds_eq; omega), anyI_or, adj_anyI, anyI_any]
    · rw [iter_check (vs0 := [.int .i64 0]) (fun i => [IV.int .i64 (i : Int)]) (fun _ (r : Rw) => aboveV l r.ch r.ch) 1 [.bool false] 0 [] l rfl (by have := rounds_eq; omega), anyI_any]
      · have e := any_not oneR l
        rw [e]
        cases h1 : l.all oneR <;> cases h2 : adjB risR l <;> cases h3 : (l.any fun r => aboveV l r.ch r.ch) <;> simp [h]
      · intro i x hx
        have hi : i < l.length := (List.getElem?_eq_some_iff.1 hx).1
        unfold ref12_May_l9
        simp only [ilenL_lst, nth_zero, ibin_lss, List.length_map, Int.ofNat_lt, at_Rw hx, decide_true, icond_true, Option.bind_some, ref12_Above_eq hl, icond_bool, ibin_succ (show i < 2 ^ 62 by omega)]
        cases aboveV l x.ch x.ch <;> simp
      · unfold ref12_May_l9
        simp
    · intro i x hx
      have hi : i < l.length := (List.getElem?_eq_some_iff.1 hx).1
      unfold ref12_May_l4
      simp only [ilenL_lst, nth_zero, nth_one, nth_two, nth_three, nth_four, nth_five, ibin_lss, ibin_gtr, List.length_map, Int.ofNat_lt, at_Rw hx, decide_true, icond_true, Option.bind_some, icond_dec, ibin_succ (show i < 2 ^ 62 by omega), ref12_One_eq, iun_not, icond_bool]
      by_cases h1 : oneR x = true
      · have h1' : rowB x.ch x.par x.nm = true := h1
        by_cases h5 : 0 < i
        · have hp : l[i - 1]? = some (l.getD (i - 1) x) := by
            rw [List.getD_eq_getElem?_getD, List.getElem?_eq_getElem (by omega)]; rfl
          simp only [h1, h1', Bool.not_true, Bool.false_eq_true, if_false, show (0 : Int) < (i : Int) by omega, h5, if_true, ibin_pred (show i < 2 ^ 62 by omega) h5, Option.bind_some, at_Rw hp, at_Rw hx, nth_zero, nth_one, ibin_geq, icond_dec, decide_true, Bool.true_and, Bool.false_or, risR]
          generalize l.getD (i - 1) x = y
          by_cases h6 : y.ch < x.ch
          · have : ¬ x.ch ≤ y.ch := by omega
            simp [h6, this]
          · have : x.ch ≤ y.ch := by omega
            simp [h6, this]
        · simp [h1, h1', h5, show ¬ ((0 : Int) < (i : Int)) by omega]
      · have h1' : rowB x.ch x.par x.nm = false := by simpa [oneR] using h1
        simp [h1, h1']
    · unfold ref12_May_l4
      simp
  · rw [if_pos (by omega)]
    simp [h]

/-! ### What was done goes back -/
theorem findIdx_set {l : List Rw} {i : Nat} {r : Rw} {c : Int} (h : l.findIdx? (isC c) = some i) (hr : r.ch = c) : (l.set i r).findIdx? (isC c) = some i := by
  obtain ⟨hi, hp, hn⟩ := List.findIdx?_eq_some_iff_getElem.1 h
  refine List.findIdx?_eq_some_iff_getElem.2 ⟨by simpa using hi, ?_, fun j hj => ?_⟩
  · simp [isC, hr]
  · have := hn j hj
    rw [List.getElem_set_ne (by omega)]
    exact this
theorem findIdx_ins {l : List Rw} {i : Nat} {r : Rw} {c : Int} (h : l.findIdx? (isC c) = none) (hi : i ≤ l.length) (hr : r.ch = c) : (l.take i ++ [r] ++ l.drop i).findIdx? (isC c) = some i := by
  rw [List.findIdx?_eq_none_iff] at h
  have hlen : (l.take i ++ [r] ++ l.drop i).length = l.length + 1 := by simp; omega
  refine List.findIdx?_eq_some_iff_getElem.2 ⟨by omega, ?_, fun j hj => ?_⟩
  · have : (l.take i ++ [r] ++ l.drop i)[i]? = some r := by
      rw [List.append_assoc, List.getElem?_append_right (by simp; omega)]
      simp [Nat.min_eq_left hi]
    rw [List.getElem?_eq_getElem (by omega)] at this
    rw [Option.some.inj this]
    simp [isC, hr]
  · have h2 : (l.take i ++ [r] ++ l.drop i)[j]? = l[j]? := by
      rw [List.append_assoc, List.getElem?_append_left (by simp; omega), List.getElem?_take_of_lt hj]
    have h3 : j < l.length := by omega
    rw [List.getElem?_eq_getElem (by omega), List.getElem?_eq_getElem h3] at h2
    rw [Option.some.inj h2]
    simp [h _ (List.getElem_mem h3)]
theorem undo_do (l : List Rw) (m : Mv) : undoV (doV l m) (stepV l m) = l := by
  unfold doV stepV
  by_cases hb : barV l m = true
  · simp [hb, undoV]
  · simp only [hb, if_false, Bool.false_eq_true]
    rw [findR_ix]
    cases h : l.findIdx? (isC m.ch) with
    | some i =>
      obtain ⟨x, hx, hp⟩ := findIdx_get h
      have hxc : x.ch = m.ch := by simpa [isC] using hp
      simp only [hx, undoV, if_true]
      have h0 : setR l (rowOf m) = l.set i (rowOf m) := by unfold setR; rw [show (rowOf m).ch = m.ch from rfl, h]
      rw [h0]
      unfold setR
      rw [hxc, findIdx_set h rfl]
      simp only
      have hi := (List.getElem?_eq_some_iff.1 hx)
      obtain ⟨hlt, rfl⟩ := hi
      simp
    | none =>
      simp only [undoV, if_true, Bool.false_eq_true, if_false]
      have h0 : setR l (rowOf m) = l.take (atR l m.ch) ++ [rowOf m] ++ l.drop (atR l m.ch) := by unfold setR; rw [show (rowOf m).ch = m.ch from rfl, h]
      rw [h0]
      unfold dropR
      rw [findIdx_ins h (atR_le l m.ch) rfl]
      simp only
      have ha := atR_le l m.ch
      have e1 : (l.take (atR l m.ch) ++ [rowOf m] ++ l.drop (atR l m.ch)).take (atR l m.ch) = l.take (atR l m.ch) := by
        rw [List.append_assoc, List.take_append_of_le_length (by simp; omega), List.take_take, Nat.min_self]
      have e2 : (l.take (atR l m.ch) ++ [rowOf m] ++ l.drop (atR l m.ch)).drop (atR l m.ch + 1) = l.drop (atR l m.ch) := by
        rw [List.drop_append_of_le_length (by simp; omega)]
        rw [List.drop_eq_nil_of_le (by simp; omega)]
        simp
      rw [e1, e2, List.take_append_drop]
end Go.AM

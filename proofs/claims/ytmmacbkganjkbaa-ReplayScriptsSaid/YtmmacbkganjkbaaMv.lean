/- Moves, plainly: the program's functions and the references'. -/
import Derived.Test.YtmmacbkganjkbaaMk
import Derived.Test.YtmmacbkganjkbaaFl
set_option linter.unusedVariables false
set_option linter.unusedSimpArgs false
namespace Go.AM

/-! ### Times -/
def cmpI (a b : Int) : Int := if a < b then -1 else if b < a then 1 else 0
theorem cmp_Compare_eq (a b : Int) : cmp_Compare_int_s (.int .i64 a) (.int .i64 b) = some [.int .i64 (cmpI a b)] := by
  unfold cmp_Compare_int_s cmp_isNaN_int_s cmpI
  simp only [ibin_neq, Option.bind_some, ne_eq, not_true_eq_false, decide_false, scal_bool, scal_nil, Option.map_some, nth_zero, icond_false, ibin_lss, ibin_gtr, icond_dec, scal_int]
  split
  · rfl
  · split <;> rfl
def eClo (x : IV × Int) : List IV := [x.1]
def firstNZ : List Int → Int
  | [] => 0
  | x :: l => if x ≠ 0 then x else firstNZ l
theorem firstNZ_ix {α : Type} {g : α → Int} {d : α} : ∀ {l : List α}, firstNZ (l.map g) = match l.findIdx? (fun x => decide (g x ≠ 0)) with | some i => g (l.getD i d) | none => 0
  | [] => rfl
  | x :: l => by
    simp only [List.map_cons, firstNZ, List.findIdx?_cons, decide_eq_true_eq]
    by_cases h : g x ≠ 0
    · simp [h]
    · simp only [h, if_false]
      rw [firstNZ_ix (d := d)]
      cases l.findIdx? (fun x => decide (g x ≠ 0)) <;> simp
theorem rank_first_eq {C : IV → List Nat → List (List IV) → Option (List IV)} {l : List (IV × Int)} (hl : l.length < 100) (hC : ∀ x ∈ l, C x.1 [1] [] = some [.int .i64 x.2]) : rank_first_s C (.lst (l.map eClo)) = some [.int .i64 (firstNZ (l.map (·.2)))] := by
  unfold rank_first_s
  simp only [ilenL_lst, Option.bind_some]
  rw [iter_search (vs0 := [IV.int .i64 0]) (fun i => [IV.int .i64 (i : Int)]) (fun x => decide (x.2 ≠ 0)) 1 (fun i => [IV.int .i64 (l.getD i (.nilp, 0)).2]) 0 [] l rfl (by have := rounds_eq; omega), firstNZ_ix (d := (.nilp, 0))]
  · cases l.findIdx? (fun x => decide (x.2 ≠ 0)) <;> simp
  · intro i x hx
    have hi : i < l.length := (List.getElem?_eq_some_iff.1 hx).1
    have hc := hC x (List.mem_of_getElem? hx)
    have hxx : l.getD i (.nilp, 0) = x := by rw [List.getD_eq_getElem?_getD, hx]; rfl
    have e1 := iidx_map (enc := eClo) (sz := 1) hx rfl Nat.zero_lt_one
    have e2 : ild (.lst (l.map eClo)) i 0 = some x.1 := ild_map hx
    unfold rank_first_l2
    simp only [nth_zero, ibin_lss, List.length_map, Int.ofNat_lt, hi, decide_true, icond_true, Option.bind_some, e1, e2, hc, ibin_neq, icond_dec, ibin_succ (show i < 2 ^ 62 by omega), hxx, decide_eq_true_eq]
    split <;> rfl
  · unfold rank_first_l2
    simp
theorem rank_Before_eq (c r c' r' : Int) : rank_Before_s (.int .i64 c) (.int .i64 r) (.int .i64 c') (.int .i64 r') = some [.bool (befB c r c' r')] := by
  unfold rank_Before_s
  have h := rank_first_eq (C := Cx_rank_Before) (l := [((.clo (.func n_rank_Before_1) [(.ptr [.int .i64 c, .int .i64 r] 0), (.ptr [.int .i64 c', .int .i64 r'] 0)]), cmpI c c'), ((.clo (.func n_rank_Before_2) [(.ptr [.int .i64 c, .int .i64 r] 0), (.ptr [.int .i64 c', .int .i64 r'] 0)]), cmpI r r')]) (by simp) (by
    intro x hx
    simp only [List.mem_cons, List.not_mem_nil, or_false] at hx
    rcases hx with rfl | rfl
    · show rank_Before_1_s (.ptr [.int .i64 c, .int .i64 r] 0) (.ptr [.int .i64 c', .int .i64 r'] 0) = _
      unfold rank_Before_1_s
      simp [ipnn, ipld, cmp_Compare_eq]
    · show rank_Before_2_s (.ptr [.int .i64 c, .int .i64 r] 0) (.ptr [.int .i64 c', .int .i64 r'] 0) = _
      unfold rank_Before_2_s
      simp [ipnn, ipld, cmp_Compare_eq])
  simp only [List.map_cons, List.map_nil, eClo] at h
  rw [h]
  simp only [Option.bind_some, nth_zero, ibin_lss, scal_bool, scal_nil, Option.map_some]
  congr 3
  unfold befB cmpI firstNZ firstNZ firstNZ
  refine Bool.eq_of_iff ?_
  simp only [decide_eq_true_eq, Bool.or_eq_true, Bool.and_eq_true]
  by_cases h1 : c < c'
  · simp [h1]
  · by_cases h2 : c' < c
    · have : ¬ c = c' := by omega
      simp [h1, h2, this]
    · have : c = c' := by omega
      by_cases h3 : r < r'
      · simp [h1, h2, h3, this]
      · by_cases h4 : r' < r <;> simp [h1, h2, h3, h4, this]

/-! ### Are two the same? -/
structure Key where
  c : Int
  r : Int
  ch : Int
  par : Int
  nm : List UInt8
  rk : Nat
  deriving DecidableEq
def keyV (m : Mv) : Key := ⟨m.c, m.r, m.ch, m.par, m.nm.toList, bitsN m.rk⟩
def FlOK (l : List Mv) : Prop := ∀ m ∈ l, m.rk < 2 ^ 64
theorem ref01_Same_eq {a b : Nat} (ha : a < 2 ^ 64) (hb : b < 2 ^ 64) : ref01_Same_s (.flt .f64 a) (.flt .f64 b) = some [.bool (decide (bitsN a = bitsN b))] := by
  unfold ref01_Same_s
  simp only [ref01_Bits_eq ha, ref01_Bits_eq hb, Option.bind_some, nth_zero, ibin_eql, scal_bool, scal_nil, Option.map_some, Int.natCast_inj]
theorem ibin_strs (a b : ByteArray) : ibin .eql (.str a) (.str b) = some (.bool (decide (a.toList = b.toList))) := by
  show some (IV.bool (a.toList == b.toList)) = _
  congr 2
  by_cases h : a.toList = b.toList <;> simp [h]
theorem ref12_Alike_eq {ch par ch' par' : Int} {nm nm' : ByteArray} {rk rk' : Nat} (h : rk < 2 ^ 64) (h' : rk' < 2 ^ 64) : ref12_Alike_s (.int .i64 ch) (.int .i64 par) (.str nm) (.flt .f64 rk) (.int .i64 ch') (.int .i64 par') (.str nm') (.flt .f64 rk') = some [.bool (decide (ch = ch' ∧ par = par' ∧ nm.toList = nm'.toList ∧ bitsN rk = bitsN rk'))] := by
  unfold ref12_Alike_s
  simp only [ibin_eql, ibin_strs, ref01_Same_eq h h', Option.bind_some, nth_zero, icond_mb, scal_bool, scal_nil, Option.map_some]
  congr 3
  by_cases h1 : ch = ch' <;> by_cases h2 : par = par' <;> by_cases h3 : nm.toList = nm'.toList <;> simp [h1, h2, h3]
theorem ref13_Alike_eq {a b : Mv} (h : a.rk < 2 ^ 64) (h' : b.rk < 2 ^ 64) : ref13_Alike_s (.int .i64 a.c) (.int .i64 a.r) (.int .i64 a.par) (.int .i64 a.ch) (.str a.nm) (.flt .f64 a.rk) (.int .i64 b.c) (.int .i64 b.r) (.int .i64 b.par) (.int .i64 b.ch) (.str b.nm) (.flt .f64 b.rk) = some [.bool (decide (keyV a = keyV b))] := by
  unfold ref13_Alike_s keyV
  simp only [ref13_Row_eq, ieqs, ieqL, ieq1, if_true, Option.bind_some, Option.map_some, nth_zero, nth_one, nth_two, nth_three, ref12_Alike_eq h h', icond_mb, scal_bool, scal_nil]
  congr 3
  by_cases h1 : a.c = b.c <;> by_cases h2 : a.r = b.r <;> simp [h1, h2, Key.mk.injEq]
def sameV (a b : List Mv) : Bool := decide (a.map keyV = b.map keyV)
/-- Lists of one length, element by element. -/
theorem any_keys {α β : Type} [DecidableEq β] {g : α → β} : ∀ {a b : List α} {k : Nat}, a.length = b.length → ∀ {b0 : List α}, (∀ i, b0[k + i]? = b[i]?) → anyI (fun i x => decide ((b0[i]?).map g ≠ some (g x))) a k = !decide (a.map g = b.map g)
  | [], [], _, _, _, _ => by simp [anyI]
  | x :: a, y :: b, k, hl, b0, hb => by
    have h0 := hb 0
    simp only [Nat.add_zero, List.getElem?_cons_zero] at h0
    simp only [anyI, List.map_cons, List.cons.injEq, h0, Option.map_some, ne_eq, Option.some.injEq]
    rw [any_keys (b := b) (by simpa using hl) (fun i => by have := hb (i + 1); rw [show k + 1 + i = k + (i + 1) by omega, this]; simp)]
    by_cases h1 : g x = g y
    · have : g y = g x := h1.symm
      by_cases h2 : a.map g = b.map g <;> simp [h1, h2]
    · have : ¬ g y = g x := fun e => h1 e.symm
      simp [h1, this]
theorem ref13_Same_eq {a b : List Mv} (ha : a.length < 2 ^ 16) (hfa : FlOK a) (hfb : FlOK b) : ref13_Same_s (eMvs a) (eMvs b) = some [.bool (sameV a b)] := by
  unfold ref13_Same_s sameV
  simp only [ilenL_lst, Option.bind_some, ibin_neq, List.length_map, icond_dec]
  by_cases hlen : a.length = b.length
  · rw [if_neg (by omega)]
    rw [iter_check (vs0 := [.int .i64 0]) (fun i => [IV.int .i64 (i : Int)]) (fun i x => decide ((b[i]?).map keyV ≠ some (keyV x))) 1 [.bool false] 0 [] a rfl (by have := rounds_eq; omega), any_keys hlen (b0 := b) (fun i => by rw [Nat.zero_add])]
    · by_cases h : a.map keyV = b.map keyV <;> simp [h]
    · intro i x hx
      have hi : i < a.length := (List.getElem?_eq_some_iff.1 hx).1
      have hy : b[i]? = some (b[i]'(by omega)) := List.getElem?_eq_getElem (by omega)
      generalize b[i]'(by omega) = y at hy
      have hk := ref13_Alike_eq (hfa x (List.mem_of_getElem? hx)) (hfb y (List.mem_of_getElem? hy))
      unfold ref13_Same_l4
      simp only [ilenL_lst, Option.bind_some, nth_zero, nth_one, nth_two, nth_three, nth_four, nth_five, ibin_lss, List.length_map, Int.ofNat_lt, at_Mv hx, at_Mv hy, decide_true, icond_true, hk, iun_not, icond_bool, ibin_succ (show i < 2 ^ 62 by omega), hy, Option.map_some, if_true]
      by_cases h : keyV x = keyV y
      · simp [h]
      · have : ¬ keyV y = keyV x := fun e => h e.symm
        simp [h, this]
    · unfold ref13_Same_l4
      simp
  · rw [if_pos (by omega)]
    have : ¬ a.map keyV = b.map keyV := fun h => hlen (by have := congrArg List.length h; simpa using this)
    simp [this]
/-! ### Which may be: the program's -/
theorem iter_done {f : List IV → Option SR} {vs : List IV} {k : Nat} {o : List IV} (n : Nat) (h : f vs = some (.done k o)) : iter (n + 1) f vs = some (k, o) := by
  simp only [iter, h, Option.bind_some]
theorem iter_check_from {α : Type} {f : List IV → Option SR} (enc : Nat → List IV) (bad : Nat → α → Bool) (kh : Nat) (hit : List IV) (km : Nat) (miss : List IV) (l : List α) (k : Nat) (hk : k ≤ l.length) (hl : l.length < rounds)
    (hs : ∀ i x, k ≤ i → l[i]? = some x → f (enc i) = some (if bad i x = true then .done kh hit else .next (enc (i + 1)))) (he : f (enc l.length) = some (.done km miss)) :
    iter rounds f (enc k) = some (if anyI bad (l.drop k) k = true then (kh, hit) else (km, miss)) := by
  have key : ∀ (n k : Nat), k ≤ l.length → l.length - k < n → (∀ i x, k ≤ i → l[i]? = some x → f (enc i) = some (if bad i x = true then .done kh hit else .next (enc (i + 1)))) → iter n f (enc k) = some (if anyI bad (l.drop k) k = true then (kh, hit) else (km, miss)) := by
    intro n
    induction n with
    | zero => intro k hk hn; omega
    | succ n ih =>
      intro k hk hn hs
      by_cases h : k = l.length
      · subst h
        simp only [iter, he, Option.bind_some, List.drop_length, anyI, Bool.false_eq_true, if_false]
      · have hlt : k < l.length := by omega
        have hx : l[k]? = some l[k] := List.getElem?_eq_getElem hlt
        rw [List.drop_eq_getElem_cons hlt]
        simp only [iter, hs k l[k] (Nat.le_refl _) hx, Option.bind_some, anyI]
        by_cases hb : bad k l[k] = true
        · simp [hb]
        · simp only [hb, if_false, Bool.false_eq_true, Bool.false_or]
          exact ih (k + 1) (by omega) (by omega) fun i x hi hx => hs i x (by omega) hx
  exact key rounds k hk (by omega) hs
theorem adj_drop {α : Type} {R : α → α → Bool} {l : List α} : anyI (fun i x => !R (l.getD (i - 1) x) x) (l.drop 1) 1 = !adjB R l := by
  rw [← adj_anyI]
  cases l with
  | nil => rfl
  | cons x l =>
    simp only [List.drop_succ_cons, List.drop_zero, anyI, Nat.lt_irrefl, decide_false, Bool.false_and, Bool.false_or]
    have : ∀ (m : List α) (k : Nat), 0 < k → anyI (fun i y => !R ((x :: l).getD (i - 1) y) y) m k = anyI (fun i y => decide (0 < i) && !R ((x :: l).getD (i - 1) y) y) m k := by
      intro m
      induction m with
      | nil => intro k _; rfl
      | cons y m ih => intro k hk; simp only [anyI, hk, decide_true, Bool.true_and]; rw [ih (k + 1) (by omega)]
    exact this l 1 (by omega)
/-! ### Put in, by their times -/
def tmB (c r : Int) (m : Mv) : Bool := decide (m.c = c ∧ m.r = r)
def atV (l : List Mv) (m : Mv) : Nat := (l.findIdx? fun x => befB m.c m.r x.c x.r).getD l.length
def insV (l : List Mv) (m : Mv) : List Mv := if l.any (tmB m.c m.r) = true then l else l.take (atV l m) ++ [m] ++ l.drop (atV l m)
def posV (l : List Mv) (m : Mv) : Nat := match l.findIdx? (tmB m.c m.r) with | some i => i | none => atV l m
def newV (l : List Mv) (m : Mv) : Bool := !l.any (tmB m.c m.r)
theorem atV_le (l : List Mv) (m : Mv) : atV l m ≤ l.length := by
  unfold atV
  cases h : l.findIdx? fun x => befB m.c m.r x.c x.r with
  | none => exact Nat.le_refl _
  | some i => exact Nat.le_of_lt (List.findIdx?_eq_some_iff_getElem.1 h).1
theorem insV_length (l : List Mv) (m : Mv) : (insV l m).length ≤ l.length + 1 := by
  unfold insV
  split
  · omega
  · have := atV_le l m; simp; omega
theorem iapp_Mv {l k : List Mv} (hl : l.length < 2 ^ 20) (hk : k.length < 2 ^ 20) : iapp 6 56 (eMvs l) (eMvs k) = some (eMvs (l ++ k)) := by
  simp only [iapp]
  rw [if_pos]
  · simp
  · refine ⟨by simp; omega, by simp [eMv]⟩
theorem insert_Mv {l : List Mv} (hl : l.length < 2 ^ 16) {i : Nat} (hi : i ≤ l.length) (m : Mv) : slices_Insert_Move_s (eMvs l) (.int .i64 (i : Int)) (.lst [[.int .i64 m.c, .int .i64 m.r, .int .i64 m.par, .int .i64 m.ch, .str m.nm, .flt .f64 m.rk]]) = some [eMvs (l.take i ++ [m] ++ l.drop i)] := by
  unfold slices_Insert_Move_s
  simp only [insertS]
  rw [if_pos]
  · simp [eMv]
  · refine ⟨by omega, by simp; omega, by simp; omega, rfl⟩
theorem clone_Mv {l : List Mv} (hl : l.length < 2 ^ 16) : slices_Clone_Move_s (eMvs l) = some [eMvs l] := by
  unfold slices_Clone_Move_s
  simp only [cloneS]
  rw [if_pos]
  refine ⟨by simp; omega, by simp [eMv]⟩
theorem seek_eq {C : IV → List Nat → List (List IV) → Option (List IV)} {fv : IV} {p : Mv → Bool} {l : List Mv} {c r : Int} (hl : l.length < 2 ^ 16) (hC : ∀ x ∈ l, C fv [1] [[.int .i64 c, .int .i64 r], eMv x] = some [.bool (p x)]) :
    moves_seek_s C (eMvs l) (.int .i64 c) (.int .i64 r) fv = some [.int .i64 (((l.findIdx? p).getD l.length : Nat) : Int)] := by
  unfold moves_seek_s
  simp only [ilenL_lst, Option.bind_some]
  rw [iter_search (vs0 := [IV.int .i64 0]) (fun i => [IV.int .i64 (i : Int)]) p 1 (fun i => [IV.int .i64 (i : Int)]) 0 [] l rfl (by have := rounds_eq; omega)]
  · cases l.findIdx? p <;> simp
  · intro i x hx
    have hi : i < l.length := (List.getElem?_eq_some_iff.1 hx).1
    have hc := hC x (List.mem_of_getElem? hx)
    unfold moves_seek_l2
    unfold eMv at hc
    simp only [nth_zero, nth_one, nth_two, nth_three, nth_four, nth_five, ibin_lss, List.length_map, Int.ofNat_lt, at_Mv hx, decide_true, icond_true, Option.bind_some, hc, icond_bool, ibin_succ (show i < 2 ^ 62 by omega), if_true]
    cases p x <;> rfl
  · unfold moves_seek_l2
    simp
theorem moves_Insert_eq {l : List Mv} (hl : l.length < 2 ^ 16) (m : Mv) : moves_Insert_s (eMvs l) (.int .i64 m.c) (.int .i64 m.r) (.int .i64 m.par) (.int .i64 m.ch) (.str m.nm) (.flt .f64 m.rk) = some [eMvs (insV l m), .int .i64 (posV l m : Int), .bool (newV l m)] := by
  unfold moves_Insert_s
  rw [seek_eq hl (p := tmB m.c m.r)]
  · simp only [Option.bind_some, nth_zero, ilenL_lst, ibin_lss, List.length_map, Int.ofNat_lt, icond_dec]
    unfold insV posV newV
    cases h : l.findIdx? (tmB m.c m.r) with
    | some i =>
      obtain ⟨hi, hp, _⟩ := List.findIdx?_eq_some_iff_getElem.1 h
      have hany : l.any (tmB m.c m.r) = true := List.any_eq_true.2 ⟨l[i], List.getElem_mem hi, hp⟩
      simp [hi, hany]
    | none =>
      have hall := List.findIdx?_eq_none_iff.1 h
      have hany : l.any (tmB m.c m.r) = false := by
        rw [List.any_eq_false]; intro x hx; rw [hall x hx]; simp
      simp only [Option.getD_none, Nat.lt_irrefl, if_false, hany, Bool.false_eq_true]
      rw [seek_eq hl (p := fun x => befB m.c m.r x.c x.r)]
      · have := insert_Mv hl (atV_le l m) m
        unfold atV at this ⊢
        simp only [Option.bind_some, clone_Mv hl, nth_zero, this, Bool.not_false]
      · intro x _
        show moves_when_before_s (.int .i64 m.c) (.int .i64 m.r) (.int .i64 x.c) (.int .i64 x.r) (.int .i64 x.par) (.int .i64 x.ch) (.str x.nm) (.flt .f64 x.rk) = _
        unfold moves_when_before_s
        simp [rank_Before_eq]
  · intro x _
    show moves_when_is_s (.int .i64 m.c) (.int .i64 m.r) (.int .i64 x.c) (.int .i64 x.r) (.int .i64 x.par) (.int .i64 x.ch) (.str x.nm) (.flt .f64 x.rk) = _
    unfold moves_when_is_s tmB
    simp only [ieqs, ieqL, ieq1, if_true, Option.bind_some, Option.map_some, Bool.and_true, scal_bool, scal_nil]
    congr 3
    by_cases h1 : x.c = m.c <;> by_cases h2 : x.r = m.r <;> simp [h1, h2]
theorem ref13_Insert_eq {l : List Mv} (hl : l.length < 2 ^ 16) (m : Mv) : ref13_Insert_s (eMvs l) (.int .i64 m.c) (.int .i64 m.r) (.int .i64 m.par) (.int .i64 m.ch) (.str m.nm) (.flt .f64 m.rk) = some [eMvs (insV l m), .int .i64 (posV l m : Int), .bool (newV l m)] := by
  unfold ref13_Insert_s
  rw [iter_search (vs0 := [IV.int .i64 0]) (fun i => [IV.int .i64 (i : Int)]) (tmB m.c m.r) 1 (fun i => [eMvs l, IV.int .i64 (i : Int), .bool false]) 0 [] l rfl (by have := rounds_eq; omega)]
  · unfold insV posV newV
    cases h : l.findIdx? (tmB m.c m.r) with
    | some i =>
      obtain ⟨hi, hp, _⟩ := List.findIdx?_eq_some_iff_getElem.1 h
      have hany : l.any (tmB m.c m.r) = true := List.any_eq_true.2 ⟨l[i], List.getElem_mem hi, hp⟩
      simp [hany]
    | none =>
      have hall := List.findIdx?_eq_none_iff.1 h
      have hany : l.any (tmB m.c m.r) = false := by
        rw [List.any_eq_false]; intro x hx; rw [hall x hx]; simp
      simp only [Option.bind_some, sel_zero, hany, Bool.false_eq_true, if_false, Bool.not_false]
      rw [iter_search (vs0 := [IV.int .i64 0]) (fun i => [IV.int .i64 (i : Int)]) (fun x => befB m.c m.r x.c x.r) 0 (fun i => [IV.int .i64 (i : Int)]) 0 [IV.int .i64 (l.length : Int)] l rfl (by have := rounds_eq; omega)]
      · have fin : ∀ at' : Nat, at' ≤ l.length → ((islcL 6 (eMvs l) none (some (IV.int .i64 (at' : Int)))).bind fun v19 => (iapp 6 56 (.lst []) v19).bind fun v20 => (iapp 6 56 v20 (.lst [[.int .i64 m.c, .int .i64 m.r, .int .i64 m.par, .int .i64 m.ch, .str m.nm, .flt .f64 m.rk]])).bind fun v21 =>
            (islcL 6 (eMvs l) (some (IV.int .i64 (at' : Int))) none).bind fun v22 => (iapp 6 56 v21 v22).bind fun v23 => some [v23, IV.int .i64 (at' : Int), .bool true]) = some [eMvs (l.take at' ++ [m] ++ l.drop at'), .int .i64 (at' : Int), .bool true] := by
          intro at' hat
          have e3 : IV.lst [[.int .i64 m.c, .int .i64 m.r, .int .i64 m.par, .int .i64 m.ch, .str m.nm, .flt .f64 m.rk]] = eMvs [m] := rfl
          have e4 : IV.lst [] = eMvs [] := rfl
          simp only [Option.bind_some, islcL_hi hat, islcL_lo hat]
          rw [e3, e4, iapp_Mv (by simp) (by simp; omega)]
          simp only [Option.bind_some, List.nil_append]
          rw [iapp_Mv (by simp; omega) (by simp)]
          simp only [Option.bind_some]
          rw [iapp_Mv (by simp; omega) (by simp; omega)]
          rfl
        unfold atV
        cases hh : l.findIdx? (fun x => befB m.c m.r x.c x.r) with
        | none =>
          simp only [Option.bind_some, sel_zero, nth_zero, Option.getD_none]
          exact fin l.length (Nat.le_refl _)
        | some i =>
          obtain ⟨hi, _⟩ := List.findIdx?_eq_some_iff_getElem.1 hh
          simp only [Option.bind_some, sel_zero, nth_zero, Option.getD_some]
          exact fin i (Nat.le_of_lt hi)
      · intro i x hx
        have hi : i < l.length := (List.getElem?_eq_some_iff.1 hx).1
        unfold ref13_Insert_l7
        simp only [ilenL_lst, nth_zero, nth_one, ibin_lss, List.length_map, Int.ofNat_lt, at_Mv hx, decide_true, icond_true, Option.bind_some, ref02_Before_eq, iun_not, icond_bool, ibin_succ (show i < 2 ^ 62 by omega), if_true]
        cases befB m.c m.r x.c x.r <;> rfl
      · unfold ref13_Insert_l7
        simp
  · intro i x hx
    have hi : i < l.length := (List.getElem?_eq_some_iff.1 hx).1
    unfold ref13_Insert_l2
    simp only [ilenL_lst, nth_zero, nth_one, ibin_lss, List.length_map, Int.ofNat_lt, at_Mv hx, decide_true, icond_true, Option.bind_some, ieqs, ieqL, ieq1, if_true, Option.map_some, Bool.and_true, icond_bool, ibin_succ (show i < 2 ^ 62 by omega)]
    have : ((x.c == m.c) && (x.r == m.r)) = tmB m.c m.r x := by
      unfold tmB
      by_cases h1 : x.c = m.c <;> by_cases h2 : x.r = m.r <;> simp [h1, h2]
    rw [this]
    cases tmB m.c m.r x <;> rfl
  · unfold ref13_Insert_l2
    simp
def uniV (a b : List Mv) : List Mv := b.foldl insV a
theorem uniV_length : ∀ (b a : List Mv), (uniV a b).length ≤ a.length + b.length
  | [], a => by simp [uniV]
  | x :: b, a => by
    have h1 := uniV_length b (insV a x)
    have h2 := insV_length a x
    simp only [uniV, List.foldl_cons, List.length_cons] at h1 ⊢
    omega
def sinV (l : List Mv) (c r : Int) : List Mv := l.filter fun m => befB c r m.c m.r
theorem fold_filter {α : Type} (p : α → Bool) : ∀ (l k : List α), l.foldl (fun s x => if p x = true then s ++ [x] else s) k = k ++ l.filter p
  | [], k => by simp
  | x :: l, k => by
    simp only [List.foldl_cons, List.filter_cons]
    rw [fold_filter]
    split <;> simp
theorem ref13_Since_eq {l : List Mv} (hl : l.length < 2 ^ 16) (c r : Int) : ref13_Since_s (eMvs l) (.int .i64 c) (.int .i64 r) = some [eMvs (sinV l c r)] := by
  unfold ref13_Since_s
  rw [iter_fold (vs0 := [.lst [], .int .i64 0]) (fun i (v : List Mv) => [eMvs v, .int .i64 (i : Int)]) (fun s m => if befB c r m.c m.r = true then s ++ [m] else s) 0 (fun v => [eMvs v]) (fun i v => v.length ≤ i) l [] rfl (by have := rounds_eq; omega) (by simp)]
  · rw [fold_filter (fun m : Mv => befB c r m.c m.r)]
    simp [sinV]
  · intro i s x hx hI
    have hi : i < l.length := (List.getElem?_eq_some_iff.1 hx).1
    refine ⟨by split; (simp; omega); omega, ?_⟩
    have e3 : IV.lst [[.int .i64 x.c, .int .i64 x.r, .int .i64 x.par, .int .i64 x.ch, .str x.nm, .flt .f64 x.rk]] = eMvs [x] := rfl
    unfold ref13_Since_l3
    simp only [ilenL_lst, nth_zero, nth_one, nth_two, nth_three, nth_four, nth_five, ibin_lss, List.length_map, Int.ofNat_lt, at_Mv hx, decide_true, icond_true, Option.bind_some, ref02_Before_eq, icond_bool, ibin_succ (show i < 2 ^ 62 by omega), e3, iapp_Mv (show s.length < 2 ^ 20 by omega) (show [x].length < 2 ^ 20 by simp)]
    cases befB c r x.c x.r <;> rfl
  · intro s _
    unfold ref13_Since_l3
    simp
end Go.AM
/- Moves, plainly: their order; the laws of one insertion. -/
set_option linter.unusedVariables false
set_option linter.unusedSimpArgs false
namespace Go.AM

theorem ShOK.list_invP {α : Type} {enc : α → List IV} {Q : α → Prop} {L : List Sh} (hinv : ∀ e, Typed L e → ∃ x, e = enc x ∧ Q x) {c : IV} (h : ShOK (.slc L) c) : ∃ l : List α, c = .lst (l.map enc) ∧ ∀ x ∈ l, Q x := by
  cases h with
  | slc _ es hl h1 h2 =>
    have : ∀ e ∈ es, ∃ x, e = enc x ∧ Q x := fun e he => by
      obtain ⟨i, hi⟩ := List.getElem?_of_mem he
      exact hinv e ⟨h1 e he, fun j s c hs hc => h2 i j e c s hi hc hs⟩
    have key : ∀ (es : List (List IV)), (∀ e ∈ es, ∃ x, e = enc x ∧ Q x) → ∃ l : List α, es = l.map enc ∧ ∀ x ∈ l, Q x := by
      intro es
      induction es with
      | nil => intro _; exact ⟨[], rfl, fun x hx => by simp at hx⟩
      | cons e es ih =>
        intro h
        obtain ⟨x, rfl, hx⟩ := h e List.mem_cons_self
        obtain ⟨l, rfl, hl⟩ := ih fun e he => h e (List.mem_cons_of_mem _ he)
        exact ⟨x :: l, rfl, fun y hy => by
          rcases List.mem_cons.1 hy with rfl | hy
          · exact hx
          · exact hl y hy⟩
    obtain ⟨l, rfl, hQ⟩ := key es this
    exact ⟨l, rfl, hQ⟩
theorem ints_inv {cs : List IV} (h : Typed [.slc [.int .i64]] cs) : ∃ v : List Int, cs = [eInts v] := by
  obtain ⟨c, rfl, h1⟩ := h.one_inv
  obtain ⟨l, rfl⟩ := h1.list_inv (enc := eInt) fun e he => by
    obtain ⟨c0, rfl, h0⟩ := he.one_inv
    cases h0
    exact ⟨_, rfl⟩
  exact ⟨l, rfl⟩

/-! ### Order -/
theorem befB_iff {c r c' r' : Int} : befB c r c' r' = true ↔ c < c' ∨ (c = c' ∧ r < r') := by
  unfold befB; simp only [Bool.or_eq_true, Bool.and_eq_true, decide_eq_true_eq]
theorem befV_iff {a b : Mv} : befV a b = true ↔ a.c < b.c ∨ (a.c = b.c ∧ a.r < b.r) := befB_iff
theorem befV_trans {a b c : Mv} (h : befV a b = true) (k : befV b c = true) : befV a c = true := by
  rw [befV_iff] at *; omega
def SortedV (l : List Mv) : Prop := l.Pairwise fun a b => befV a b = true
theorem adj_sorted {l : List Mv} : adjB befV l = true ↔ SortedV l := by
  rw [adjB_iff]
  constructor
  · intro h
    exact pairwise_of_adj (R := fun a b => befV a b = true) (fun a b c => befV_trans) fun i hi => h i l[i] l[i + 1] (List.getElem?_eq_getElem (by omega)) (List.getElem?_eq_getElem hi)
  · intro h i x y hx hy
    obtain ⟨h1, rfl⟩ := List.getElem?_eq_some_iff.1 hx
    obtain ⟨h2, rfl⟩ := List.getElem?_eq_some_iff.1 hy
    exact List.pairwise_iff_getElem.1 h i (i + 1) h1 h2 (by omega)
/-- Put in ahead of the first that is behind it. -/
def insR (m : Mv) : List Mv → List Mv
  | [] => [m]
  | x :: l => if befV m x = true then m :: x :: l else x :: insR m l
theorem insR_ix (m : Mv) : ∀ l : List Mv, l.take (atV l m) ++ [m] ++ l.drop (atV l m) = insR m l
  | [] => rfl
  | x :: l => by
    have ih := insR_ix m l
    unfold atV at ih ⊢
    simp only [List.findIdx?_cons, insR]
    by_cases h : befV m x = true
    · have h' : befB m.c m.r x.c x.r = true := h
      simp [h, h']
    · have h' : ¬ befB m.c m.r x.c x.r = true := h
      simp only [h', if_false, h]
      rw [← ih]
      cases l.findIdx? (fun x => befB m.c m.r x.c x.r) <;> simp
theorem insV_R {l : List Mv} {m : Mv} : insV l m = if l.any (tmB m.c m.r) = true then l else insR m l := by
  unfold insV; rw [insR_ix]
theorem insR_mem {m : Mv} : ∀ {l : List Mv} {x : Mv}, x ∈ insR m l ↔ x = m ∨ x ∈ l
  | [], x => by simp [insR]
  | y :: l, x => by
    simp only [insR]
    split
    · simp
    · simp only [List.mem_cons, insR_mem]
      constructor
      · rintro (h | h | h) <;> simp [h]
      · rintro (h | h | h) <;> simp [h]
theorem insR_sorted {m : Mv} : ∀ {l : List Mv}, SortedV l → (∀ x ∈ l, ¬ (x.c = m.c ∧ x.r = m.r)) → SortedV (insR m l)
  | [], _, _ => List.pairwise_singleton _ _
  | x :: l, h, hn => by
    obtain ⟨h1, h2⟩ := List.pairwise_cons.1 h
    have hx := hn x List.mem_cons_self
    simp only [insR]
    split
    · rename_i hb
      refine List.pairwise_cons.2 ⟨fun y hy => ?_, h⟩
      rcases List.mem_cons.1 hy with rfl | hy
      · exact hb
      · exact befV_trans hb (h1 y hy)
    · rename_i hb
      refine List.pairwise_cons.2 ⟨fun y hy => ?_, insR_sorted h2 fun y hy => hn y (List.mem_cons_of_mem _ hy)⟩
      rcases insR_mem.1 hy with rfl | hy
      · rw [befV_iff] at hb ⊢; omega
      · exact h1 y hy
theorem any_tm {l : List Mv} {c r : Int} : l.any (tmB c r) = true ↔ ∃ x ∈ l, x.c = c ∧ x.r = r := by
  rw [List.any_eq_true]
  simp only [tmB, decide_eq_true_eq]
theorem insV_sorted {l : List Mv} {m : Mv} (h : SortedV l) : SortedV (insV l m) := by
  rw [insV_R]
  split
  · exact h
  · rename_i hn
    exact insR_sorted h fun x hx e => hn (any_tm.2 ⟨x, hx, e⟩)
theorem insV_mem {l : List Mv} {m x : Mv} (h : x ∈ insV l m) : x = m ∨ x ∈ l := by
  rw [insV_R] at h
  split at h
  · exact .inr h
  · exact insR_mem.1 h
theorem uniV_sorted : ∀ {b a : List Mv}, SortedV a → SortedV (uniV a b)
  | [], a, h => h
  | x :: b, a, h => uniV_sorted (b := b) (insV_sorted h)
theorem uniV_mem : ∀ {b a : List Mv} {x : Mv}, x ∈ uniV a b → x ∈ a ∨ x ∈ b
  | [], a, x, h => .inl h
  | y :: b, a, x, h => by
    rcases uniV_mem (b := b) h with h | h
    · rcases insV_mem h with rfl | h
      · exact .inr List.mem_cons_self
      · exact .inl h
    · exact .inr (List.mem_cons_of_mem _ h)

/-! ### What stands at a time -/
def getK (l : List Mv) (c r : Int) : Option Key := (l.find? (tmB c r)).map keyV
theorem getK_cons {x : Mv} {l : List Mv} {c r : Int} : getK (x :: l) c r = if x.c = c ∧ x.r = r then some (keyV x) else getK l c r := by
  unfold getK
  simp only [List.find?_cons, tmB]
  by_cases h : x.c = c ∧ x.r = r
  · simp [h]
  · simp [h]
theorem getK_none {l : List Mv} {c r : Int} : getK l c r = none ↔ ∀ x ∈ l, ¬ (x.c = c ∧ x.r = r) := by
  unfold getK
  simp only [Option.map_eq_none_iff, List.find?_eq_none, tmB, decide_eq_true_eq]
theorem getK_some {l : List Mv} {c r : Int} {k : Key} (h : getK l c r = some k) : ∃ x ∈ l, x.c = c ∧ x.r = r ∧ keyV x = k := by
  unfold getK at h
  obtain ⟨x, hx, rfl⟩ := Option.map_eq_some_iff.1 h
  have h1 := List.find?_some hx
  simp only [tmB, decide_eq_true_eq] at h1
  exact ⟨x, List.mem_of_find?_eq_some hx, h1.1, h1.2, rfl⟩
theorem getK_insR {m : Mv} {c r : Int} : ∀ {l : List Mv}, (∀ x ∈ l, ¬ (x.c = m.c ∧ x.r = m.r)) → getK (insR m l) c r = (getK l c r).or (if m.c = c ∧ m.r = r then some (keyV m) else none)
  | [], _ => by simp only [insR, getK_cons]; rfl
  | x :: l, hn => by
    have hx := hn x List.mem_cons_self
    have ih := getK_insR (m := m) (c := c) (r := r) fun y hy => hn y (List.mem_cons_of_mem _ hy)
    simp only [insR]
    split
    · rw [getK_cons, getK_cons]
      by_cases h1 : m.c = c ∧ m.r = r
      · have h2 : ¬ (x.c = c ∧ x.r = r) := fun h2 => hx ⟨by omega, by omega⟩
        have h3 : getK l c r = none := getK_none.2 fun y hy e => hn y (List.mem_cons_of_mem _ hy) ⟨by omega, by omega⟩
        rw [if_pos h1, if_neg h2, if_pos h1, h3]; rfl
      · rw [if_neg h1, if_neg h1]
        simp
    · rw [getK_cons, getK_cons, ih]
      by_cases h2 : x.c = c ∧ x.r = r
      · rw [if_pos h2, if_pos h2]; rfl
      · rw [if_neg h2, if_neg h2]
theorem getK_ins {l : List Mv} {m : Mv} {c r : Int} : getK (insV l m) c r = (getK l c r).or (if m.c = c ∧ m.r = r then some (keyV m) else none) := by
  rw [insV_R]
  split
  · rename_i h
    obtain ⟨x, hx, h1, h2⟩ := any_tm.1 h
    by_cases h3 : m.c = c ∧ m.r = r
    · cases hk : getK l c r with
      | none => exact absurd ⟨by omega, by omega⟩ (getK_none.1 hk x hx)
      | some k => rfl
    · rw [if_neg h3]; simp
  · rename_i h
    exact getK_insR fun x hx e => h (any_tm.2 ⟨x, hx, e⟩)
theorem getK_uni : ∀ {b a : List Mv} {c r : Int}, getK (uniV a b) c r = (getK a c r).or (getK b c r)
  | [], a, c, r => by simp [uniV, getK]
  | x :: b, a, c, r => by
    show getK (uniV (insV a x) b) c r = _
    rw [getK_uni, getK_ins, getK_cons, Option.or_assoc]
    congr 1
    split <;> simp
theorem sorted_none {x : Mv} {l : List Mv} (h : SortedV (x :: l)) {c r : Int} (hle : ¬ befB x.c x.r c r = true) : getK l c r = none :=
  getK_none.2 fun y hy e => by
    have := (List.pairwise_cons.1 h).1 y hy
    rw [befV_iff] at this
    rw [befB_iff] at hle
    omega
theorem key_ext : ∀ {a b : List Mv}, SortedV a → SortedV b → (∀ c r, getK a c r = getK b c r) → a.map keyV = b.map keyV
  | [], [], _, _, _ => rfl
  | [], y :: b, _, _, h => by
    have := h y.c y.r
    rw [getK_cons, if_pos ⟨rfl, rfl⟩] at this
    cases this
  | x :: a, [], _, _, h => by
    have := h x.c x.r
    rw [getK_cons, if_pos ⟨rfl, rfl⟩] at this
    cases this
  | x :: a, y :: b, ha, hb, h => by
    have hirr : ∀ z : Mv, ¬ befB z.c z.r z.c z.r = true := fun z => by rw [befB_iff]; omega
    have e : x.c = y.c ∧ x.r = y.r := by
      have hx := h x.c x.r
      rw [getK_cons, if_pos ⟨rfl, rfl⟩, getK_cons] at hx
      have hy := h y.c y.r
      rw [getK_cons (x := y), if_pos ⟨rfl, rfl⟩, getK_cons] at hy
      by_cases e : x.c = y.c ∧ x.r = y.r
      · exact e
      · have e1 : ¬ (y.c = x.c ∧ y.r = x.r) := fun e' => e ⟨e'.1.symm, e'.2.symm⟩
        rw [if_neg e1] at hx
        rw [if_neg e] at hy
        by_cases hlt : befB y.c y.r x.c x.r = true
        · have : ¬ befB x.c x.r y.c y.r = true := by rw [befB_iff] at hlt ⊢; omega
          rw [sorted_none ha this] at hy; cases hy
        · rw [sorted_none hb hlt] at hx; cases hx
    have ek : keyV x = keyV y := by
      have := h x.c x.r
      rw [getK_cons, if_pos ⟨rfl, rfl⟩, getK_cons, if_pos ⟨e.1.symm, e.2.symm⟩] at this
      exact Option.some.inj this
    simp only [List.map_cons, ek]
    congr 1
    refine key_ext (List.pairwise_cons.1 ha).2 (List.pairwise_cons.1 hb).2 fun c r => ?_
    have := h c r
    rw [getK_cons, getK_cons] at this
    by_cases hc : x.c = c ∧ x.r = r
    · have n1 : getK a c r = none := sorted_none ha (by rw [← hc.1, ← hc.2]; exact hirr x)
      have n2 : getK b c r = none := sorted_none hb (by rw [← hc.1, ← hc.2, e.1, e.2]; exact hirr y)
      rw [n1, n2]
    · have : ¬ (y.c = c ∧ y.r = r) := fun e' => hc ⟨e.1.trans e'.1, e.2.trans e'.2⟩
      rw [if_neg hc, if_neg this] at *
      assumption
theorem mayV_parts {l : List Mv} : mayV l = true ↔ l.length ≤ 2000 ∧ (∀ m ∈ l, oneV m = true) ∧ SortedV l := by
  unfold mayV
  simp only [Bool.and_eq_true, decide_eq_true_eq, List.all_eq_true, adj_sorted]

/-! ### The laws -/
end Go.AM

/- Moves, plainly: the laws of many. -/
set_option linter.unusedVariables false
set_option linter.unusedSimpArgs false
namespace Go.AM

/-- Are two of one time unlike? -/
def clashB (l : List Mv) : Bool := anyI (fun i x => (l.take i).any fun y => decide (x.c = y.c ∧ x.r = y.r) && !decide (keyV x = keyV y)) l 0
theorem no_clash {l : List Mv} (h : clashB l = false) : ∀ x ∈ l, ∀ y ∈ l, x.c = y.c → x.r = y.r → keyV x = keyV y := by
  have key : ∀ (i j : Nat) (x y : Mv), l[i]? = some x → l[j]? = some y → j < i → x.c = y.c → x.r = y.r → keyV x = keyV y := fun i j x y hx hy hj hc hr => by
    have := anyI_false.1 h i x hx
    rw [Nat.zero_add, List.any_eq_false] at this
    have hm : y ∈ l.take i := List.mem_of_getElem? (by rw [List.getElem?_take_of_lt hj]; exact hy)
    have h2 := this y hm
    by_cases hk : keyV x = keyV y
    · exact hk
    · exact absurd (by simp [hc, hr, hk]) h2
  intro x hx y hy hc hr
  obtain ⟨i, hi⟩ := List.getElem?_of_mem hx
  obtain ⟨j, hj⟩ := List.getElem?_of_mem hy
  rcases Nat.lt_trichotomy i j with h1 | h1 | h1
  · exact (key j i y x hj hi h1 hc.symm hr.symm).symm
  · subst h1; rw [hi] at hj; cases hj; rfl
  · exact key i j x y hi hj h1 hc hr
theorem getK_of_mem {l : List Mv} (hn : ∀ x ∈ l, ∀ y ∈ l, x.c = y.c → x.r = y.r → keyV x = keyV y) {x : Mv} (hx : x ∈ l) : getK l x.c x.r = some (keyV x) := by
  cases h : getK l x.c x.r with
  | none => exact absurd ⟨rfl, rfl⟩ (getK_none.1 h x hx)
  | some k =>
    obtain ⟨y, hy, h1, h2, h3⟩ := getK_some h
    rw [← h3, hn y hy x hx h1 h2]

/-! ### Those since a time -/
theorem since_drop {l : List Mv} (h : SortedV l) (c r : Int) : sinV l c r = l.drop (l.length - (sinV l c r).length) ∧ ∀ i x, l[i]? = some x → (befB c r x.c x.r = decide (l.length - (sinV l c r).length ≤ i)) := by
  induction l with
  | nil => exact ⟨rfl, fun i x hx => by simp at hx⟩
  | cons y l ih =>
    obtain ⟨h1, h2⟩ := List.pairwise_cons.1 h
    obtain ⟨i1, i2⟩ := ih h2
    have hle : (sinV l c r).length ≤ l.length := List.length_filter_le _ _
    by_cases hy : befB c r y.c y.r = true
    · have hall : sinV l c r = l := List.filter_eq_self.2 fun x hx => by
        have := h1 x hx
        rw [befV_iff] at this
        rw [befB_iff] at hy ⊢
        omega
      have hs : sinV (y :: l) c r = y :: l := by
        show List.filter _ _ = _
        rw [List.filter_cons, if_pos hy]
        congr 1
      rw [hs]
      refine ⟨by simp, fun i x hx => ?_⟩
      have : befB c r x.c x.r = true := by
        rcases List.mem_cons.1 (List.mem_of_getElem? hx) with rfl | hm
        · exact hy
        · have := h1 x hm
          rw [befV_iff] at this
          rw [befB_iff] at hy ⊢
          omega
      rw [this]; simp
    · have hs : sinV (y :: l) c r = sinV l c r := by
        show List.filter _ _ = _
        rw [List.filter_cons, if_neg hy]
        rfl
      rw [hs]
      have e : (y :: l).length - (sinV l c r).length = (l.length - (sinV l c r).length) + 1 := by simp; omega
      rw [e]
      refine ⟨by rw [List.drop_succ_cons]; exact i1, fun i x hx => ?_⟩
      cases i with
      | zero =>
        cases hx
        simp only [Bool.not_eq_true] at hy
        rw [hy]; simp
      | succ i =>
        rw [i2 i x (by simpa using hx)]
        exact decide_eq_decide.2 (by omega)
/-! ### Three lists together -/
end Go.AM

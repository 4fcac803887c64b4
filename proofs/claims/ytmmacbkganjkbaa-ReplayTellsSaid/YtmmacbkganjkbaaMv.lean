/- Moves, plainly: the program's functions and the references'. -/
import Derived.Test.YtmmacbkganjkbaaMk
import Derived.Test.YtmmacbkganjkbaaFl
set_option linter.unusedVariables false
set_option linter.unusedSimpArgs false
namespace Go.AM

/-! ### Times -/
def cmpI (a b : Int) : Int := if a < b then -1 else if b < a then 1 else 0
theorem cmp_Compare_eq (a b : Int) : cmp_Compare_int_s (.int .i64 a) (.int .i64 b) = some [.int .i64 (cmpI a b)] := by
  unfold cmp_Compare_int_s cmp_isNaN_int_s cmpI
  simp only [ibin_neq, Option.bind_some, ne_eq, not_true_eq_false, decide_false, scal_bool, scal_nil, Option.map_some, nth_zero, icond_false, ibin_lss, ibin_gtr, icond_dec, scal_int]
  split
  · rfl
  · split <;> rfl
def eClo (x : IV × Int) : List IV := [x.1]
def firstNZ : List Int → Int
  | [] => 0
  | x :: l => if x ≠ 0 then x else firstNZ l
theorem firstNZ_ix {α : Type} {g : α → Int} {d : α} : ∀ {l : List α}, firstNZ (l.map g) = match l.findIdx? (fun x => decide (g x ≠ 0)) with | some i => g (l.getD i d) | none => 0
  | [] => rfl
  | x :: l => by
    simp only [List.map_cons, firstNZ, List.findIdx?_cons, decide_eq_true_eq]
    by_cases h : g x ≠ 0
    · simp [h]
    · simp only [h, if_false]
      rw [firstNZ_ix (d := d)]
      cases l.findIdx? (fun x => decide (g x ≠ 0)) <;> simp
theorem rank_first_eq {C : IV → List Nat → List (List IV) → Option (List IV)} {l : List (IV × Int)} (hl : l.length < 100) (hC : ∀ x ∈ l, C x.1 [1] [] = some [.int .i64 x.2]) : rank_first_s C (.lst (l.map eClo)) = some [.int .i64 (firstNZ (l.map (·.2)))] := by
  unfold rank_first_s
  simp only [ilenL_lst, Option.bind_some]
  rw [iter_search (vs0 := [IV.int .i64 0]) (fun i => [IV.int .i64 (i : Int)]) (fun x => decide (x.2 ≠ 0)) 1 (fun i => [IV.int .i64 (l.getD i (.nilp, 0)).2]) 0 [] l rfl (by have := rounds_eq; omega), firstNZ_ix (d := (.nilp, 0))]
  · cases l.findIdx? (fun x => decide (x.2 ≠ 0)) <;> simp
  · intro i x hx
    have hi : i < l.length := (List.getElem?_eq_some_iff.1 hx).1
    have hc := hC x (List.mem_of_getElem? hx)
    have hxx : l.getD i (.nilp, 0) = x := by rw [List.getD_eq_getElem?_getD, hx]; rfl
    have e1 := iidx_map (enc := eClo) (sz := 1) hx rfl Nat.zero_lt_one
    have e2 : ild (.lst (l.map eClo)) i 0 = some x.1 := ild_map hx
    unfold rank_first_l2
    simp only [nth_zero, ibin_lss, List.length_map, Int.ofNat_lt, hi, decide_true, icond_true, Option.bind_some, e1, e2, hc, ibin_neq, icond_dec, ibin_succ (show i < 2 ^ 62 by omega), hxx, decide_eq_true_eq]
    split <;> rfl
  · unfold rank_first_l2
    simp
theorem rank_Before_eq (c r c' r' : Int) : rank_Before_s (.int .i64 c) (.int .i64 r) (.int .i64 c') (.int .i64 r') = some [.bool (befB c r c' r')] := by
  unfold rank_Before_s
  have h := rank_first_eq (C := Cx_rank_Before) (l := [((.clo (.func n_rank_Before_1) [(.ptr [.int .i64 c, .int .i64 r] 0), (.ptr [.int .i64 c', .int .i64 r'] 0)]), cmpI c c'), ((.clo (.func n_rank_Before_2) [(.ptr [.int .i64 c, .int .i64 r] 0), (.ptr [.int .i64 c', .int .i64 r'] 0)]), cmpI r r')]) (by simp) (by
    intro x hx
    simp only [List.mem_cons, List.not_mem_nil, or_false] at hx
    rcases hx with rfl | rfl
    · show rank_Before_1_s (.ptr [.int .i64 c, .int .i64 r] 0) (.ptr [.int .i64 c', .int .i64 r'] 0) = _
      unfold rank_Before_1_s
      simp [ipnn, ipld, cmp_Compare_eq]
    · show rank_Before_2_s (.ptr [.int .i64 c, .int .i64 r] 0) (.ptr [.int .i64 c', .int .i64 r'] 0) = _
      unfold rank_Before_2_s
      simp [ipnn, ipld, cmp_Compare_eq])
  simp only [List.map_cons, List.map_nil, eClo] at h
  rw [h]
  simp only [Option.bind_some, nth_zero, ibin_lss, scal_bool, scal_nil, Option.map_some]
  congr 3
  unfold befB cmpI firstNZ firstNZ firstNZ
  refine Bool.eq_of_iff ?_
  simp only [decide_eq_true_eq, Bool.or_eq_true, Bool.and_eq_true]
  by_cases h1 : c < c'
  · simp [h1]
  · by_cases h2 : c' < c
    · have : ¬ c = c' := by omega
      simp [h1, h2, this]
    · have : c = c' := by omega
      by_cases h3 : r < r'
      · simp [h1, h2, h3, this]
      · by_cases h4 : r' < r <;> simp [h1, h2, h3, h4, this]

/-! ### Are two the same? -/
structure Key where
  c : Int
  r : Int
  ch : Int
  par : Int
  nm : List UInt8
  rk : Nat
  deriving DecidableEq
theorem ref01_Same_eq {a b : Nat} (ha : a < 2 ^ 64) (hb : b < 2 ^ 64) : ref01_Same_s (.flt .f64 a) (.flt .f64 b) = some [.bool (decide (bitsN a = bitsN b))] := by
  unfold ref01_Same_s
  simp only [ref01_Bits_eq ha, ref01_Bits_eq hb, Option.bind_some, nth_zero, ibin_eql, scal_bool, scal_nil, Option.map_some, Int.natCast_inj]
theorem ibin_strs (a b : ByteArray) : ibin .eql (.str a) (.str b) = some (.bool (decide (a.toList = b.toList))) := by
  show some (IV.bool (a.toList == b.toList)) = _
  congr 2
  by_cases h : a.toList = b.toList <;> simp [h]
theorem ref12_Alike_eq {ch par ch' par' : Int} {nm nm' : ByteArray} {rk rk' : Nat} (h : rk < 2 ^ 64) (h' : rk' < 2 ^ 64) : ref12_Alike_s (.int .i64 ch) (.int .i64 par) (.str nm) (.flt .f64 rk) (.int .i64 ch') (.int .i64 par') (.str nm') (.flt .f64 rk') = some [.bool (decide (ch = ch' ∧ par = par' ∧ nm.toList = nm'.toList ∧ bitsN rk = bitsN rk'))] := by
  unfold ref12_Alike_s
  simp only [ibin_eql, ibin_strs, ref01_Same_eq h h', Option.bind_some, nth_zero, icond_mb, scal_bool, scal_nil, Option.map_some]
  congr 3
  by_cases h1 : ch = ch' <;> by_cases h2 : par = par' <;> by_cases h3 : nm.toList = nm'.toList <;> simp [h1, h2, h3]
/-- Lists of one length, element by element. -/
theorem any_keys {α β : Type} [DecidableEq β] {g : α → β} : ∀ {a b : List α} {k : Nat}, a.length = b.length → ∀ {b0 : List α}, (∀ i, b0[k + i]? = b[i]?) → anyI (fun i x => decide ((b0[i]?).map g ≠ some (g x))) a k = !decide (a.map g = b.map g)
  | [], [], _, _, _, _ => by simp [anyI]
  | x :: a, y :: b, k, hl, b0, hb => by
    have h0 := hb 0
    simp only [Nat.add_zero, List.getElem?_cons_zero] at h0
    simp only [anyI, List.map_cons, List.cons.injEq, h0, Option.map_some, ne_eq, Option.some.injEq]
    rw [any_keys (b := b) (by simpa using hl) (fun i => by have := hb (i + 1); rw [show k + 1 + i = k + (i + 1) by omega, this]; simp)]
    by_cases h1 : g x = g y
    · have : g y = g x := h1.symm
      by_cases h2 : a.map g = b.map g <;> simp [h1, h2]
    · have : ¬ g y = g x := fun e => h1 e.symm
      simp [h1, this]
/-! ### Which may be: the program's -/
theorem iter_done {f : List IV → Option SR} {vs : List IV} {k : Nat} {o : List IV} (n : Nat) (h : f vs = some (.done k o)) : iter (n + 1) f vs = some (k, o) := by
  simp only [iter, h, Option.bind_some]
/-! ### Put in, by their times -/
def tmB (c r : Int) (m : Mv) : Bool := decide (m.c = c ∧ m.r = r)
def atV (l : List Mv) (m : Mv) : Nat := (l.findIdx? fun x => befB m.c m.r x.c x.r).getD l.length
def insV (l : List Mv) (m : Mv) : List Mv := if l.any (tmB m.c m.r) = true then l else l.take (atV l m) ++ [m] ++ l.drop (atV l m)
def posV (l : List Mv) (m : Mv) : Nat := match l.findIdx? (tmB m.c m.r) with | some i => i | none => atV l m
def newV (l : List Mv) (m : Mv) : Bool := !l.any (tmB m.c m.r)
theorem atV_le (l : List Mv) (m : Mv) : atV l m ≤ l.length := by
  unfold atV
  cases h : l.findIdx? fun x => befB m.c m.r x.c x.r with
  | none => exact Nat.le_refl _
  | some i => exact Nat.le_of_lt (List.findIdx?_eq_some_iff_getElem.1 h).1
theorem insV_length (l : List Mv) (m : Mv) : (insV l m).length ≤ l.length + 1 := by
  unfold insV
  split
  · omega
  · have := atV_le l m; simp; omega
theorem iapp_Mv {l k : List Mv} (hl : l.length < 2 ^ 20) (hk : k.length < 2 ^ 20) : iapp 6 56 (eMvs l) (eMvs k) = some (eMvs (l ++ k)) := by
  simp only [iapp]
  rw [if_pos]
  · simp
  · refine ⟨by simp; omega, by simp [eMv]⟩
theorem insert_Mv {l : List Mv} (hl : l.length < 2 ^ 16) {i : Nat} (hi : i ≤ l.length) (m : Mv) : slices_Insert_Move_s (eMvs l) (.int .i64 (i : Int)) (.lst [[.int .i64 m.c, .int .i64 m.r, .int .i64 m.par, .int .i64 m.ch, .str m.nm, .flt .f64 m.rk]]) = some [eMvs (l.take i ++ [m] ++ l.drop i)] := by
  unfold slices_Insert_Move_s
  simp only [insertS]
  rw [if_pos]
  · simp [eMv]
  · refine ⟨by omega, by simp; omega, by simp; omega, rfl⟩
theorem clone_Mv {l : List Mv} (hl : l.length < 2 ^ 16) : slices_Clone_Move_s (eMvs l) = some [eMvs l] := by
  unfold slices_Clone_Move_s
  simp only [cloneS]
  rw [if_pos]
  refine ⟨by simp; omega, by simp [eMv]⟩
theorem seek_eq {C : IV → List Nat → List (List IV) → Option (List IV)} {fv : IV} {p : Mv → Bool} {l : List Mv} {c r : Int} (hl : l.length < 2 ^ 16) (hC : ∀ x ∈ l, C fv [1] [[.int .i64 c, .int .i64 r], eMv x] = some [.bool (p x)]) :
    moves_seek_s C (eMvs l) (.int .i64 c) (.int .i64 r) fv = some [.int .i64 (((l.findIdx? p).getD l.length : Nat) : Int)] := by
  unfold moves_seek_s
  simp only [ilenL_lst, Option.bind_some]
  rw [iter_search (vs0 := [IV.int .i64 0]) (fun i => [IV.int .i64 (i : Int)]) p 1 (fun i => [IV.int .i64 (i : Int)]) 0 [] l rfl (by have := rounds_eq; omega)]
  · cases l.findIdx? p <;> simp
  · intro i x hx
    have hi : i < l.length := (List.getElem?_eq_some_iff.1 hx).1
    have hc := hC x (List.mem_of_getElem? hx)
    unfold moves_seek_l2
    unfold eMv at hc
    simp only [nth_zero, nth_one, nth_two, nth_three, nth_four, nth_five, ibin_lss, List.length_map, Int.ofNat_lt, at_Mv hx, decide_true, icond_true, Option.bind_some, hc, icond_bool, ibin_succ (show i < 2 ^ 62 by omega), if_true]
    cases p x <;> rfl
  · unfold moves_seek_l2
    simp
theorem moves_Insert_eq {l : List Mv} (hl : l.length < 2 ^ 16) (m : Mv) : moves_Insert_s (eMvs l) (.int .i64 m.c) (.int .i64 m.r) (.int .i64 m.par) (.int .i64 m.ch) (.str m.nm) (.flt .f64 m.rk) = some [eMvs (insV l m), .int .i64 (posV l m : Int), .bool (newV l m)] := by
  unfold moves_Insert_s
  rw [seek_eq hl (p := tmB m.c m.r)]
  · simp only [Option.bind_some, nth_zero, ilenL_lst, ibin_lss, List.length_map, Int.ofNat_lt, icond_dec]
    unfold insV posV newV
    cases h : l.findIdx? (tmB m.c m.r) with
    | some i =>
      obtain ⟨hi, hp, _⟩ := List.findIdx?_eq_some_iff_getElem.1 h
      have hany : l.any (tmB m.c m.r) = true := List.any_eq_true.2 ⟨l[i], List.getElem_mem hi, hp⟩
      simp [hi, hany]
    | none =>
      have hall := List.findIdx?_eq_none_iff.1 h
      have hany : l.any (tmB m.c m.r) = false := by
        rw [List.any_eq_false]; intro x hx; rw [hall x hx]; simp
      simp only [Option.getD_none, Nat.lt_irrefl, if_false, hany, Bool.false_eq_true]
      rw [seek_eq hl (p := fun x => befB m.c m.r x.c x.r)]
      · have := insert_Mv hl (atV_le l m) m
        unfold atV at this ⊢
        simp only [Option.bind_some, clone_Mv hl, nth_zero, this, Bool.not_false]
      · intro x _
        show moves_when_before_s (.int .i64 m.c) (.int .i64 m.r) (.int .i64 x.c) (.int .i64 x.r) (.int .i64 x.par) (.int .i64 x.ch) (.str x.nm) (.flt .f64 x.rk) = _
        unfold moves_when_before_s
        simp [rank_Before_eq]
  · intro x _
    show moves_when_is_s (.int .i64 m.c) (.int .i64 m.r) (.int .i64 x.c) (.int .i64 x.r) (.int .i64 x.par) (.int .i64 x.ch) (.str x.nm) (.flt .f64 x.rk) = _
    unfold moves_when_is_s tmB
    simp only [ieqs, ieqL, ieq1, if_true, Option.bind_some, Option.map_some, Bool.and_true, scal_bool, scal_nil]
    congr 3
    by_cases h1 : x.c = m.c <;> by_cases h2 : x.r = m.r <;> simp [h1, h2]
def uniV (a b : List Mv) : List Mv := b.foldl insV a
theorem uniV_length : ∀ (b a : List Mv), (uniV a b).length ≤ a.length + b.length
  | [], a => by simp [uniV]
  | x :: b, a => by
    have h1 := uniV_length b (insV a x)
    have h2 := insV_length a x
    simp only [uniV, List.foldl_cons, List.length_cons] at h1 ⊢
    omega
end Go.AM
/- Moves, plainly: their order; the laws of one insertion. -/
set_option linter.unusedVariables false
set_option linter.unusedSimpArgs false
namespace Go.AM

theorem ShOK.list_invP {α : Type} {enc : α → List IV} {Q : α → Prop} {L : List Sh} (hinv : ∀ e, Typed L e → ∃ x, e = enc x ∧ Q x) {c : IV} (h : ShOK (.slc L) c) : ∃ l : List α, c = .lst (l.map enc) ∧ ∀ x ∈ l, Q x := by
  cases h with
  | slc _ es hl h1 h2 =>
    have : ∀ e ∈ es, ∃ x, e = enc x ∧ Q x := fun e he => by
      obtain ⟨i, hi⟩ := List.getElem?_of_mem he
      exact hinv e ⟨h1 e he, fun j s c hs hc => h2 i j e c s hi hc hs⟩
    have key : ∀ (es : List (List IV)), (∀ e ∈ es, ∃ x, e = enc x ∧ Q x) → ∃ l : List α, es = l.map enc ∧ ∀ x ∈ l, Q x := by
      intro es
      induction es with
      | nil => intro _; exact ⟨[], rfl, fun x hx => by simp at hx⟩
      | cons e es ih =>
        intro h
        obtain ⟨x, rfl, hx⟩ := h e List.mem_cons_self
        obtain ⟨l, rfl, hl⟩ := ih fun e he => h e (List.mem_cons_of_mem _ he)
        exact ⟨x :: l, rfl, fun y hy => by
          rcases List.mem_cons.1 hy with rfl | hy
          · exact hx
          · exact hl y hy⟩
    obtain ⟨l, rfl, hQ⟩ := key es this
    exact ⟨l, rfl, hQ⟩
/-! ### Order -/
theorem befB_iff {c r c' r' : Int} : befB c r c' r' = true ↔ c < c' ∨ (c = c' ∧ r < r') := by
  unfold befB; simp only [Bool.or_eq_true, Bool.and_eq_true, decide_eq_true_eq]
theorem befV_iff {a b : Mv} : befV a b = true ↔ a.c < b.c ∨ (a.c = b.c ∧ a.r < b.r) := befB_iff
theorem befV_trans {a b c : Mv} (h : befV a b = true) (k : befV b c = true) : befV a c = true := by
  rw [befV_iff] at *; omega
def SortedV (l : List Mv) : Prop := l.Pairwise fun a b => befV a b = true
/-- Put in ahead of the first that is behind it. -/
def insR (m : Mv) : List Mv → List Mv
  | [] => [m]
  | x :: l => if befV m x = true then m :: x :: l else x :: insR m l
theorem insR_ix (m : Mv) : ∀ l : List Mv, l.take (atV l m) ++ [m] ++ l.drop (atV l m) = insR m l
  | [] => rfl
  | x :: l => by
    have ih := insR_ix m l
    unfold atV at ih ⊢
    simp only [List.findIdx?_cons, insR]
    by_cases h : befV m x = true
    · have h' : befB m.c m.r x.c x.r = true := h
      simp [h, h']
    · have h' : ¬ befB m.c m.r x.c x.r = true := h
      simp only [h', if_false, h]
      rw [← ih]
      cases l.findIdx? (fun x => befB m.c m.r x.c x.r) <;> simp
theorem insV_R {l : List Mv} {m : Mv} : insV l m = if l.any (tmB m.c m.r) = true then l else insR m l := by
  unfold insV; rw [insR_ix]
theorem insR_mem {m : Mv} : ∀ {l : List Mv} {x : Mv}, x ∈ insR m l ↔ x = m ∨ x ∈ l
  | [], x => by simp [insR]
  | y :: l, x => by
    simp only [insR]
    split
    · simp
    · simp only [List.mem_cons, insR_mem]
      constructor
      · rintro (h | h | h) <;> simp [h]
      · rintro (h | h | h) <;> simp [h]
theorem insR_sorted {m : Mv} : ∀ {l : List Mv}, SortedV l → (∀ x ∈ l, ¬ (x.c = m.c ∧ x.r = m.r)) → SortedV (insR m l)
  | [], _, _ => List.pairwise_singleton _ _
  | x :: l, h, hn => by
    obtain ⟨h1, h2⟩ := List.pairwise_cons.1 h
    have hx := hn x List.mem_cons_self
    simp only [insR]
    split
    · rename_i hb
      refine List.pairwise_cons.2 ⟨fun y hy => ?_, h⟩
      rcases List.mem_cons.1 hy with rfl | hy
      · exact hb
      · exact befV_trans hb (h1 y hy)
    · rename_i hb
      refine List.pairwise_cons.2 ⟨fun y hy => ?_, insR_sorted h2 fun y hy => hn y (List.mem_cons_of_mem _ hy)⟩
      rcases insR_mem.1 hy with rfl | hy
      · rw [befV_iff] at hb ⊢; omega
      · exact h1 y hy
theorem any_tm {l : List Mv} {c r : Int} : l.any (tmB c r) = true ↔ ∃ x ∈ l, x.c = c ∧ x.r = r := by
  rw [List.any_eq_true]
  simp only [tmB, decide_eq_true_eq]
theorem insV_sorted {l : List Mv} {m : Mv} (h : SortedV l) : SortedV (insV l m) := by
  rw [insV_R]
  split
  · exact h
  · rename_i hn
    exact insR_sorted h fun x hx e => hn (any_tm.2 ⟨x, hx, e⟩)
theorem insV_mem {l : List Mv} {m x : Mv} (h : x ∈ insV l m) : x = m ∨ x ∈ l := by
  rw [insV_R] at h
  split at h
  · exact .inr h
  · exact insR_mem.1 h
theorem uniV_sorted : ∀ {b a : List Mv}, SortedV a → SortedV (uniV a b)
  | [], a, h => h
  | x :: b, a, h => uniV_sorted (b := b) (insV_sorted h)
theorem uniV_mem : ∀ {b a : List Mv} {x : Mv}, x ∈ uniV a b → x ∈ a ∨ x ∈ b
  | [], a, x, h => .inl h
  | y :: b, a, x, h => by
    rcases uniV_mem (b := b) h with h | h
    · rcases insV_mem h with rfl | h
      · exact .inr List.mem_cons_self
      · exact .inl h
    · exact .inr (List.mem_cons_of_mem _ h)

/-! ### What stands at a time -/
/-! ### The laws -/
end Go.AM

/- Moves, plainly: the program's functions and the references'. -/
import Derived.Test.YtcnafacmpplhbaaMl
import Derived.Test.YtcnafacmpplhbaaFl
set_option linter.unusedVariables false
set_option linter.unusedSimpArgs false
namespace Go.AM

/-! ### Times -/
def cmpI (a b : Int) : Int := if a < b then -1 else if b < a then 1 else 0
theorem cmp_Compare_eq (a b : Int) : cmp_Compare_int_s (.int .i64 a) (.int .i64 b) = some [.int .i64 (cmpI a b)] := by
  unfold cmp_Compare_int_s cmp_isNaN_int_s cmpI
  simp only [ibin_neq, Option.bind_some, ne_eq, not_true_eq_false, decide_false, scal_bool, scal_nil, Option.map_some, nth_zero, icond_false, ibin_lss, ibin_gtr, icond_dec, scal_int]
  split
  · rfl
  · split <;> rfl
def eClo (x : IV × Int) : List IV := [x.1]
def firstNZ : List Int → Int
  | [] => 0
  | x :: l => if x ≠ 0 then x else firstNZ l
theorem firstNZ_ix {α : Type} {g : α → Int} {d : α} : ∀ {l : List α}, firstNZ (l.map g) = match l.findIdx? (fun x => decide (g x ≠ 0)) with | some i => g (l.getD i d) | none => 0
  | [] => rfl
  | x :: l => by
    simp only [List.map_cons, firstNZ, List.findIdx?_cons, decide_eq_true_eq]
    by_cases h : g x ≠ 0
    · simp [h]
    · simp only [h, if_false]
      rw [firstNZ_ix (d := d)]
      cases l.findIdx? (fun x => decide (g x ≠ 0)) <;> simp
theorem rank_first_eq {C : IV → List Nat → List (List IV) → Option (List IV)} {l : List (IV × Int)} (hl : l.length < 100) (hC : ∀ x ∈ l, C x.1 [1] [] = some [.int .i64 x.2]) : rank_first_s C (.lst (l.map eClo)) = some [.int .i64 (firstNZ (l.map (·.2)))] := by
  unfold rank_first_s
  simp only [ilenL_lst, Option.bind_some]
  rw [iter_search (vs0 := [IV.int .i64 0]) (fun i => [IV.int .i64 (i : Int)]) (fun x => decide (x.2 ≠ 0)) 1 (fun i => [IV.int .i64 (l.getD i (.nilp, 0)).2]) 0 [] l rfl (by have := rounds_eq; omega), firstNZ_ix (d := (.nilp, 0))]
  · cases l.findIdx? (fun x => decide (x.2 ≠ 0)) <;> simp
  · intro i x hx
    have hi : i < l.length := (List.getElem?_eq_some_iff.1 hx).1
    have hc := hC x (List.mem_of_getElem? hx)
    have hxx : l.getD i (.nilp, 0) = x := by rw [List.getD_eq_getElem?_getD, hx]; rfl
    have e1 := iidx_map (enc := eClo) (sz := 1) hx rfl Nat.zero_lt_one
    have e2 : ild (.lst (l.map eClo)) i 0 = some x.1 := ild_map hx
    unfold rank_first_l2
    simp only [nth_zero, ibin_lss, List.length_map, Int.ofNat_lt, hi, decide_true, icond_true, Option.bind_some, e1, e2, hc, ibin_neq, icond_dec, ibin_succ (show i < 2 ^ 62 by omega), hxx, decide_eq_true_eq]
    split <;> rfl
  · unfold rank_first_l2
    simp
/-! ### Are two the same? -/
structure Key where
  c : Int
  r : Int
  ch : Int
  par : Int
  nm : List UInt8
  rk : Nat
  deriving DecidableEq
theorem bits_Same_eq {a b : Nat} (ha : a < 2 ^ 64) (hb : b < 2 ^ 64) : bits_Same_s (.flt .f64 a) (.flt .f64 b) = some [.bool (decide (bitsN a = bitsN b))] := by
  unfold bits_Same_s
  simp only [bits_Bits_eq ha, bits_Bits_eq hb, Option.bind_some, nth_zero, ibin_eql, scal_bool, scal_nil, Option.map_some, Int.natCast_inj]
theorem ref01_Same_eq {a b : Nat} (ha : a < 2 ^ 64) (hb : b < 2 ^ 64) : ref01_Same_s (.flt .f64 a) (.flt .f64 b) = some [.bool (decide (bitsN a = bitsN b))] := by
  unfold ref01_Same_s
  simp only [ref01_Bits_eq ha, ref01_Bits_eq hb, Option.bind_some, nth_zero, ibin_eql, scal_bool, scal_nil, Option.map_some, Int.natCast_inj]
theorem ibin_strs (a b : ByteArray) : ibin .eql (.str a) (.str b) = some (.bool (decide (a.toList = b.toList))) := by
  show some (IV.bool (a.toList == b.toList)) = _
  congr 2
  by_cases h : a.toList = b.toList <;> simp [h]
theorem ref12_Alike_eq {ch par ch' par' : Int} {nm nm' : ByteArray} {rk rk' : Nat} (h : rk < 2 ^ 64) (h' : rk' < 2 ^ 64) : ref12_Alike_s (.int .i64 ch) (.int .i64 par) (.str nm) (.flt .f64 rk) (.int .i64 ch') (.int .i64 par') (.str nm') (.flt .f64 rk') = some [.bool (decide (ch = ch' ∧ par = par' ∧ nm.toList = nm'.toList ∧ bitsN rk = bitsN rk'))] := by
  unfold ref12_Alike_s
  simp only [ibin_eql, ibin_strs, ref01_Same_eq h h', Option.bind_some, nth_zero, icond_mb, scal_bool, scal_nil, Option.map_some]
  congr 3
  by_cases h1 : ch = ch' <;> by_cases h2 : par = par' <;> by_cases h3 : nm.toList = nm'.toList <;> simp [h1, h2, h3]
/-- Lists of one length, element by element. -/
theorem any_keys {α β : Type} [DecidableEq β] {g : α → β} : ∀ {a b : List α} {k : Nat}, a.length = b.length → ∀ {b0 : List α}, (∀ i, b0[k + i]? = b[i]?) → anyI (fun i x => decide ((b0[i]?).map g ≠ some (g x))) a k = !decide (a.map g = b.map g)
  | [], [], _, _, _, _ => by simp [anyI]
  | x :: a, y :: b, k, hl, b0, hb => by
    have h0 := hb 0
    simp only [Nat.add_zero, List.getElem?_cons_zero] at h0
    simp only [anyI, List.map_cons, List.cons.injEq, h0, Option.map_some, ne_eq, Option.some.injEq]
    rw [any_keys (b := b) (by simpa using hl) (fun i => by have := hb (i + 1); rw [show k + 1 + i = k + (i + 1) by omega, this]; simp)]
    by_cases h1 : g x = g y
    · have : g y = g x := h1.symm
      by_cases h2 : a.map g = b.map g <;> simp [h1, h2]
    · have : ¬ g y = g x := fun e => h1 e.symm
      simp [h1, this]
/-! ### Which may be: the program's -/
theorem iter_done {f : List IV → Option SR} {vs : List IV} {k : Nat} {o : List IV} (n : Nat) (h : f vs = some (.done k o)) : iter (n + 1) f vs = some (k, o) := by
  simp only [iter, h, Option.bind_some]
/-! ### Put in, by their times -/
end Go.AM
/- Moves, plainly: their order; the laws of one insertion. -/
set_option linter.unusedVariables false
set_option linter.unusedSimpArgs false
namespace Go.AM

theorem ShOK.list_invP {α : Type} {enc : α → List IV} {Q : α → Prop} {L : List Sh} (hinv : ∀ e, Typed L e → ∃ x, e = enc x ∧ Q x) {c : IV} (h : ShOK (.slc L) c) : ∃ l : List α, c = .lst (l.map enc) ∧ ∀ x ∈ l, Q x := by
  cases h with
  | slc _ es hl h1 h2 =>
    have : ∀ e ∈ es, ∃ x, e = enc x ∧ Q x := fun e he => by
      obtain ⟨i, hi⟩ := List.getElem?_of_mem he
      exact hinv e ⟨h1 e he, fun j s c hs hc => h2 i j e c s hi hc hs⟩
    have key : ∀ (es : List (List IV)), (∀ e ∈ es, ∃ x, e = enc x ∧ Q x) → ∃ l : List α, es = l.map enc ∧ ∀ x ∈ l, Q x := by
      intro es
      induction es with
      | nil => intro _; exact ⟨[], rfl, fun x hx => by simp at hx⟩
      | cons e es ih =>
        intro h
        obtain ⟨x, rfl, hx⟩ := h e List.mem_cons_self
        obtain ⟨l, rfl, hl⟩ := ih fun e he => h e (List.mem_cons_of_mem _ he)
        exact ⟨x :: l, rfl, fun y hy => by
          rcases List.mem_cons.1 hy with rfl | hy
          · exact hx
          · exact hl y hy⟩
    obtain ⟨l, rfl, hQ⟩ := key es this
    exact ⟨l, rfl, hQ⟩
/-! ### Order -/
/-! ### What stands at a time -/
/-! ### The laws -/
end Go.AM

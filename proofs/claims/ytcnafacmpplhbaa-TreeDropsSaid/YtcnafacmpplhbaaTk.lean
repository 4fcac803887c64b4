/- Which row stands ahead of which; whether a number is among others. -/
import Derived.Test.YtcnafacmpplhbaaAf
import Derived.Test.YtcnafacmpplhbaaMm
import Derived.Test.YtcnafacmpplhbaaFl
set_option linter.unusedVariables false
set_option linter.unusedSimpArgs false
namespace Go.AM
theorem wordN_eq (w : Nat) : bitsN w = wordN w := rfl
theorem wordN_lt {w : Nat} (h : w < 2 ^ 64) : wordN w < 2 ^ 64 := by
  unfold wordN
  split
  · decide
  · exact h
theorem and_sign (u : Nat) (h : u < 2 ^ 64) : u &&& 9223372036854775808 = if 2 ^ 63 ≤ u then 9223372036854775808 else 0 := by
  apply Nat.eq_of_testBit_eq
  intro i
  rw [Nat.testBit_and, show (9223372036854775808 : Nat) = 2 ^ 63 from rfl, Nat.testBit_two_pow]
  by_cases hi : 63 = i
  · subst hi
    have h1 : u.testBit 63 = decide (2 ^ 63 ≤ u) := by
      by_cases c : 2 ^ 63 ≤ u
      · rw [decide_eq_true c]; exact Nat.testBit_of_two_pow_le_and_two_pow_add_one_gt c h
      · rw [decide_eq_false c]; exact Nat.testBit_lt_two_pow (by omega)
    rw [h1]
    by_cases c : 2 ^ 63 ≤ u
    · rw [if_pos c]; simp only [c, decide_true, Bool.and_self]; rfl
    · rw [if_neg c]; simp [c]
  · simp only [hi, decide_false, Bool.and_false]
    split
    · rw [Nat.testBit_two_pow]; simp [hi]
    · simp
theorem or_signK (u : Nat) (h : u < 2 ^ 63) : u ||| 9223372036854775808 = u + 2 ^ 63 := by
  have := or_hi (a := 1) (b := u) 63 h
  rw [Nat.or_comm, show (9223372036854775808 : Nat) = 1 * 2 ^ 63 from rfl, this]
  omega
theorem rank_Key_eq {w : Nat} (h : w < 2 ^ 64) : rank_Key_s (.flt .f64 w) = some [.int .u64 (keyN w : Int)] := by
  have hw := wordN_lt h
  unfold rank_Key_s
  simp only [bits_Bits_eq h, Option.bind_some, nth_zero]
  rw [wordN_eq]
  have hs : ibin .and (.int .u64 (wordN w : Int)) (.int .u64 9223372036854775808) = some (.int .u64 ((wordN w &&& 9223372036854775808 : Nat) : Int)) := ibin_andU hw (b := 9223372036854775808) (by decide)
  rw [hs, and_sign _ hw]
  simp only [Option.bind_some]
  unfold keyN
  by_cases c : 2 ^ 63 ≤ wordN w
  · rw [if_pos c, if_pos c]
    have hx : iun .xor (.int .u64 (wordN w : Int)) = some (.int .u64 ((2 ^ 64 - 1 - wordN w : Nat) : Int)) := by
      have hb : (BitVec.ofInt 64 (if IntKind.u64.signed = true then -1 else IntKind.u64.max) ^^^ BitVec.ofInt 64 (wordN w : Int)).toNat = 2 ^ 64 - 1 - wordN w := by
        have e1 : BitVec.ofInt 64 (if IntKind.u64.signed = true then -1 else IntKind.u64.max) = BitVec.allOnes 64 := by decide
        have e2 : BitVec.ofInt 64 (wordN w : Int) = BitVec.ofNat 64 (wordN w) := BitVec.ofInt_natCast ..
        rw [e1, e2, BitVec.allOnes_xor, BitVec.toNat_not, BitVec.toNat_ofNat, Nat.mod_eq_of_lt hw]
      show some (IV.int .u64 (IntKind.u64.wrap ((BitVec.ofInt 64 (if IntKind.u64.signed = true then -1 else IntKind.u64.max) ^^^ BitVec.ofInt 64 (wordN w : Int)).toNat : Int))) = _
      rw [hb, wrapU (by omega)]
    simp only [ibin_neq, Option.bind_some, icond_dec, hx]
    rw [if_pos (by decide)]
    rfl
  · rw [if_neg c, if_neg c]
    have ho : ibin .or (.int .u64 (wordN w : Int)) (.int .u64 9223372036854775808) = some (.int .u64 ((wordN w ||| 9223372036854775808 : Nat) : Int)) := ibin_orU hw (b := 9223372036854775808) (by decide)
    simp only [ibin_neq, Option.bind_some, icond_dec, ho]
    rw [if_neg (by decide), or_signK _ (by omega)]
    rfl
theorem cmp_u_eq (a b : Int) : cmp_Compare_uint64_s (.int .u64 a) (.int .u64 b) = some [.int .i64 (cmpI a b)] := by
  unfold cmp_Compare_uint64_s cmp_isNaN_uint64_s cmpI
  simp only [ibin_neq, Option.bind_some, ne_eq, not_true_eq_false, decide_false, scal_bool, scal_nil, Option.map_some, nth_zero, icond_false, ibin_lss, ibin_gtr, icond_dec, scal_int]
  split
  · rfl
  · split <;> rfl
theorem rank_Compare_eq {a b : Nat} (ha : a < 2 ^ 64) (hb : b < 2 ^ 64) : rank_Compare_s (.flt .f64 a) (.flt .f64 b) = some [.int .i64 (cmpI (keyN a) (keyN b))] := by
  unfold rank_Compare_s
  simp only [rank_Key_eq ha, rank_Key_eq hb, Option.bind_some, nth_zero, cmp_u_eq, scal_int, scal_nil, Option.map_some]
theorem rank_Less_eq (x y : Rv) : rank_Less_s (.int .i64 x.ch) (.int .i64 x.par) (.str x.nm) (.flt .f64 x.rk) (.int .i64 y.ch) (.int .i64 y.par) (.str y.nm) (.flt .f64 y.rk) = some [.bool (lessV x y)] := by
  unfold rank_Less_s
  have h := rank_first_eq (C := Cx_rank_Less) (l := [((.clo (.func n_rank_Less_1) [(.ptr (rvI x) 0), (.ptr (rvI y) 0)]), cmpI (keyN x.rk) (keyN y.rk)), ((.clo (.func n_rank_Less_2) [(.ptr (rvI x) 0), (.ptr (rvI y) 0)]), cmpI x.ch y.ch)]) (by simp) (by
    intro z hz
    simp only [List.mem_cons, List.not_mem_nil, or_false] at hz
    rcases hz with rfl | rfl
    · show rank_Less_1_s (.ptr (rvI x) 0) (.ptr (rvI y) 0) = _
      unfold rank_Less_1_s
      simp [ipnn, ipld, rvI, rank_Compare_eq x.ok y.ok]
    · show rank_Less_2_s (.ptr (rvI x) 0) (.ptr (rvI y) 0) = _
      unfold rank_Less_2_s
      simp [ipnn, ipld, rvI, cmp_Compare_eq])
  simp only [List.map_cons, List.map_nil, eClo, rvI] at h
  rw [h]
  simp only [Option.bind_some, nth_zero, ibin_lss, scal_bool, scal_nil, Option.map_some]
  congr 3
  unfold lessV firstNZ firstNZ firstNZ cmpI
  by_cases c1 : keyN x.rk < keyN y.rk
  · have : (keyN x.rk : Int) < (keyN y.rk : Int) := by omega
    simp [c1, this]
  · by_cases c2 : keyN y.rk < keyN x.rk
    · have h1 : ¬ (keyN x.rk : Int) < (keyN y.rk : Int) := by omega
      have h2 : (keyN y.rk : Int) < (keyN x.rk : Int) := by omega
      have h3 : ¬ keyN x.rk = keyN y.rk := by omega
      simp [c1, h1, h2, h3]
    · have h1 : ¬ (keyN x.rk : Int) < (keyN y.rk : Int) := by omega
      have h2 : ¬ (keyN y.rk : Int) < (keyN x.rk : Int) := by omega
      have h3 : keyN x.rk = keyN y.rk := by omega
      simp only [c1, h1, h2, h3, if_false]
      by_cases c3 : x.ch < y.ch
      · simp [c3]
      · by_cases c4 : y.ch < x.ch <;> simp [c3, c4]
/-- The comparison of tree.Kids. -/
theorem kids_less : ∀ x y : Rv, (fun l => match l with | [[x0, x1, x2, x3], [x4, x5, x6, x7]] => tree_Kids_1_s x0 x1 x2 x3 x4 x5 x6 x7 | _ => none) [rvI x, rvI y] = some [.int .i64 (cfV x y)] := by
  intro x y
  show tree_Kids_1_s (.int .i64 x.ch) (.int .i64 x.par) (.str x.nm) (.flt .f64 x.rk) (.int .i64 y.ch) (.int .i64 y.par) (.str y.nm) (.flt .f64 y.rk) = _
  unfold tree_Kids_1_s cfV
  simp only [rank_Less_eq, Option.bind_some, nth_zero, icond_bool, scal_int, scal_nil, Option.map_some]
  split
  · rfl
  · split <;> rfl
/-- slices.Contains at whole numbers. -/
def eI (z : Int) : List IV := [.int .i64 z]
theorem slices_Contains_eq {zs : List Int} (hl : zs.length < rounds) (x : Int) : slices_Contains_int_s (.lst (zs.map eI)) (.int .i64 x) = some [.bool (zs.contains x)] := by
  unfold slices_Contains_int_s slices_Index_int_s
  simp only [ilenL_lst, Option.bind_some]
  rw [iter_search (vs0 := [IV.int .i64 0]) (fun i => [IV.int .i64 (i : Int)]) (fun z => decide (x = z)) 1 (fun i => [IV.int .i64 (i : Int)]) 0 [] zs rfl hl]
  · have hc : zs.contains x = (zs.findIdx? fun z => decide (x = z)).isSome := by
      rw [List.findIdx?_isSome]
      rw [Bool.eq_iff_iff]
      simp
    rw [hc]
    cases h : zs.findIdx? (fun z => decide (x = z)) with
    | none => simp
    | some i => simp
  · intro i z hz
    have hi : i < zs.length := (List.getElem?_eq_some_iff.1 hz).1
    have hr := rounds_eq
    have e1 := iidx_map (enc := eI) (sz := 1) hz rfl Nat.zero_lt_one
    have e2 : ild (.lst (zs.map eI)) i 0 = some (.int .i64 z) := ild_map hz
    unfold slices_Index_int_l2
    simp only [nth_zero, ibin_lss, List.length_map, Int.ofNat_lt, hi, decide_true, icond_true, Option.bind_some, e1, e2, ibin_eql, icond_dec, ibin_succ (show i < 2 ^ 62 by omega), decide_eq_true_eq]
    split <;> rfl
  · unfold slices_Index_int_l2
    simp
theorem contains_ints : ∀ (zs : List Int) (x : Int), zs.length ≤ 100000 → (fun l => match l with | [[x0], [x1]] => slices_Contains_int_s x0 x1 | _ => none) [[intsI zs], [.int .i64 x]] = some [.bool (zs.contains x)] := fun zs x h => slices_Contains_eq (by rw [rounds_eq]; omega) x
end Go.AM

/- Walks by hand: slices.SortStableFunc at rows: exchanges of runs, rotation. -/
import Derived.Test.YtcnafacmpplhbaaAg
import Derived.Test.YtcnafacmpplhbaaProg
set_option linter.unusedVariables false
set_option linter.unusedSimpArgs false
set_option maxRecDepth 100000
namespace Go.AM
open Go.Proofs Go.RowKit Go.Shelf Go.Maps Go.Sort Go.Lib

 attribute [local go_sem] Oper.semAt_some
 attribute [-go_sem] storeCells loadCellsFrom
@[local go_sem] theorem run_store_flt5 {P : Program} {w : World} {a : Addr} {m : Mode} (k : FloatKind) (x : Nat) : (store a (.float k x) m).run P w = stored P w a (.float k x) m := run_store P w a _ m rfl

set_option maxHeartbeats 4000000 in
theorem swapRange_in (nF : Nat) (w0 W : World) (blk off cap : Nat) (d0 dk : Array Rv) (R : RowK encV 4 w0 blk off d0) (hs : dk.size = d0.size) (hW : RW encV 4 w0 blk off dk W) (a b n : Nat) (han : a + n ≤ dk.size) (hbn : b + n ≤ dk.size) (hsz : dk.size < 2 ^ 40) (cv : Value) :
    CallsIn Fence.wide nF Try.prog 136 #[.slice (some ⟨blk, off, none⟩) d0.size cap, .int .i64 a, .int .i64 b, .int .i64 n, cv] W fun e w' => e = .returned (.tuple #[]) ∧ RW encV 4 w0 blk off (swapR a b n dk) w' := by
  have hfn : ∀ f, Fence.wide.fn f := fun _ => trivial
  have hdep : Fence.wide.depth.isSome = false := rfl
  have hf : Try.prog.funcs[136]? = some Try.f136 := by kernel_rfl
  have hn : Try.f136.ntmps = 38 := by kernel_rfl
  have ty3 : Try.prog.underlying 3 = some (.int .i64) := by kernel_rfl
  have mixed : Try.prog.follows .mixedOrders = true := by kernel_rfl
  refine callsIn_of_wp hf rfl trivial ?_ rfl
  simp only [hn, List.size_toArray, List.length_cons, List.length_nil, Nat.reduceAdd, Nat.reduceSub, Array.replicate_succ, Array.replicate_zero, List.push_toArray, List.append_toArray, List.nil_append, List.cons_append]
  gi_wp2
  gi_loopw [10] (fun i wr => ∃ m : Nat, m ≤ n ∧ i = .int .i64 m ∧ RW encV 4 w0 blk off (swapR a b m dk) wr)
    (fun i _ => n - (iOf i).toNat)
  case atStart => exact ⟨0, Nat.zero_le _, rfl, hW⟩
  case round =>
    obtain ⟨m, hm, rfl, hR⟩ := hrel
    by_cases hmn : m < n
    · have hsm : (swapR a b m dk).size = d0.size := by rw [swapR_size, hs]
      have ha : IntKind.i64.wrap ((a : Int) + m) = ((a + m : Nat) : Int) := by rw [IntKind.wrap_i64]; omega
      have hb : IntKind.i64.wrap ((b : Int) + m) = ((b + m : Nat) : Int) := by rw [IntKind.wrap_i64]; omega
      have ha2 : ((a + m : Nat) : Int) < (d0.size : Int) := by omega
      have hb2 : ((b + m : Nat) : Int) < (d0.size : Int) := by omega
      have ha3 : (0 : Int) ≤ ((a + m : Nat) : Int) := by omega
      have hb3 : (0 : Int) ≤ ((b + m : Nat) : Int) := by omega
      obtain ⟨ia, hia⟩ : ∃ ia, ia = a + m := ⟨_, rfl⟩
      obtain ⟨ib, hib⟩ : ∃ ib, ib = b + m := ⟨_, rfl⟩
      rw [← hia] at ha ha2 ha3
      rw [← hib] at hb hb2 hb3
      have hH := hR.drew.holds R hsm
      have l1 := hR.drew.load R hsm Try.prog ia (by rw [hsm]; omega)
      have l2 := hR.drew.load R hsm Try.prog ib (by rw [hsm]; omega)
      have t1 := hR.st1 R hsm Try.prog ia (by rw [hsm]; omega) (swapR a b m dk)[ib]!
      have t2 := hR.st2 R hsm Try.prog ia ib (by rw [hsm]; omega) (by rw [hsm]; omega) (swapR a b m dk)[ib]! (swapR a b m dk)[ia]!
      obtain ⟨cA, hcA⟩ : ∃ c, c = encV (swapR a b m dk)[ia]! := ⟨_, rfl⟩
      obtain ⟨cB, hcB⟩ : ∃ c, c = encV (swapR a b m dk)[ib]! := ⟨_, rfl⟩
      have hsw := hR.swapped R ia ib (by rw [hsm]; omega) (by rw [hsm]; omega)
      rw [← hcA] at l1 t2 hsw
      rw [← hcB] at l2 t1 t2 hsw
      have hA4 : cA.length = 4 := by rw [hcA]; rfl
      have hB4 : cB.length = 4 := by rw [hcB]; rfl
      clear hcA hcB
      have HIA : Hid (ia = a + m ∧ ib = b + m) := ⟨hia, hib⟩
      clear hia hib
      gi_wp2
      gi_region
      gi_wp2
      have hk : IntKind.i64.wrap ((m : Int) + 1) = ((m + 1 : Nat) : Int) := by rw [IntKind.wrap_i64]; omega
      refine ⟨⟨m + 1, by omega, by first | rfl | simp, ?_⟩, by simp [iOf]; omega⟩
      rw [swapR]
      rw [← HIA.out.1, ← HIA.out.2]
      exact hsw
    · obtain rfl : m = n := by omega
      gi_wp2
      go_end0
      exact ⟨rfl, hR⟩

set_option maxHeartbeats 4000000 in
theorem rotate_in (nF : Nat) (w0 W : World) (blk off cap : Nat) (d0 dk : Array Rv) (R : RowK encV 4 w0 blk off d0) (hs : dk.size = d0.size) (hW : RW encV 4 w0 blk off dk W) (a m b : Nat) (ham : a < m) (hmb : m < b) (hb : b ≤ dk.size) (hsz : dk.size < 2 ^ 40) (cv : Value) :
    CallsIn Fence.wide nF Try.prog 129 #[.slice (some ⟨blk, off, none⟩) d0.size cap, .int .i64 a, .int .i64 m, .int .i64 b, cv] W fun e w' => e = .returned (.tuple #[]) ∧ RW encV 4 w0 blk off (rotR m (b - a) (m - a) (b - m) dk) w' := by
  have hfn : ∀ f, Fence.wide.fn f := fun _ => trivial
  have hdep : Fence.wide.depth.isSome = false := rfl
  have hf : Try.prog.funcs[129]? = some Try.f129 := by kernel_rfl
  have hn : Try.f129.ntmps = 58 := by kernel_rfl
  have ty3 : Try.prog.underlying 3 = some (.int .i64) := by kernel_rfl
  refine callsIn_of_wp hf rfl trivial ?_ rfl
  simp only [hn, List.size_toArray, List.length_cons, List.length_nil, Nat.reduceAdd, Nat.reduceSub, Array.replicate_succ, Array.replicate_zero, List.push_toArray, List.append_toArray, List.nil_append, List.cons_append]
  have e1 : IntKind.i64.wrap ((m : Int) - a) = ((m - a : Nat) : Int) := by rw [IntKind.wrap_i64]; omega
  have e2 : IntKind.i64.wrap ((b : Int) - m) = ((b - m : Nat) : Int) := by rw [IntKind.wrap_i64]; omega
  obtain ⟨i0, hi0⟩ : ∃ i0, i0 = m - a := ⟨_, rfl⟩
  obtain ⟨j0, hj0⟩ : ∃ j0, j0 = b - m := ⟨_, rfl⟩
  rw [← hi0] at e1 ⊢
  rw [← hj0] at e2 ⊢
  have HIJ : Hid (i0 = m - a ∧ j0 = b - m) := ⟨hi0, hj0⟩
  clear hi0 hj0
  gi_wp2
  gi_loopw [10, 11] (fun vi vj wr => ∃ (i j f : Nat) (d : Array Rv), vi = .int .i64 i ∧ vj = .int .i64 j ∧ 0 < i ∧ 0 < j ∧ i ≤ m ∧ m + j ≤ dk.size ∧ i + j ≤ f ∧ d.size = d0.size ∧ RW encV 4 w0 blk off d wr ∧ Hid (rotR m f i j d = rotR m (b - a) i0 j0 dk))
    (fun vi vj _ => (iOf vi).toNat + (iOf vj).toNat)
  case atStart => exact ⟨i0, j0, b - a, dk, rfl, rfl, by have := HIJ.out; omega, by have := HIJ.out; omega, by have := HIJ.out; omega, by have := HIJ.out; omega, by have := HIJ.out; omega, hs, hW, rfl⟩
  case round =>
    obtain ⟨i, j, f, d, rfl, rfl, p1, p2, p3, p4, p5, p6, hR, HO⟩ := hrel
    obtain ⟨f, rfl⟩ : ∃ f', f = f' + 1 := ⟨f - 1, by omega⟩
    obtain ⟨mi, hmi⟩ : ∃ mi, mi = m - i := ⟨_, rfl⟩
    obtain ⟨mj, hmj⟩ : ∃ mj, mj = m + j := ⟨_, rfl⟩
    obtain ⟨mji, hmji⟩ : ∃ mji, mji = m + j - i := ⟨_, rfl⟩
    have m1 : IntKind.i64.wrap ((m : Int) - i) = (mi : Int) := by rw [IntKind.wrap_i64]; omega
    have m2 : IntKind.i64.wrap ((m : Int) + j) = (mj : Int) := by rw [IntKind.wrap_i64]; omega
    have m3 : IntKind.i64.wrap ((mj : Int) - i) = (mji : Int) := by rw [IntKind.wrap_i64]; omega
    have HM : Hid (mi = m - i ∧ mj = m + j ∧ mji = m + j - i) := ⟨hmi, hmj, hmji⟩
    by_cases hij : i = j
    · have hc := fun n => swapRange_in n w0 wr blk off cap d0 d R p6 hR mi m i (by omega) (by omega) (by omega) cv
      clear hmi hmj hmji
      subst hij
      gi_wp2_with (first
        | (gi_at_call 136; refine (hc _).mono ?_; rintro e w2 ⟨rfl, hR2⟩)
        | gi_in)
      go_end0
      refine ⟨rfl, ?_⟩
      rw [← HO.out]
      unfold rotR
      rw [if_pos rfl, ← HM.out.1]
      exact hR2
    · have hijz : (i : Int) ≠ (j : Int) := by omega
      by_cases hlt : j < i
      · have hltz : (j : Int) < (i : Int) := by omega
        obtain ⟨ij, hijd⟩ : ∃ ij, ij = i - j := ⟨_, rfl⟩
        have m4 : IntKind.i64.wrap ((i : Int) - j) = (ij : Int) := by rw [IntKind.wrap_i64]; omega
        have HD : Hid (ij = i - j) := hijd
        clear hijd
        have hc := fun n => swapRange_in n w0 wr blk off cap d0 d R p6 hR mi m j (by omega) (by omega) (by omega) cv
        clear hmi hmj hmji
        gi_wp2_with (first
          | (gi_at_call 136; refine (hc _).mono ?_; rintro e w2 ⟨rfl, hR2⟩)
          | gi_in)
        have := HM.out
        have hd := HD.out
        refine ⟨⟨ij, j, f, swapR mi m j d, by first | rfl | (congr 1; omega), rfl, by omega, p2, by omega, p4, by omega, by rw [swapR_size]; exact p6, hR2, ?_⟩, by simp [iOf]; omega⟩
        show _ = _
        rw [← HO.out]
        conv => rhs; unfold rotR
        rw [if_neg hij, if_pos hlt, ← this.1, hd]
      · have hltz : ¬ (j : Int) < (i : Int) := by omega
        obtain ⟨ij, hijd⟩ : ∃ ij, ij = j - i := ⟨_, rfl⟩
        have m4 : IntKind.i64.wrap ((j : Int) - i) = (ij : Int) := by rw [IntKind.wrap_i64]; omega
        have HD : Hid (ij = j - i) := hijd
        clear hijd
        have hc := fun n => swapRange_in n w0 wr blk off cap d0 d R p6 hR mi mji i (by omega) (by omega) (by omega) cv
        clear hmi hmj hmji
        gi_wp2_with (first
          | (gi_at_call 136; refine (hc _).mono ?_; rintro e w2 ⟨rfl, hR2⟩)
          | gi_in)
        have := HM.out
        have hd := HD.out
        refine ⟨⟨i, ij, f, swapR mi mji i d, rfl, by first | rfl | (congr 1; omega), p1, by omega, p3, by omega, by omega, by rw [swapR_size]; exact p6, hR2, ?_⟩, by simp [iOf]; omega⟩
        show _ = _
        rw [← HO.out]
        conv => rhs; unfold rotR
        rw [if_neg hij, if_neg hlt, ← this.1, ← this.2.2, hd]
end Go.AM

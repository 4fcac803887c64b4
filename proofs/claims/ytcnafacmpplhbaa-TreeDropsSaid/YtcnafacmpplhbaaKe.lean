/- Walks by hand: slices.SortStableFunc at rows: insertion. -/
import Derived.Test.YtcnafacmpplhbaaKd
import Derived.Test.YtcnafacmpplhbaaProg
set_option linter.unusedVariables false
set_option linter.unusedSimpArgs false
set_option maxRecDepth 100000
namespace Go.AM
open Go.Proofs Go.RowKit Go.Shelf Go.Maps Go.Sort Go.Lib

 attribute [local go_sem] Oper.semAt_some
 attribute [-go_sem] storeCells loadCellsFrom
@[local go_sem] theorem run_store_flt6 {P : Program} {w : World} {a : Addr} {m : Mode} (k : FloatKind) (x : Nat) : (store a (.float k x) m).run P w = stored P w a (.float k x) m := run_store P w a _ m rfl


set_option maxHeartbeats 8000000 in
theorem insertion_in (nF : Nat) (w0 W : World) (blk off cap : Nat) (d0 dk : Array Rv) (R : RowK encV 4 w0 blk off d0) (hs : dk.size = d0.size) (hW : RW encV 4 w0 blk off dk W) (a b : Nat) (hab : a ≤ b) (hb : b ≤ dk.size) (hsz : dk.size < 2 ^ 40) (g : Nat) (cf : Rv → Rv → Int)
    (eg : ∀ args w, (callFunc g args).run Try.prog w = .ok (.enter g args) w) (hcmp : CmpB Try.prog g encV cf) :
    CallsIn Fence.wide nF Try.prog 110 #[.slice (some ⟨blk, off, none⟩) d0.size cap, .int .i64 a, .int .i64 b, .func (.func g) #[] #[]] W fun e w' => e = .returned (.tuple #[]) ∧ RW encV 4 w0 blk off (Sort.insertionSort (ltOf cf) dk a b) w' := by
  have hfn : ∀ f, Fence.wide.fn f := fun _ => trivial
  have hdep : Fence.wide.depth.isSome = false := rfl
  have hf : Try.prog.funcs[110]? = some Try.f110 := by kernel_rfl
  have hn : Try.f110.ntmps = 53 := by kernel_rfl
  have ty3 : Try.prog.underlying 3 = some (.int .i64) := by kernel_rfl
  have mixed : Try.prog.follows .mixedOrders = true := by kernel_rfl
  have HC : Hid (CmpB Try.prog g encV cf) := hcmp
  clear hcmp
  refine callsIn_of_wp hf rfl trivial ?_ rfl
  simp only [hn, List.size_toArray, List.length_cons, List.length_nil, Nat.reduceAdd, Nat.reduceSub, Array.replicate_succ, Array.replicate_zero, List.push_toArray, List.append_toArray, List.nil_append, List.cons_append]
  have e1 : IntKind.i64.wrap ((a : Int) + 1) = ((a + 1 : Nat) : Int) := by rw [IntKind.wrap_i64]; omega
  obtain ⟨a1, ha1⟩ : ∃ a1, a1 = a + 1 := ⟨_, rfl⟩
  rw [← ha1] at e1
  have HA1 : Hid (a1 = a + 1) := ha1
  clear ha1
  gi_wp2
  gi_loopw [8] (fun vi wr => ∃ (i : Nat) (d : Array Rv), vi = .int .i64 i ∧ a < i ∧ i ≤ b + 1 ∧ d.size = d0.size ∧ RW encV 4 w0 blk off d wr ∧ Hid (insOuter (ltOf cf) a b i d = insOuter (ltOf cf) a b (a + 1) dk))
    (fun vi _ => b - (iOf vi).toNat)
  case atStart => exact ⟨a1, dk, rfl, by have := HA1.out; omega, by have := HA1.out; omega, hs, hW, by have := HA1.out; rw [this]; exact rfl⟩
  case round =>
    obtain ⟨i, d, rfl, hai, hib, hsd, hR, HO⟩ := hrel
    by_cases hlt : i < b
    · have hltz : (i : Int) < (b : Int) := by omega
      gi_wp2
      gi_loopw [9] (fun vj wr2 => ∃ (j : Nat) (dj : Array Rv), vj = .int .i64 j ∧ a ≤ j ∧ j ≤ i ∧ dj.size = d0.size ∧ RW encV 4 w0 blk off dj wr2 ∧ Hid (insInner (ltOf cf) a j dj = insInner (ltOf cf) a i d))
        (fun vj _ => (iOf vj).toNat)
      case atStart => exact ⟨i, d, rfl, by omega, Nat.le_refl _, hsd, hR, rfl⟩
      case round =>
        obtain ⟨j, dj, rfl, haj, hji, hsj, hRj, HI⟩ := hrel
        have OUT : Hid ((j ≤ a ∨ ltOf cf dj[j]! dj[j - 1]! = false) → insOuter (ltOf cf) a b (i + 1) dj = insOuter (ltOf cf) a b (a + 1) dk) := fun hs => by
          rw [← HO.out, insOuter_go _ _ _ _ _ hlt, ← HI.out, insInner_stop _ _ _ _ hs]
        have i1 : IntKind.i64.wrap ((i : Int) + 1) = ((i + 1 : Nat) : Int) := by rw [IntKind.wrap_i64]; omega
        obtain ⟨ip, hip⟩ : ∃ ip, ip = i + 1 := ⟨_, rfl⟩
        rw [← hip] at i1
        have HIP : Hid (ip = i + 1) := hip
        clear hip
        by_cases hja : a < j
        · have hjaz : (a : Int) < (j : Int) := by omega
          obtain ⟨jp, hjp⟩ : ∃ jp, jp = j - 1 := ⟨_, rfl⟩
          have j1 : IntKind.i64.wrap ((j : Int) - 1) = (jp : Int) := by rw [IntKind.wrap_i64]; omega
          have b1 : (j : Int) < (d0.size : Int) := by omega
          have b2 : (jp : Int) < (d0.size : Int) := by omega
          have b3 : (0 : Int) ≤ (j : Int) := by omega
          have b4 : (0 : Int) ≤ (jp : Int) := by omega
          have lj := hRj.loads R hsj Try.prog j (by omega)
          have lp := hRj.loads R hsj Try.prog jp (by omega)
          have hcg := HC.out.grown dj[j]! dj[jp]! wr
          have HJP : Hid (jp = j - 1) := hjp
          clear hjp
          obtain ⟨cA, hcA⟩ : ∃ c, c = encV dj[j]! := ⟨_, rfl⟩
          obtain ⟨cB, hcB⟩ : ∃ c, c = encV dj[jp]! := ⟨_, rfl⟩
          obtain ⟨v, hv⟩ : ∃ v, v = cf dj[j]! dj[jp]! := ⟨_, rfl⟩
          rw [← hcA] at lj hcg
          rw [← hcB] at lp hcg
          rw [← hv] at hcg
          have HCC : Hid (cA = encV dj[j]! ∧ cB = encV dj[jp]! ∧ v = cf dj[j]! dj[jp]!) := ⟨hcA, hcB, hv⟩
          clear hcA hcB hv
          by_cases hlv : v < 0
          · gi_wp2
            refine wpIn_region_quiet_below rfl mixed (by kernel_rfl) ?_
            repeat (quiet_step_in (exact hcg _ _ _))
            refine wpQuietIn_nil ?_
            rintro w2 ⟨⟨dq, osq⟩, rfl⟩
            have hR2 := hRj.below (below_regrown wr dq osq)
            clear lj lp hcg
            generalize grow (redrawn wr dq) osq = w2 at hR2 ⊢
            have l1 := hR2.drew.load R hsj Try.prog j (by omega)
            have l2 := hR2.drew.load R hsj Try.prog jp (by omega)
            have t1 := hR2.st1 R hsj Try.prog j (by omega) dj[jp]!
            have t2 := hR2.st2 R hsj Try.prog j jp (by omega) (by omega) dj[jp]! dj[j]!
            have hsw := hR2.swapped R j jp (by omega) (by omega)
            rw [← HCC.out.1] at l1 t2 hsw
            rw [← HCC.out.2.1] at l2 t1 t2 hsw
            have hA4 : cA.length = 4 := by rw [HCC.out.1]; rfl
            have hB4 : cB.length = 4 := by rw [HCC.out.2.1]; rfl
            gi_wp2
            gi_region
            gi_wp2
            have e5 := HJP.out
            refine ⟨⟨jp, swp dj j jp, rfl, by omega, by omega, by rw [size_swp]; exact hsj, hsw, ?_⟩, by simp [iOf]; omega⟩
            show _ = _
            have hl : ltOf cf dj[j]! dj[j - 1]! = true := by
              have := HCC.out.2.2
              rw [e5] at this
              exact decide_eq_true (by rw [← this]; exact hlv)
            rw [← HI.out, insInner_go (ltOf cf) a j dj hja hl, e5]
          · gi_wp2
            refine wpIn_region_quiet_below rfl mixed (by kernel_rfl) ?_
            repeat (quiet_step_in (exact hcg _ _ _))
            refine wpQuietIn_nil ?_
            rintro w2 ⟨⟨dq, osq⟩, rfl⟩
            have hR2 := hRj.below (below_regrown wr dq osq)
            clear lj lp hcg
            generalize grow (redrawn wr dq) osq = w2 at hR2 ⊢
            gi_wp2
            have e5 := HJP.out
            have e6 := HIP.out
            refine ⟨⟨ip, dj, rfl, by omega, by omega, hsj, hR2, ?_⟩, by simp [iOf]; omega⟩
            show _ = _
            rw [e6]
            refine OUT.out (.inr ?_)
            have := HCC.out.2.2
            rw [e5] at this
            exact decide_eq_false (by rw [← this]; omega)
        · have hjaz : ¬ (a : Int) < (j : Int) := by omega
          gi_wp2
          refine wpIn_region_quiet_below rfl mixed (by kernel_rfl) ?_
          repeat (quiet_step_in (fail))
          refine wpQuietIn_nil ?_
          rintro w2 ⟨⟨dq, osq⟩, rfl⟩
          have hR2 := hRj.below (below_regrown wr dq osq)
          generalize grow (redrawn wr dq) osq = w2 at hR2 ⊢
          gi_wp2
          have e6 := HIP.out
          refine ⟨⟨ip, dj, rfl, by omega, by omega, hsj, hR2, ?_⟩, by simp [iOf]; omega⟩
          show _ = _
          rw [e6]
          exact OUT.out (.inl (by omega))
    · have hltz : ¬ (i : Int) < (b : Int) := by omega
      gi_wp2
      go_end0
      refine ⟨rfl, ?_⟩
      have := HO.out
      rw [insOuter_stop _ _ _ _ _ hlt] at this
      rw [this] at hR
      exact hR
end Go.AM

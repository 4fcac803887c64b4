/- Walks by hand: slices.SortStableFunc at rows: blocks. -/
import Derived.Test.YtcnafacmpplhbaaKf
import Derived.Test.YtcnafacmpplhbaaProg
set_option linter.unusedVariables false
set_option linter.unusedSimpArgs false
set_option maxRecDepth 100000
namespace Go.AM
open Go.Proofs Go.RowKit Go.Shelf Go.Maps Go.Sort Go.Lib

 attribute [local go_sem] Oper.semAt_some
 attribute [-go_sem] storeCells loadCellsFrom

theorem insertionSort_size {lt : Rv → Rv → Bool} : ∀ (d : Array Rv) (a b : Nat), (Sort.insertionSort lt d a b).size = d.size := by
  have h1 : ∀ (a j : Nat) (d : Array Rv), (Sort.insInner lt a j d).size = d.size := by
    intro a j
    induction j with
    | zero => intro d; rfl
    | succ j ih =>
      intro d
      unfold Sort.insInner
      split
      · rw [ih, size_swp]
      · rfl
  have h2 : ∀ (n a b i : Nat) (d : Array Rv), b - i ≤ n → (Sort.insOuter lt a b i d).size = d.size := by
    intro n
    induction n with
    | zero => intro a b i d h; rw [insOuter_stop _ _ _ _ _ (by omega)]
    | succ n ih =>
      intro a b i d h
      by_cases c : i < b
      · rw [insOuter_go _ _ _ _ _ c, ih _ _ _ _ (by omega), h1]
      · rw [insOuter_stop _ _ _ _ _ c]
  intro d a b
  exact h2 _ _ _ _ _ (Nat.le_refl _)
set_option maxHeartbeats 16000000 in
theorem stable_in (nF : Nat) (w0 W : World) (blk off cap : Nat) (d0 dk : Array Rv) (R : RowK encV 4 w0 blk off d0) (hs : dk.size = d0.size) (hW : RW encV 4 w0 blk off dk W) (hsz : dk.size < 2 ^ 40) (g : Nat) (cf : Rv → Rv → Int)
    (eg : ∀ args w, (callFunc g args).run Try.prog w = .ok (.enter g args) w) (hcmp : CmpB Try.prog g encV cf) :
    CallsIn Fence.wide nF Try.prog 91 #[.slice (some ⟨blk, off, none⟩) d0.size cap, .int .i64 d0.size, .func (.func g) #[] #[]] W fun e w' => e = .returned (.tuple #[]) ∧ RW encV 4 w0 blk off (stblN (ltOf cf) dk) w' := by
  have hfn : ∀ f, Fence.wide.fn f := fun _ => trivial
  have hdep : Fence.wide.depth.isSome = false := rfl
  have hf : Try.prog.funcs[91]? = some Try.f91 := by kernel_rfl
  have hn : Try.f91.ntmps = 63 := by kernel_rfl
  have ty3 : Try.prog.underlying 3 = some (.int .i64) := by kernel_rfl
  have mixed : Try.prog.follows .mixedOrders = true := by kernel_rfl
  refine callsIn_of_wp hf rfl trivial ?_ rfl
  simp only [hn, List.size_toArray, List.length_cons, List.length_nil, Nat.reduceAdd, Nat.reduceSub, Array.replicate_succ, Array.replicate_zero, List.push_toArray, List.append_toArray, List.nil_append, List.cons_append]
  obtain ⟨n, hnd⟩ : ∃ n, n = d0.size := ⟨_, rfl⟩
  have HN : Hid (n = d0.size) := hnd
  have hn40 : n < 2 ^ 40 := by omega
  have HC : Hid (CmpB Try.prog g encV cf) := hcmp
  rw [← hnd]
  clear hcmp
  clear hnd
  gi_wp2
  gi_loopw [7, 8] (fun va vb wr => ∃ (a b f : Nat) (d : Array Rv), va = .int .i64 a ∧ vb = .int .i64 b ∧ Hid (b = a + 20) ∧ a ≤ n ∧ n + 1 ≤ a + f ∧ d.size = d0.size ∧ RW encV 4 w0 blk off d wr ∧ Hid (insB (ltOf cf) n f a d = insB (ltOf cf) n (n + 1) 0 dk))
    (fun va vb _ => n - (iOf va).toNat)
  case atStart => exact ⟨0, 20, n + 1, dk, rfl, rfl, rfl, Nat.zero_le _, by omega, hs, hW, rfl⟩
  case round =>
    obtain ⟨a, b, f, d, rfl, rfl, H1, H2, H3, H4, hR, HO⟩ := hrel
    obtain ⟨f, rfl⟩ : ∃ f', f = f' + 1 := ⟨f - 1, by omega⟩
    by_cases c : b ≤ n
    · have cz : (b : Int) ≤ (n : Int) := by omega
      obtain ⟨b2, hb2⟩ : ∃ b2, b2 = b + 20 := ⟨_, rfl⟩
      have w1 : IntKind.i64.wrap ((b : Int) + 20) = (b2 : Int) := by rw [IntKind.wrap_i64]; omega
      have HB2 : Hid (b2 = b + 20) := hb2
      clear hb2
      have hc := fun nn => insertion_in nn w0 wr blk off cap d0 d R H4 hR a b (by have := H1.out; omega) (by have := HN.out; omega) (by omega) g cf eg HC.out
      rw [← HN.out] at hc
      gi_wp2_with (first
        | (gi_at_call 110; refine (hc _).mono ?_; rintro e w2 ⟨rfl, hR2⟩)
        | gi_in)
      have h1 := H1.out
      refine ⟨⟨b, b2, f, _, rfl, rfl, HB2, c, by omega, by rw [insertionSort_size]; exact H4, hR2, ?_⟩, by simp [iOf]; omega⟩
      show _ = _
      rw [← HO.out]
      conv => rhs; unfold insB
      rw [h1] at c
      rw [if_pos c, h1]
    · have cz : ¬ (b : Int) ≤ (n : Int) := by omega
      have hc := fun nn => insertion_in nn w0 wr blk off cap d0 d R H4 hR a n H2 (by have := HN.out; omega) (by omega) g cf eg HC.out
      rw [← HN.out] at hc
      have HD1 : Hid (insB (ltOf cf) n (n + 1) 0 dk = Sort.insertionSort (ltOf cf) d a n) := by
        show _ = _
        rw [← HO.out]
        have h1 := H1.out
        rw [h1] at c
        conv => lhs; unfold insB
        rw [if_neg c]
      have hs1 : (Sort.insertionSort (ltOf cf) d a n).size = d0.size := by rw [insertionSort_size]; exact H4
      generalize Sort.insertionSort (ltOf cf) d a n = d1 at hc HD1 hs1
      gi_wp2_with (first
        | (gi_at_call 110; refine (hc _).mono ?_; rintro e w2 ⟨rfl, hR2⟩)
        | gi_in)
      clear hc
      gi_loopw [6] (fun vk wr => ∃ (k f : Nat) (d : Array Rv), vk = .int .i64 k ∧ 0 < k ∧ k < 2 ^ 42 ∧ n ≤ k + f ∧ d.size = d0.size ∧ RW encV 4 w0 blk off d wr ∧ Hid (mrgs (ltOf cf) n f k d = mrgs (ltOf cf) n n 20 d1))
        (fun vk _ => n - (iOf vk).toNat)
      case atStart => exact ⟨20, n, d1, rfl, by omega, by omega, by omega, hs1, hR2, rfl⟩
      case round =>
        obtain ⟨k, fk, dm, rfl, K1, K2, K3, K4, hRm, HM⟩ := hrel
        by_cases ck : k < n
        · have ckz : (k : Int) < (n : Int) := by omega
          obtain ⟨fk, rfl⟩ : ∃ f', fk = f' + 1 := ⟨fk - 1, by omega⟩
          obtain ⟨k2, hk2⟩ : ∃ k2, k2 = 2 * k := ⟨_, rfl⟩
          have w1 : IntKind.i64.wrap (2 * (k : Int)) = (k2 : Int) := by rw [IntKind.wrap_i64]; omega
          have w2 : IntKind.i64.wrap ((k : Int) * 2) = (k2 : Int) := by rw [IntKind.wrap_i64]; omega
          have HK2 : Hid (k2 = 2 * k) := hk2
          have hk2b : k2 < 2 ^ 41 := by omega
          have hk2p : k < k2 := by omega
          clear hk2
          gi_wp2
          try (gi_region; gi_wp2)
          gi_loopw [7, 8] (fun va vb wr => ∃ (a b f : Nat) (d : Array Rv), va = .int .i64 a ∧ vb = .int .i64 b ∧ Hid (b = a + k2) ∧ a ≤ n ∧ n ≤ a + f ∧ d.size = d0.size ∧ RW encV 4 w0 blk off d wr ∧ Hid (mrgB (ltOf cf) n k f a d = mrgB (ltOf cf) n k n 0 dm))
            (fun va vb _ => n - (iOf va).toNat)
          case atStart => exact ⟨0, k2, n, dm, rfl, rfl, by show _ = _; omega, Nat.zero_le _, by omega, K4, hRm, rfl⟩
          case round =>
            obtain ⟨a, b, f, d, rfl, rfl, G1, G2, G3, G4, hRd, HG⟩ := hrel
            obtain ⟨m, hm⟩ : ∃ m, m = a + k := ⟨_, rfl⟩
            have w3 : IntKind.i64.wrap ((a : Int) + (k : Int)) = (m : Int) := by rw [IntKind.wrap_i64]; omega
            have HMD : Hid (m = a + k) := hm
            clear hm
            by_cases c : b ≤ n
            · have cz : (b : Int) ≤ (n : Int) := by omega
              obtain ⟨b2, hb2⟩ : ∃ b2, b2 = b + k2 := ⟨_, rfl⟩
              have w4 : IntKind.i64.wrap ((b : Int) + (k2 : Int)) = (b2 : Int) := by rw [IntKind.wrap_i64]; omega
              have HB2 : Hid (b2 = b + k2) := hb2
              clear hb2
              obtain ⟨f, rfl⟩ : ∃ f', f = f' + 1 := ⟨f - 1, by have := G1.out; omega⟩
              have hc := fun nn => symmerge_in g cf eg HC.out w0 blk off cap d0 R n nn wr d G4 hRd a m b (by have := HMD.out; omega) (by have := HMD.out; have := G1.out; have := HK2.out; omega) (by have := HN.out; omega) (by have := HN.out; omega) (by omega)
              rw [← HN.out] at hc
              gi_wp2_with (first
                | (gi_at_call 111; refine (hc _).mono ?_; rintro e w2 ⟨rfl, hR2⟩)
                | gi_in)
              have h1 := G1.out
              refine ⟨⟨b, b2, f, _, rfl, rfl, HB2, c, by omega, by rw [symN_size]; exact G4, hR2, ?_⟩, by simp [iOf]; omega⟩
              show _ = _
              rw [← HG.out]
              conv => rhs; unfold mrgB
              have h2 := HMD.out
              have h3 := HK2.out
              rw [← h3, ← h1, if_pos c, ← h2]
            · have cz : ¬ (b : Int) ≤ (n : Int) := by omega
              have HE : Hid (mrgB (ltOf cf) n k n 0 dm = if m < n then symN (ltOf cf) n a m n d else d) := by
                show _ = _
                have h1 := G1.out
                have h2 := HMD.out
                have h3 := HK2.out
                rw [← HG.out]
                cases f with
                | zero =>
                  rw [if_neg (by omega)]; rfl
                | succ f =>
                  conv => lhs; unfold mrgB
                  rw [← h3, ← h1, if_neg c, ← h2]
              have HMM : Hid (mrgs (ltOf cf) n n 20 d1 = mrgs (ltOf cf) n fk k2 (mrgB (ltOf cf) n k n 0 dm)) := by
                show _ = _
                rw [← HM.out]
                conv => lhs; unfold mrgs
                rw [if_pos ck, ← HK2.out]
              by_cases cm : m < n
              · have cmz : (m : Int) < (n : Int) := by omega
                have hc := fun nn => symmerge_in g cf eg HC.out w0 blk off cap d0 R n nn wr d G4 hRd a m n (by have := HMD.out; omega) cm (by have := HN.out; omega) (by have := HN.out; omega) (by omega)
                rw [← HN.out] at hc
                gi_wp2_with (first
                  | (gi_at_call 111; refine (hc _).mono ?_; rintro e w2 ⟨rfl, hR2⟩)
                  | gi_in)
                refine ⟨⟨k2, fk, _, rfl, by omega, by omega, by omega, by rw [symN_size]; exact G4, hR2, ?_⟩, by simp [iOf]; omega⟩
                show _ = _
                have h4 := HE.out
                rw [if_pos cm] at h4
                rw [HMM.out, h4]
              · have cmz : ¬ (m : Int) < (n : Int) := by omega
                gi_wp2
                refine ⟨⟨k2, fk, d, rfl, by omega, by omega, by omega, G4, hRd, ?_⟩, by simp [iOf]; omega⟩
                show _ = _
                have h4 := HE.out
                rw [if_neg cm] at h4
                rw [HMM.out, h4]
        · have ckz : ¬ (k : Int) < (n : Int) := by omega
          gi_wp2
          go_end0
          refine ⟨rfl, ?_⟩
          unfold stblN
          have hn2 : dk.size = n := by have := HN.out; omega
          have hz : mrgs (ltOf cf) n fk k dm = dm := by
            cases fk with
            | zero => rfl
            | succ f => unfold mrgs; rw [if_neg ck]
          have h5 := HM.out
          rw [hz] at h5
          rw [hn2, HD1.out, ← h5]
          exact hRm
end Go.AM

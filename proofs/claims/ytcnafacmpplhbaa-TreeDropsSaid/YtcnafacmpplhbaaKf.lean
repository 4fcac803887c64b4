/- Walks by hand: slices.SortStableFunc at rows: symMerge. -/
import Derived.Test.YtcnafacmpplhbaaKe
import Derived.Sort.CutIn
import Derived.Test.YtcnafacmpplhbaaProg
set_option linter.unusedVariables false
set_option linter.unusedSimpArgs false
set_option maxRecDepth 100000
namespace Go.AM
open Go.Proofs Go.RowKit Go.Shelf Go.Maps Go.Sort Go.Lib

 attribute [local go_sem] Oper.semAt_some
 attribute [-go_sem] storeCells loadCellsFrom
@[local go_sem] theorem run_store_flt7 {P : Program} {w : World} {a : Addr} {m : Mode} (k : FloatKind) (x : Nat) : (store a (.float k x) m).run P w = stored P w a (.float k x) m := run_store P w a _ m rfl


set_option maxHeartbeats 100000000 in
theorem symmerge_in (g : Nat) (cf : Rv → Rv → Int) (eg : ∀ args w, (callFunc g args).run Try.prog w = .ok (.enter g args) w) (hcmp : CmpB Try.prog g encV cf) (w0 : World) (blk off cap : Nat) (d0 : Array Rv) (R : RowK encV 4 w0 blk off d0) :
    ∀ (f nF : Nat) (W : World) (dk : Array Rv), dk.size = d0.size → RW encV 4 w0 blk off dk W → ∀ (a m b : Nat), a < m → m < b → b ≤ dk.size → dk.size < 2 ^ 40 → b - a ≤ f →
    CallsIn Fence.wide nF Try.prog 111 #[.slice (some ⟨blk, off, none⟩) d0.size cap, .int .i64 a, .int .i64 m, .int .i64 b, .func (.func g) #[] #[]] W fun e w' => e = .returned (.tuple #[]) ∧ RW encV 4 w0 blk off (symN (ltOf cf) f a m b dk) w' := by
  intro f
  induction f with
  | zero => intro nF W dk _ _ a m b h1 h2 _ _ h5; omega
  | succ f ih =>
    intro nF W dk hs hW a m b ham hmb hb hsz hf0
    have hfn : ∀ f, Fence.wide.fn f := fun _ => trivial
    have hdep : Fence.wide.depth.isSome = false := rfl
    have hf : Try.prog.funcs[111]? = some Try.f111 := by kernel_rfl
    have hn : Try.f111.ntmps = 220 := by kernel_rfl
    have ty3 : Try.prog.underlying 3 = some (.int .i64) := by kernel_rfl
    have mixed : Try.prog.follows .mixedOrders = true := by kernel_rfl
    have HC : Hid (CmpB Try.prog g encV cf) := hcmp
    refine callsIn_of_wp hf rfl trivial ?_ rfl
    simp only [hn, List.size_toArray, List.length_cons, List.length_nil, Nat.reduceAdd, Nat.reduceSub, Array.replicate_succ, Array.replicate_zero, List.push_toArray, List.append_toArray, List.nil_append, List.cons_append]
    by_cases c1 : m - a = 1
    · have e1 : IntKind.i64.wrap ((m : Int) - a) = 1 := by rw [IntKind.wrap_i64]; omega
      clear ih
      gi_wp2
      gi_loopw [10, 11] (fun vi vj wr => ∃ (i j f : Nat), vi = .int .i64 i ∧ vj = .int .i64 j ∧ m ≤ i ∧ i ≤ j ∧ j ≤ b ∧ j - i ≤ f ∧ RW encV 4 w0 blk off dk wr ∧ Hid (bsN (fun h => ltOf cf dk[h]! dk[a]!) f i j = bsN (fun h => ltOf cf dk[h]! dk[a]!) (b - m) m b))
        (fun vi vj _ => (iOf vj).toNat - (iOf vi).toNat)
      case atStart => exact ⟨m, b, b - m, rfl, rfl, Nat.le_refl _, by omega, Nat.le_refl _, Nat.le_refl _, hW, rfl⟩
      case round =>
        obtain ⟨i, j, f2, rfl, rfl, p1, p2, p3, p4, hR, HO⟩ := hrel
        by_cases hij : i < j
        · have hijz : (i : Int) < (j : Int) := by omega
          obtain ⟨h, hh⟩ : ∃ h, h = (i + j) / 2 := ⟨_, rfl⟩
          obtain ⟨h1, hh1⟩ : ∃ h1, h1 = h + 1 := ⟨_, rfl⟩
          have a1 : ((i : Int) + (j : Int)) / 2 = (h : Int) := by omega
          have a2 : IntKind.i64.wrap ((h : Int) + 1) = (h1 : Int) := by rw [IntKind.wrap_i64]; omega
          have b1 : (h : Int) < (d0.size : Int) := by omega
          have b2 : (a : Int) < (d0.size : Int) := by omega
          have b3 : (0 : Int) ≤ (h : Int) := by omega
          have b4 : (0 : Int) ≤ (a : Int) := by omega
          obtain ⟨f2, rfl⟩ : ∃ f', f2 = f' + 1 := ⟨f2 - 1, by omega⟩
          have q1 : i ≤ h := by omega
          have q2 : h < j := by omega
          have lh := hR.loads R hs Try.prog h (by omega)
          have la := hR.loads R hs Try.prog a (by omega)
          have hcg := HC.out.grown dk[h]! dk[a]! wr
          obtain ⟨cA, hcA⟩ : ∃ c, c = encV dk[h]! := ⟨_, rfl⟩
          obtain ⟨cB, hcB⟩ : ∃ c, c = encV dk[a]! := ⟨_, rfl⟩
          obtain ⟨v, hv⟩ : ∃ v, v = cf dk[h]! dk[a]! := ⟨_, rfl⟩
          rw [← hcA] at lh hcg
          rw [← hcB] at la hcg
          rw [← hv] at hcg
          have HCC : Hid (v = cf dk[h]! dk[a]! ∧ h = (i + j) / 2 ∧ h1 = h + 1) := ⟨hv, hh, hh1⟩
          clear hcA hcB hv hh hh1
          have step : bsN (fun h => ltOf cf dk[h]! dk[a]!) (f2 + 1) i j = if v < 0 then bsN (fun h => ltOf cf dk[h]! dk[a]!) f2 h1 j else bsN (fun h => ltOf cf dk[h]! dk[a]!) f2 i h := by
            obtain ⟨x1, x2, x3⟩ := HCC.out
            conv => lhs; unfold bsN
            rw [if_pos hij, ← x2, x3, x1]
            unfold ltOf
            simp only [decide_eq_true_eq]
          have HST : Hid (bsN (fun h => ltOf cf dk[h]! dk[a]!) (f2 + 1) i j = if v < 0 then bsN (fun h => ltOf cf dk[h]! dk[a]!) f2 h1 j else bsN (fun h => ltOf cf dk[h]! dk[a]!) f2 i h) := step
          have x5 : h1 = h + 1 := HCC.out.2.2
          have HX5 : Hid (h1 = h + 1) := x5
          clear step x5
          by_cases hlv : v < 0
          · gi_wp2
            refine wpIn_region_quiet_below rfl mixed (by kernel_rfl) ?_
            repeat (quiet_step_in (exact hcg _ _ _))
            refine wpQuietIn_nil ?_
            rintro w2 ⟨⟨dq, osq⟩, rfl⟩
            have hR2 := hR.below (below_regrown wr dq osq)
            clear lh la hcg
            generalize grow (redrawn wr dq) osq = w2 at hR2 ⊢
            gi_wp2
            have x5 := HX5.out
            refine ⟨⟨h1, j, f2, rfl, rfl, by omega, by omega, p3, by omega, hR2, ?_⟩, by simp [iOf]; omega⟩
            show _ = _
            have := HST.out
            rw [if_pos (by omega)] at this
            rw [← HO.out, this]
          · gi_wp2
            refine wpIn_region_quiet_below rfl mixed (by kernel_rfl) ?_
            repeat (quiet_step_in (exact hcg _ _ _))
            refine wpQuietIn_nil ?_
            rintro w2 ⟨⟨dq, osq⟩, rfl⟩
            have hR2 := hR.below (below_regrown wr dq osq)
            clear lh la hcg
            generalize grow (redrawn wr dq) osq = w2 at hR2 ⊢
            gi_wp2
            refine ⟨⟨i, h, f2, rfl, rfl, p1, q1, by omega, by omega, hR2, ?_⟩, by simp [iOf]; omega⟩
            show _ = _
            have := HST.out
            rw [if_neg (by omega)] at this
            rw [← HO.out, this]
        · have hijz : ¬ (i : Int) < (j : Int) := by omega
          have hfin : i = bsN (fun h => ltOf cf dk[h]! dk[a]!) (b - m) m b := by
            rw [← HO.out]
            cases f2 with
            | zero => rfl
            | succ f2 => unfold bsN; rw [if_neg hij]
          have HF : Hid (i = bsN (fun h => ltOf cf dk[h]! dk[a]!) (b - m) m b) := hfin
          clear hfin
          obtain ⟨ip, hip⟩ : ∃ ip, ip = i - 1 := ⟨_, rfl⟩
          have i1 : IntKind.i64.wrap ((i : Int) - 1) = (ip : Int) := by rw [IntKind.wrap_i64]; omega
          have hipm : ip + 1 = i := by omega
          clear hip
          gi_wp2
          gi_loopw [13] (fun vk wr => ∃ (k n : Nat) (d : Array Rv), vk = .int .i64 k ∧ a ≤ k ∧ k + n = ip ∧ d.size = d0.size ∧ RW encV 4 w0 blk off d wr ∧ Hid (upN k n d = upN a (ip - a) dk))
            (fun vk _ => ip - (iOf vk).toNat)
          case atStart => exact ⟨a, ip - a, dk, rfl, Nat.le_refl _, by omega, hs, hR, rfl⟩
          case round =>
            obtain ⟨k, n, d, rfl, r1, r2, hsd, hRd, HU⟩ := hrel
            cases n with
            | succ n =>
              have hkz : (k : Int) < (ip : Int) := by omega
              obtain ⟨k1, hk1⟩ : ∃ k1, k1 = k + 1 := ⟨_, rfl⟩
              have a3 : IntKind.i64.wrap ((k : Int) + 1) = (k1 : Int) := by rw [IntKind.wrap_i64]; omega
              have d1 : (k : Int) < (d0.size : Int) := by omega
              have d2 : (k1 : Int) < (d0.size : Int) := by omega
              have d3 : (0 : Int) ≤ (k : Int) := by omega
              have d4 : (0 : Int) ≤ (k1 : Int) := by omega
              have l1 := hRd.drew.load R hsd Try.prog k (by omega)
              have l2 := hRd.drew.load R hsd Try.prog k1 (by omega)
              have t1 := hRd.st1 R hsd Try.prog k (by omega) d[k1]!
              have t2 := hRd.st2 R hsd Try.prog k k1 (by omega) (by omega) d[k1]! d[k]!
              have hsw := hRd.swapped R k k1 (by omega) (by omega)
              have HK1 : Hid (k1 = k + 1) := hk1
              clear hk1
              obtain ⟨cA, hcA⟩ : ∃ c, c = encV d[k]! := ⟨_, rfl⟩
              obtain ⟨cB, hcB⟩ : ∃ c, c = encV d[k1]! := ⟨_, rfl⟩
              rw [← hcA] at l1 t2 hsw
              rw [← hcB] at l2 t1 t2 hsw
              have hA4 : cA.length = 4 := by rw [hcA]; rfl
              have hB4 : cB.length = 4 := by rw [hcB]; rfl
              clear hcA hcB
              gi_wp2
              gi_region
              gi_wp2
              have x5 := HK1.out
              refine ⟨⟨k1, n, swp d k k1, rfl, by omega, by omega, by rw [size_swp]; exact hsd, hsw, ?_⟩, by simp [iOf]; omega⟩
              show _ = _
              rw [← HU.out, upN, x5]
            | zero =>
              have hkz : ¬ (k : Int) < (ip : Int) := by omega
              gi_wp2
              refine bodyPost_ret (results_none rfl _ _ _) rfl ?_
              refine ⟨rfl, ?_⟩
              have hz := HU.out
              rw [upN] at hz
              rw [hz] at hRd
              have hfi := HF.out
              unfold symN
              rw [if_pos c1]
              have e9 : bsN (fun h => ltOf cf dk[h]! dk[a]!) (b - m) m b - 1 - a = ip - a := by rw [← hfi]; omega
              rw [e9]
              exact hRd
    · have e0 : IntKind.i64.wrap ((m : Int) - a) ≠ 1 := by rw [IntKind.wrap_i64]; omega
      have e00 : ((m : Int) - (a : Int) == 1) = false := by rw [beq_eq_false_iff_ne]; omega
      by_cases c2 : b - m = 1
      · have e1 : IntKind.i64.wrap ((b : Int) - m) = 1 := by rw [IntKind.wrap_i64]; omega
        clear ih
        gi_wp2
        gi_loopw [14, 15] (fun vi vj wr => ∃ (i j f : Nat), vi = .int .i64 i ∧ vj = .int .i64 j ∧ a ≤ i ∧ i ≤ j ∧ j ≤ m ∧ j - i ≤ f ∧ RW encV 4 w0 blk off dk wr ∧ Hid (bsN (fun h => !ltOf cf dk[m]! dk[h]!) f i j = bsN (fun h => !ltOf cf dk[m]! dk[h]!) (m - a) a m))
          (fun vi vj _ => (iOf vj).toNat - (iOf vi).toNat)
        case atStart => exact ⟨a, m, m - a, rfl, rfl, Nat.le_refl _, by omega, Nat.le_refl _, Nat.le_refl _, hW, rfl⟩
        case round =>
          obtain ⟨i, j, f2, rfl, rfl, p1, p2, p3, p4, hR, HO⟩ := hrel
          by_cases hij : i < j
          · have hijz : (i : Int) < (j : Int) := by omega
            obtain ⟨h, hh⟩ : ∃ h, h = (i + j) / 2 := ⟨_, rfl⟩
            obtain ⟨h1, hh1⟩ : ∃ h1, h1 = h + 1 := ⟨_, rfl⟩
            have a1 : ((i : Int) + (j : Int)) / 2 = (h : Int) := by omega
            have a2 : IntKind.i64.wrap ((h : Int) + 1) = (h1 : Int) := by rw [IntKind.wrap_i64]; omega
            have b1 : (h : Int) < (d0.size : Int) := by omega
            have b2 : (m : Int) < (d0.size : Int) := by omega
            have b3 : (0 : Int) ≤ (h : Int) := by omega
            have b4 : (0 : Int) ≤ (m : Int) := by omega
            obtain ⟨f2, rfl⟩ : ∃ f', f2 = f' + 1 := ⟨f2 - 1, by omega⟩
            have q1 : i ≤ h := by omega
            have q2 : h < j := by omega
            have lh := hR.loads R hs Try.prog h (by omega)
            have la := hR.loads R hs Try.prog m (by omega)
            have hcg := HC.out.grown dk[m]! dk[h]! wr
            obtain ⟨cA, hcA⟩ : ∃ c, c = encV dk[h]! := ⟨_, rfl⟩
            obtain ⟨cB, hcB⟩ : ∃ c, c = encV dk[m]! := ⟨_, rfl⟩
            obtain ⟨v, hv⟩ : ∃ v, v = cf dk[m]! dk[h]! := ⟨_, rfl⟩
            rw [← hcA] at lh hcg
            rw [← hcB] at la hcg
            rw [← hv] at hcg
            have HCC : Hid (v = cf dk[m]! dk[h]! ∧ h = (i + j) / 2 ∧ h1 = h + 1) := ⟨hv, hh, hh1⟩
            clear hcA hcB hv hh hh1
            have step : bsN (fun h => !ltOf cf dk[m]! dk[h]!) (f2 + 1) i j = if v < 0 then bsN (fun h => !ltOf cf dk[m]! dk[h]!) f2 i h else bsN (fun h => !ltOf cf dk[m]! dk[h]!) f2 h1 j := by
              obtain ⟨x1, x2, x3⟩ := HCC.out
              conv => lhs; unfold bsN
              rw [if_pos hij, ← x2, x3, x1]
              unfold ltOf
              by_cases hz : cf dk[m]! dk[h]! < 0 <;> simp [hz]
            have HST : Hid (bsN (fun h => !ltOf cf dk[m]! dk[h]!) (f2 + 1) i j = if v < 0 then bsN (fun h => !ltOf cf dk[m]! dk[h]!) f2 i h else bsN (fun h => !ltOf cf dk[m]! dk[h]!) f2 h1 j) := step
            have x5 : h1 = h + 1 := HCC.out.2.2
            have HX5 : Hid (h1 = h + 1) := x5
            clear step x5
            by_cases hlv : v < 0
            · gi_wp2
              refine wpIn_region_quiet_below rfl mixed (by kernel_rfl) ?_
              repeat (quiet_step_in (exact hcg _ _ _))
              refine wpQuietIn_nil ?_
              rintro w2 ⟨⟨dq, osq⟩, rfl⟩
              have hR2 := hR.below (below_regrown wr dq osq)
              clear lh la hcg
              generalize grow (redrawn wr dq) osq = w2 at hR2 ⊢
              gi_wp2
              have x5 := HX5.out
              refine ⟨⟨i, h, f2, rfl, rfl, p1, q1, by omega, by omega, hR2, ?_⟩, by simp [iOf]; omega⟩
              show _ = _
              have := HST.out
              rw [if_pos (by omega)] at this
              rw [← HO.out, this]
            · gi_wp2
              refine wpIn_region_quiet_below rfl mixed (by kernel_rfl) ?_
              repeat (quiet_step_in (exact hcg _ _ _))
              refine wpQuietIn_nil ?_
              rintro w2 ⟨⟨dq, osq⟩, rfl⟩
              have hR2 := hR.below (below_regrown wr dq osq)
              clear lh la hcg
              generalize grow (redrawn wr dq) osq = w2 at hR2 ⊢
              gi_wp2
              have x5 := HX5.out
              refine ⟨⟨h1, j, f2, rfl, rfl, by omega, by omega, p3, by omega, hR2, ?_⟩, by simp [iOf]; omega⟩
              show _ = _
              have := HST.out
              rw [if_neg (by omega)] at this
              rw [← HO.out, this]
              all_goals (rename_i hz; exfalso; have hz2 : ¬ v < 0 := (by omega); simp [hz2] at hz)
          · have hijz : ¬ (i : Int) < (j : Int) := by omega
            have hfin : i = bsN (fun h => !ltOf cf dk[m]! dk[h]!) (m - a) a m := by
              rw [← HO.out]
              cases f2 with
              | zero => rfl
              | succ f2 => unfold bsN; rw [if_neg hij]
            have HF : Hid (i = bsN (fun h => !ltOf cf dk[m]! dk[h]!) (m - a) a m) := hfin
            clear hfin
            gi_wp2
            gi_loopw [17] (fun vk wr => ∃ (k : Nat) (d : Array Rv), vk = .int .i64 k ∧ i ≤ k ∧ k ≤ m ∧ d.size = d0.size ∧ RW encV 4 w0 blk off d wr ∧ Hid (downN i k d = downN i m dk))
              (fun vk _ => (iOf vk).toNat)
            case atStart => exact ⟨m, dk, rfl, by omega, Nat.le_refl _, hs, hR, rfl⟩
            case round =>
              obtain ⟨k, d, rfl, r1, r2, hsd, hRd, HU⟩ := hrel
              by_cases hik : i < k
              · have hkz : (i : Int) < (k : Int) := by omega
                obtain ⟨k1, hk1⟩ : ∃ k1, k1 = k - 1 := ⟨_, rfl⟩
                have a3 : IntKind.i64.wrap ((k : Int) - 1) = (k1 : Int) := by rw [IntKind.wrap_i64]; omega
                have d1 : (k : Int) < (d0.size : Int) := by omega
                have d2 : (k1 : Int) < (d0.size : Int) := by omega
                have d3 : (0 : Int) ≤ (k : Int) := by omega
                have d4 : (0 : Int) ≤ (k1 : Int) := by omega
                have l1 := hRd.drew.load R hsd Try.prog k (by omega)
                have l2 := hRd.drew.load R hsd Try.prog k1 (by omega)
                have t1 := hRd.st1 R hsd Try.prog k (by omega) d[k1]!
                have t2 := hRd.st2 R hsd Try.prog k k1 (by omega) (by omega) d[k1]! d[k]!
                have hsw := hRd.swapped R k k1 (by omega) (by omega)
                have HK1 : Hid (k1 = k - 1) := hk1
                clear hk1
                obtain ⟨cA, hcA⟩ : ∃ c, c = encV d[k]! := ⟨_, rfl⟩
                obtain ⟨cB, hcB⟩ : ∃ c, c = encV d[k1]! := ⟨_, rfl⟩
                rw [← hcA] at l1 t2 hsw
                rw [← hcB] at l2 t1 t2 hsw
                have hA4 : cA.length = 4 := by rw [hcA]; rfl
                have hB4 : cB.length = 4 := by rw [hcB]; rfl
                clear hcA hcB
                gi_wp2
                gi_region
                gi_wp2
                have x5 := HK1.out
                refine ⟨⟨k1, swp d k k1, rfl, by omega, by omega, by rw [size_swp]; exact hsd, hsw, ?_⟩, by simp [iOf]; omega⟩
                show _ = _
                rw [← HU.out]
                obtain ⟨k', rfl⟩ : ∃ k', k = k' + 1 := ⟨k - 1, by omega⟩
                conv => rhs; unfold downN
                rw [if_pos hik, x5]
                rfl
              · have hkz : ¬ (i : Int) < (k : Int) := by omega
                gi_wp2
                refine bodyPost_ret (results_none rfl _ _ _) rfl ?_
                refine ⟨rfl, ?_⟩
                have hz := HU.out
                have hz2 : downN i k d = d := by
                  cases k with
                  | zero => rfl
                  | succ k => unfold downN; rw [if_neg hik]
                rw [hz2] at hz
                rw [hz] at hRd
                have hfi := HF.out
                unfold symN
                rw [if_neg c1, if_pos c2, ← hfi]
                exact hRd
      · have e2 : ((b : Int) - (m : Int) == 1) = false := by rw [beq_eq_false_iff_ne]; omega
        obtain ⟨mid, hmid⟩ : ∃ mid, mid = (a + b) / 2 := ⟨_, rfl⟩
        obtain ⟨n, hnn⟩ : ∃ n, n = mid + m := ⟨_, rfl⟩
        obtain ⟨p, hp⟩ : ∃ p, p = n - 1 := ⟨_, rfl⟩
        obtain ⟨nb, hnb⟩ : ∃ nb, nb = n - b := ⟨_, rfl⟩
        have g0 : IntKind.u64.wrap ((a : Int) + b) = (a : Int) + b := by rw [IntKind.wrap_u64]; omega
        have g00 : IntKind.i64.wrap ((a : Int) + b) = (a : Int) + b := by rw [IntKind.wrap_i64]; omega
        have gnn : (0 : Int) ≤ (a : Int) + b := by omega
        have g1 : ((a : Int) + (b : Int)) / 2 = (mid : Int) := by omega
        have g2 : IntKind.i64.wrap ((mid : Int) + m) = (n : Int) := by rw [IntKind.wrap_i64]; omega
        have g3 : IntKind.i64.wrap ((n : Int) - 1) = (p : Int) := by rw [IntKind.wrap_i64]; omega
        have HP : Hid (mid = (a + b) / 2 ∧ n = mid + m ∧ p = n - 1 ∧ nb = n - b) := ⟨hmid, hnn, hp, hnb⟩
        obtain ⟨s0, r0, hcase, u1, u2, u3, u4⟩ : ∃ s0 r0 : Nat, ((mid < m ∧ s0 = nb ∧ r0 = mid) ∨ (¬ mid < m ∧ s0 = a ∧ r0 = m)) ∧ s0 ≤ r0 ∧ r0 ≤ mid ∧ r0 ≤ m ∧ a ≤ s0 ∧ n ≤ s0 + b := by
          by_cases hx : mid < m
          · exact ⟨nb, mid, .inl ⟨hx, rfl, rfl⟩, by omega, by omega, by omega, by omega, by omega⟩
          · exact ⟨a, m, .inr ⟨hx, rfl, rfl⟩, by omega, by omega, by omega, by omega, by omega⟩
        have hn' : mid + m = n := hnn.symm
        have hp' : p + 1 = n := by omega
        clear hmid hnn hp hnb
        rcases hcase with ⟨hx, rfl, rfl⟩ | ⟨hx, rfl, rfl⟩
        · skip
          have hxz : ((r0 : Nat) : Int) < (m : Int) := by omega
          have w3 : IntKind.i64.wrap ((n : Int) - b) = (s0 : Int) := by have := HP.out; rw [IntKind.wrap_i64]; omega
          gi_wp2
          gi_loopw [20, 21] (fun vi vj wr => ∃ (i j f2 : Nat), vi = .int .i64 i ∧ vj = .int .i64 j ∧ s0 ≤ i ∧ i ≤ j ∧ j ≤ r0 ∧ j - i ≤ f2 ∧ RW encV 4 w0 blk off dk wr ∧ Hid (bsN (fun c => !ltOf cf dk[n - 1 - c]! dk[c]!) f2 i j = bsN (fun c => !ltOf cf dk[n - 1 - c]! dk[c]!) (r0 - s0) s0 r0))
            (fun vi vj _ => (iOf vj).toNat - (iOf vi).toNat)
          case atStart => exact ⟨s0, r0, r0 - s0, by first | rfl | (congr 1), rfl, Nat.le_refl _, u1, Nat.le_refl _, Nat.le_refl _, hW, rfl⟩
          case round =>
            obtain ⟨i, j, f2, rfl, rfl, p1, p2, p3, p4, hR, HO⟩ := hrel
            by_cases hij : i < j
            · have hijz : (i : Int) < (j : Int) := by omega
              obtain ⟨h, hh⟩ : ∃ h, h = (i + j) / 2 := ⟨_, rfl⟩
              obtain ⟨h1, hh1⟩ : ∃ h1, h1 = h + 1 := ⟨_, rfl⟩
              obtain ⟨pc, hpc⟩ : ∃ pc, pc = n - 1 - h := ⟨_, rfl⟩
              have a1 : ((i : Int) + (j : Int)) / 2 = (h : Int) := by omega
              have a2 : IntKind.i64.wrap ((h : Int) + 1) = (h1 : Int) := by rw [IntKind.wrap_i64]; omega
              have a3 : IntKind.i64.wrap ((p : Int) - h) = (pc : Int) := by rw [IntKind.wrap_i64]; omega
              have b1 : (h : Int) < (d0.size : Int) := by omega
              have b2 : (pc : Int) < (d0.size : Int) := by omega
              have b3 : (0 : Int) ≤ (h : Int) := by omega
              have b4 : (0 : Int) ≤ (pc : Int) := by omega
              obtain ⟨f2, rfl⟩ : ∃ f', f2 = f' + 1 := ⟨f2 - 1, by omega⟩
              have q1 : i ≤ h := by omega
              have q2 : h < j := by omega
              have lh := hR.loads R hs Try.prog h (by omega)
              have lp := hR.loads R hs Try.prog pc (by omega)
              have hcg := HC.out.grown dk[pc]! dk[h]! wr
              obtain ⟨cA, hcA⟩ : ∃ c, c = encV dk[h]! := ⟨_, rfl⟩
              obtain ⟨cB, hcB⟩ : ∃ c, c = encV dk[pc]! := ⟨_, rfl⟩
              obtain ⟨v, hv⟩ : ∃ v, v = cf dk[pc]! dk[h]! := ⟨_, rfl⟩
              rw [← hcA] at lh hcg
              rw [← hcB] at lp hcg
              rw [← hv] at hcg
              have HST : Hid (bsN (fun c => !ltOf cf dk[n - 1 - c]! dk[c]!) (f2 + 1) i j = if v < 0 then bsN (fun c => !ltOf cf dk[n - 1 - c]! dk[c]!) f2 i h else bsN (fun c => !ltOf cf dk[n - 1 - c]! dk[c]!) f2 h1 j) := by
                show _ = _
                conv => lhs; unfold bsN
                rw [if_pos hij, ← hh, ← hpc, hh1, hv]
                unfold ltOf
                by_cases hz : cf dk[pc]! dk[h]! < 0 <;> simp [hz]
              have HX5 : Hid (h1 = h + 1) := hh1
              clear hcA hcB hv hh hh1 hpc
              by_cases hlv : v < 0
              · gi_wp2
                refine wpIn_region_quiet_below rfl mixed (by kernel_rfl) ?_
                repeat (quiet_step_in (exact hcg _ _ _))
                refine wpQuietIn_nil ?_
                rintro w2 ⟨⟨dq, osq⟩, rfl⟩
                have hR2 := hR.below (below_regrown wr dq osq)
                clear lh lp hcg
                generalize grow (redrawn wr dq) osq = w2 at hR2 ⊢
                gi_wp2
                have x5 := HX5.out
                refine ⟨⟨i, h, f2, rfl, rfl, p1, q1, by omega, by omega, hR2, ?_⟩, by simp [iOf]; omega⟩
                show _ = _
                have := HST.out
                rw [if_pos (by omega)] at this
                rw [← HO.out, this]
              · gi_wp2
                refine wpIn_region_quiet_below rfl mixed (by kernel_rfl) ?_
                repeat (quiet_step_in (exact hcg _ _ _))
                refine wpQuietIn_nil ?_
                rintro w2 ⟨⟨dq, osq⟩, rfl⟩
                have hR2 := hR.below (below_regrown wr dq osq)
                clear lh lp hcg
                generalize grow (redrawn wr dq) osq = w2 at hR2 ⊢
                gi_wp2
                have x5 := HX5.out
                refine ⟨⟨h1, j, f2, rfl, rfl, by omega, by omega, p3, by omega, hR2, ?_⟩, by simp [iOf]; omega⟩
                show _ = _
                have := HST.out
                rw [if_neg (by omega)] at this
                rw [← HO.out, this]
                all_goals (rename_i hz; exfalso; have hz2 : ¬ v < 0 := (by omega); simp [hz2] at hz)
            · have HF : i = bsN (fun c => !ltOf cf dk[n - 1 - c]! dk[c]!) (r0 - s0) s0 r0 := by
                rw [← HO.out]
                cases f2 with
                | zero => rfl
                | succ f2 => unfold bsN; rw [if_neg hij]
              obtain ⟨en, hen⟩ : ∃ en, en = n - i := ⟨_, rfl⟩
              have x1 : IntKind.i64.wrap ((n : Int) - i) = (en : Int) := by rw [IntKind.wrap_i64]; omega
              have HFIN : Hid (symN (ltOf cf) (f + 1) a m b dk = symE (ltOf cf) f a m b r0 i en dk) := symN_end (ltOf cf) f a m b r0 n s0 r0 i en dk c1 c2 HP.out.1 HP.out.2.1 (by first | exact (if_pos hx).symm | exact (if_neg hx).symm | (rw [if_pos hx]; exact HP.out.2.2.2)) (by first | exact (if_pos hx).symm | exact (if_neg hx).symm) HF hen
              have hijz : ¬ (i : Int) < (j : Int) := by omega
              have xi : i ≤ m ∧ i ≤ r0 ∧ a ≤ i ∧ en ≤ b := by omega
              have xb : b - r0 ≤ f ∧ r0 - a ≤ f := by have := HP.out.1; omega
              have xt : (i < m → r0 < en) ∧ (i < r0 → m < en) ∧ en ≤ dk.size ∧ r0 ≤ dk.size := by omega
              clear hen HF HO
              gi_upto_region 39 with (fail)
              gi_cut [185] from 175 (fun v wx => v = .bool (decide (i < m ∧ m < en)) ∧ RW encV 4 w0 blk off dk wx)
              case first =>
                by_cases t1 : i < m
                · have z1 : (i : Int) < (m : Int) := by omega
                  by_cases t2 : m < en
                  · have z2 : (m : Int) < (en : Int) := by omega
                    gi_wp2
                    gi_meet
                    case rel => exact ⟨by simp [t1, t2], hR⟩
                  · have z2 : ¬ (m : Int) < (en : Int) := by omega
                    gi_wp2
                    gi_meet
                    case rel => exact ⟨by simp [t1, t2], hR⟩
                · have z1 : ¬ (i : Int) < (m : Int) := by omega
                  gi_wp2
                  gi_meet
                  case rel => exact ⟨by simp [t1], hR⟩
              case rest =>
                clear hR
                obtain ⟨hv, hR⟩ := hcut
                subst hv
                gi_upto_if 185 with (fail)
                gi_cut [] from 175 (fun wx => ∃ d1 : Array Rv, d1.size = d0.size ∧ RW encV 4 w0 blk off d1 wx ∧ Hid (d1 = if i < m ∧ m < en then rotR m (en - i) (m - i) (en - m) dk else dk))
                case first =>
                  by_cases T : i < m ∧ m < en
                  · have hT : decide (i < m ∧ m < en) = true := decide_eq_true T
                    have hc := fun nn => rotate_in nn w0 _ blk off cap d0 _ R hs hR i m en T.1 T.2 xt.2.2.1 hsz (.func (.func g) #[] #[])
                    gi_wp2_with (first
                      | (gi_at_call 129; refine (hc _).mono ?_; rintro e w2 ⟨rfl, hR2⟩)
                      | gi_in)
                    gi_meet
                    case rel => exact ⟨_, by rw [rotR_size]; exact hs, hR2, by show _ = _; rw [if_pos T]⟩
                  · have hT : decide (i < m ∧ m < en) = false := decide_eq_false T
                    gi_wp2
                    gi_meet
                    case rel => exact ⟨_, hs, hR, by show _ = _; rw [if_neg T]⟩
                case rest =>
                  clear hR
                  obtain ⟨d1, hs1, hR, HD1⟩ := hcut
                  gi_upto_region 41 with (fail)
                  gi_cut [199] from 175 (fun v wx => v = .bool (decide (a < i ∧ i < r0)) ∧ RW encV 4 w0 blk off d1 wx)
                  case first =>
                    by_cases t1 : a < i
                    · have z1 : (a : Int) < (i : Int) := by omega
                      by_cases t2 : i < r0
                      · have z2 : (i : Int) < (r0 : Int) := by omega
                        gi_wp2
                        gi_meet
                        case rel => exact ⟨by simp [t1, t2], hR⟩
                      · have z2 : ¬ (i : Int) < (r0 : Int) := by omega
                        gi_wp2
                        gi_meet
                        case rel => exact ⟨by simp [t1, t2], hR⟩
                    · have z1 : ¬ (a : Int) < (i : Int) := by omega
                      gi_wp2
                      gi_meet
                      case rel => exact ⟨by simp [t1], hR⟩
                  case rest =>
                    clear hR
                    obtain ⟨hv, hR⟩ := hcut
                    subst hv
                    gi_upto_if 199 with (fail)
                    gi_cut [] from 175 (fun wx => ∃ d2 : Array Rv, d2.size = d0.size ∧ RW encV 4 w0 blk off d2 wx ∧ Hid (d2 = if a < i ∧ i < r0 then symN (ltOf cf) f a i r0 d1 else d1))
                    case first =>
                      by_cases T : a < i ∧ i < r0
                      · have hT : decide (a < i ∧ i < r0) = true := decide_eq_true T
                        have hc := fun nn => ih nn _ d1 hs1 hR a i r0 T.1 T.2 (by rw [hs1, ← hs]; exact xt.2.2.2) (by rw [hs1, ← hs]; exact hsz) xb.2
                        gi_wp2_with (first
                          | (gi_at_call 111; refine (hc _).mono ?_; rintro e w2 ⟨rfl, hR2⟩)
                          | gi_in)
                        gi_meet
                        case rel => exact ⟨_, by rw [symN_size]; exact hs1, hR2, by show _ = _; rw [if_pos T]⟩
                      · have hT : decide (a < i ∧ i < r0) = false := decide_eq_false T
                        gi_wp2
                        gi_meet
                        case rel => exact ⟨_, hs1, hR, by show _ = _; rw [if_neg T]⟩
                    case rest =>
                      clear hR
                      obtain ⟨d2, hs2, hR, HD2⟩ := hcut
                      gi_upto_region 43 with (fail)
                      gi_cut [213] from 175 (fun v wx => v = .bool (decide (r0 < en ∧ en < b)) ∧ RW encV 4 w0 blk off d2 wx)
                      case first =>
                        by_cases t1 : r0 < en
                        · have z1 : (r0 : Int) < (en : Int) := by omega
                          by_cases t2 : en < b
                          · have z2 : (en : Int) < (b : Int) := by omega
                            gi_wp2
                            gi_meet
                            case rel => exact ⟨by simp [t1, t2], hR⟩
                          · have z2 : ¬ (en : Int) < (b : Int) := by omega
                            gi_wp2
                            gi_meet
                            case rel => exact ⟨by simp [t1, t2], hR⟩
                        · have z1 : ¬ (r0 : Int) < (en : Int) := by omega
                          gi_wp2
                          gi_meet
                          case rel => exact ⟨by simp [t1], hR⟩
                      case rest =>
                        clear hR
                        obtain ⟨hv, hR⟩ := hcut
                        subst hv
                        gi_upto_if 213 with (fail)
                        by_cases T : r0 < en ∧ en < b
                        · have hT : decide (r0 < en ∧ en < b) = true := decide_eq_true T
                          have hc := fun nn => ih nn _ d2 hs2 hR r0 en b T.1 T.2 (by rw [hs2, ← hs]; exact hb) (by rw [hs2, ← hs]; exact hsz) xb.1
                          gi_wp2_with (first
                            | (gi_at_call 111; refine (hc _).mono ?_; rintro e w2 ⟨rfl, hR2⟩)
                            | gi_in)
                          go_end0
                          refine ⟨rfl, ?_⟩
                          rw [HFIN.out]
                          unfold symE
                          rw [if_pos T, ← HD1.out, ← HD2.out]
                          exact hR2
                        · have hT : decide (r0 < en ∧ en < b) = false := decide_eq_false T
                          gi_wp2
                          go_end0
                          refine ⟨rfl, ?_⟩
                          rw [HFIN.out]
                          unfold symE
                          rw [if_neg T, ← HD1.out, ← HD2.out]
                          exact hR
        · skip
          have hxz : ¬ ((mid : Nat) : Int) < (r0 : Int) := by omega
          gi_wp2
          gi_loopw [20, 21] (fun vi vj wr => ∃ (i j f2 : Nat), vi = .int .i64 i ∧ vj = .int .i64 j ∧ s0 ≤ i ∧ i ≤ j ∧ j ≤ r0 ∧ j - i ≤ f2 ∧ RW encV 4 w0 blk off dk wr ∧ Hid (bsN (fun c => !ltOf cf dk[n - 1 - c]! dk[c]!) f2 i j = bsN (fun c => !ltOf cf dk[n - 1 - c]! dk[c]!) (r0 - s0) s0 r0))
            (fun vi vj _ => (iOf vj).toNat - (iOf vi).toNat)
          case atStart => exact ⟨s0, r0, r0 - s0, by first | rfl | (congr 1), rfl, Nat.le_refl _, u1, Nat.le_refl _, Nat.le_refl _, hW, rfl⟩
          case round =>
            obtain ⟨i, j, f2, rfl, rfl, p1, p2, p3, p4, hR, HO⟩ := hrel
            by_cases hij : i < j
            · have hijz : (i : Int) < (j : Int) := by omega
              obtain ⟨h, hh⟩ : ∃ h, h = (i + j) / 2 := ⟨_, rfl⟩
              obtain ⟨h1, hh1⟩ : ∃ h1, h1 = h + 1 := ⟨_, rfl⟩
              obtain ⟨pc, hpc⟩ : ∃ pc, pc = n - 1 - h := ⟨_, rfl⟩
              have a1 : ((i : Int) + (j : Int)) / 2 = (h : Int) := by omega
              have a2 : IntKind.i64.wrap ((h : Int) + 1) = (h1 : Int) := by rw [IntKind.wrap_i64]; omega
              have a3 : IntKind.i64.wrap ((p : Int) - h) = (pc : Int) := by rw [IntKind.wrap_i64]; omega
              have b1 : (h : Int) < (d0.size : Int) := by omega
              have b2 : (pc : Int) < (d0.size : Int) := by omega
              have b3 : (0 : Int) ≤ (h : Int) := by omega
              have b4 : (0 : Int) ≤ (pc : Int) := by omega
              obtain ⟨f2, rfl⟩ : ∃ f', f2 = f' + 1 := ⟨f2 - 1, by omega⟩
              have q1 : i ≤ h := by omega
              have q2 : h < j := by omega
              have lh := hR.loads R hs Try.prog h (by omega)
              have lp := hR.loads R hs Try.prog pc (by omega)
              have hcg := HC.out.grown dk[pc]! dk[h]! wr
              obtain ⟨cA, hcA⟩ : ∃ c, c = encV dk[h]! := ⟨_, rfl⟩
              obtain ⟨cB, hcB⟩ : ∃ c, c = encV dk[pc]! := ⟨_, rfl⟩
              obtain ⟨v, hv⟩ : ∃ v, v = cf dk[pc]! dk[h]! := ⟨_, rfl⟩
              rw [← hcA] at lh hcg
              rw [← hcB] at lp hcg
              rw [← hv] at hcg
              have HST : Hid (bsN (fun c => !ltOf cf dk[n - 1 - c]! dk[c]!) (f2 + 1) i j = if v < 0 then bsN (fun c => !ltOf cf dk[n - 1 - c]! dk[c]!) f2 i h else bsN (fun c => !ltOf cf dk[n - 1 - c]! dk[c]!) f2 h1 j) := by
                show _ = _
                conv => lhs; unfold bsN
                rw [if_pos hij, ← hh, ← hpc, hh1, hv]
                unfold ltOf
                by_cases hz : cf dk[pc]! dk[h]! < 0 <;> simp [hz]
              have HX5 : Hid (h1 = h + 1) := hh1
              clear hcA hcB hv hh hh1 hpc
              by_cases hlv : v < 0
              · gi_wp2
                refine wpIn_region_quiet_below rfl mixed (by kernel_rfl) ?_
                repeat (quiet_step_in (exact hcg _ _ _))
                refine wpQuietIn_nil ?_
                rintro w2 ⟨⟨dq, osq⟩, rfl⟩
                have hR2 := hR.below (below_regrown wr dq osq)
                clear lh lp hcg
                generalize grow (redrawn wr dq) osq = w2 at hR2 ⊢
                gi_wp2
                have x5 := HX5.out
                refine ⟨⟨i, h, f2, rfl, rfl, p1, q1, by omega, by omega, hR2, ?_⟩, by simp [iOf]; omega⟩
                show _ = _
                have := HST.out
                rw [if_pos (by omega)] at this
                rw [← HO.out, this]
              · gi_wp2
                refine wpIn_region_quiet_below rfl mixed (by kernel_rfl) ?_
                repeat (quiet_step_in (exact hcg _ _ _))
                refine wpQuietIn_nil ?_
                rintro w2 ⟨⟨dq, osq⟩, rfl⟩
                have hR2 := hR.below (below_regrown wr dq osq)
                clear lh lp hcg
                generalize grow (redrawn wr dq) osq = w2 at hR2 ⊢
                gi_wp2
                have x5 := HX5.out
                refine ⟨⟨h1, j, f2, rfl, rfl, by omega, by omega, p3, by omega, hR2, ?_⟩, by simp [iOf]; omega⟩
                show _ = _
                have := HST.out
                rw [if_neg (by omega)] at this
                rw [← HO.out, this]
                all_goals (rename_i hz; exfalso; have hz2 : ¬ v < 0 := (by omega); simp [hz2] at hz)
            · have HF : i = bsN (fun c => !ltOf cf dk[n - 1 - c]! dk[c]!) (r0 - s0) s0 r0 := by
                rw [← HO.out]
                cases f2 with
                | zero => rfl
                | succ f2 => unfold bsN; rw [if_neg hij]
              obtain ⟨en, hen⟩ : ∃ en, en = n - i := ⟨_, rfl⟩
              have x1 : IntKind.i64.wrap ((n : Int) - i) = (en : Int) := by rw [IntKind.wrap_i64]; omega
              have HFIN : Hid (symN (ltOf cf) (f + 1) s0 r0 b dk = symE (ltOf cf) f s0 r0 b mid i en dk) := symN_end (ltOf cf) f s0 r0 b mid n s0 r0 i en dk c1 c2 HP.out.1 HP.out.2.1 (by first | exact (if_pos hx).symm | exact (if_neg hx).symm | (rw [if_pos hx]; exact HP.out.2.2.2)) (by first | exact (if_pos hx).symm | exact (if_neg hx).symm) HF hen
              have hijz : ¬ (i : Int) < (j : Int) := by omega
              have xi : i ≤ r0 ∧ i ≤ mid ∧ s0 ≤ i ∧ en ≤ b := by omega
              have xb : b - mid ≤ f ∧ mid - s0 ≤ f := by have := HP.out.1; omega
              have xt : (i < r0 → mid < en) ∧ (i < mid → r0 < en) ∧ en ≤ dk.size ∧ mid ≤ dk.size := by omega
              clear hen HF HO
              gi_upto_region 39 with (fail)
              gi_cut [185] from 175 (fun v wx => v = .bool (decide (i < r0 ∧ r0 < en)) ∧ RW encV 4 w0 blk off dk wx)
              case first =>
                by_cases t1 : i < r0
                · have z1 : (i : Int) < (r0 : Int) := by omega
                  by_cases t2 : r0 < en
                  · have z2 : (r0 : Int) < (en : Int) := by omega
                    gi_wp2
                    gi_meet
                    case rel => exact ⟨by simp [t1, t2], hR⟩
                  · have z2 : ¬ (r0 : Int) < (en : Int) := by omega
                    gi_wp2
                    gi_meet
                    case rel => exact ⟨by simp [t1, t2], hR⟩
                · have z1 : ¬ (i : Int) < (r0 : Int) := by omega
                  gi_wp2
                  gi_meet
                  case rel => exact ⟨by simp [t1], hR⟩
              case rest =>
                clear hR
                obtain ⟨hv, hR⟩ := hcut
                subst hv
                gi_upto_if 185 with (fail)
                gi_cut [] from 175 (fun wx => ∃ d1 : Array Rv, d1.size = d0.size ∧ RW encV 4 w0 blk off d1 wx ∧ Hid (d1 = if i < r0 ∧ r0 < en then rotR r0 (en - i) (r0 - i) (en - r0) dk else dk))
                case first =>
                  by_cases T : i < r0 ∧ r0 < en
                  · have hT : decide (i < r0 ∧ r0 < en) = true := decide_eq_true T
                    have hc := fun nn => rotate_in nn w0 _ blk off cap d0 _ R hs hR i r0 en T.1 T.2 xt.2.2.1 hsz (.func (.func g) #[] #[])
                    gi_wp2_with (first
                      | (gi_at_call 129; refine (hc _).mono ?_; rintro e w2 ⟨rfl, hR2⟩)
                      | gi_in)
                    gi_meet
                    case rel => exact ⟨_, by rw [rotR_size]; exact hs, hR2, by show _ = _; rw [if_pos T]⟩
                  · have hT : decide (i < r0 ∧ r0 < en) = false := decide_eq_false T
                    gi_wp2
                    gi_meet
                    case rel => exact ⟨_, hs, hR, by show _ = _; rw [if_neg T]⟩
                case rest =>
                  clear hR
                  obtain ⟨d1, hs1, hR, HD1⟩ := hcut
                  gi_upto_region 41 with (fail)
                  gi_cut [199] from 175 (fun v wx => v = .bool (decide (s0 < i ∧ i < mid)) ∧ RW encV 4 w0 blk off d1 wx)
                  case first =>
                    by_cases t1 : s0 < i
                    · have z1 : (s0 : Int) < (i : Int) := by omega
                      by_cases t2 : i < mid
                      · have z2 : (i : Int) < (mid : Int) := by omega
                        gi_wp2
                        gi_meet
                        case rel => exact ⟨by simp [t1, t2], hR⟩
                      · have z2 : ¬ (i : Int) < (mid : Int) := by omega
                        gi_wp2
                        gi_meet
                        case rel => exact ⟨by simp [t1, t2], hR⟩
                    · have z1 : ¬ (s0 : Int) < (i : Int) := by omega
                      gi_wp2
                      gi_meet
                      case rel => exact ⟨by simp [t1], hR⟩
                  case rest =>
                    clear hR
                    obtain ⟨hv, hR⟩ := hcut
                    subst hv
                    gi_upto_if 199 with (fail)
                    gi_cut [] from 175 (fun wx => ∃ d2 : Array Rv, d2.size = d0.size ∧ RW encV 4 w0 blk off d2 wx ∧ Hid (d2 = if s0 < i ∧ i < mid then symN (ltOf cf) f s0 i mid d1 else d1))
                    case first =>
                      by_cases T : s0 < i ∧ i < mid
                      · have hT : decide (s0 < i ∧ i < mid) = true := decide_eq_true T
                        have hc := fun nn => ih nn _ d1 hs1 hR s0 i mid T.1 T.2 (by rw [hs1, ← hs]; exact xt.2.2.2) (by rw [hs1, ← hs]; exact hsz) xb.2
                        gi_wp2_with (first
                          | (gi_at_call 111; refine (hc _).mono ?_; rintro e w2 ⟨rfl, hR2⟩)
                          | gi_in)
                        gi_meet
                        case rel => exact ⟨_, by rw [symN_size]; exact hs1, hR2, by show _ = _; rw [if_pos T]⟩
                      · have hT : decide (s0 < i ∧ i < mid) = false := decide_eq_false T
                        gi_wp2
                        gi_meet
                        case rel => exact ⟨_, hs1, hR, by show _ = _; rw [if_neg T]⟩
                    case rest =>
                      clear hR
                      obtain ⟨d2, hs2, hR, HD2⟩ := hcut
                      gi_upto_region 43 with (fail)
                      gi_cut [213] from 175 (fun v wx => v = .bool (decide (mid < en ∧ en < b)) ∧ RW encV 4 w0 blk off d2 wx)
                      case first =>
                        by_cases t1 : mid < en
                        · have z1 : (mid : Int) < (en : Int) := by omega
                          by_cases t2 : en < b
                          · have z2 : (en : Int) < (b : Int) := by omega
                            gi_wp2
                            gi_meet
                            case rel => exact ⟨by simp [t1, t2], hR⟩
                          · have z2 : ¬ (en : Int) < (b : Int) := by omega
                            gi_wp2
                            gi_meet
                            case rel => exact ⟨by simp [t1, t2], hR⟩
                        · have z1 : ¬ (mid : Int) < (en : Int) := by omega
                          gi_wp2
                          gi_meet
                          case rel => exact ⟨by simp [t1], hR⟩
                      case rest =>
                        clear hR
                        obtain ⟨hv, hR⟩ := hcut
                        subst hv
                        gi_upto_if 213 with (fail)
                        by_cases T : mid < en ∧ en < b
                        · have hT : decide (mid < en ∧ en < b) = true := decide_eq_true T
                          have hc := fun nn => ih nn _ d2 hs2 hR mid en b T.1 T.2 (by rw [hs2, ← hs]; exact hb) (by rw [hs2, ← hs]; exact hsz) xb.1
                          gi_wp2_with (first
                            | (gi_at_call 111; refine (hc _).mono ?_; rintro e w2 ⟨rfl, hR2⟩)
                            | gi_in)
                          go_end0
                          refine ⟨rfl, ?_⟩
                          rw [HFIN.out]
                          unfold symE
                          rw [if_pos T, ← HD1.out, ← HD2.out]
                          exact hR2
                        · have hT : decide (mid < en ∧ en < b) = false := decide_eq_false T
                          gi_wp2
                          go_end0
                          refine ⟨rfl, ?_⟩
                          rw [HFIN.out]
                          unfold symE
                          rw [if_neg T, ← HD1.out, ← HD2.out]
                          exact hR
end Go.AM

/- Walk by hand: tree.Reached: who is reached, whatever order the map gives. -/
import Derived.Test.YtcnafacmpplhbaaHq
import Derived.Test.YtcnafacmpplhbaaAe
import Derived.Test.YtcnafacmpplhbaaKy
import Derived.Sort.MapsRangeIn
import Derived.Sort.OwnSorted
import Derived.Lib.QuietBelowIn
import Derived.Lib.SlKeysI
import Derived.Test.YtcnafacmpplhbaaProg
set_option linter.unusedVariables false
set_option linter.unusedSimpArgs false
set_option maxRecDepth 100000
namespace Go.AM
open Go.Proofs Go.RowKit Go.Shelf Go.Maps Go.Sort

 attribute [local go_sem] Oper.semAt_some

/-- slices.Compact where no two neighbours are alike. -/
theorem compact_in (nF : Nat) (W : World) (g cap : Nat) (zs : List Int) (hg : g < W.heap.size) (hc : ∀ j z, zs[j]? = some z → W.cell? ⟨g, j, none⟩ = some (.int .i64 z)) (hs : zs.Pairwise (· < ·)) (hlen : zs.length < 2 ^ 40) :
    CallsIn Fence.wide nF Try.prog 77 #[.slice (some ⟨g, 0, none⟩) zs.length cap] W fun e W' => e = .returned (.slice (some ⟨g, 0, none⟩) zs.length cap) ∧ Below W.heap.size W W' := by
  have hfn : ∀ f, Fence.wide.fn f := fun _ => trivial
  have hdep : Fence.wide.depth.isSome = false := rfl
  have hf : Try.prog.funcs[77]? = some Try.f77 := by kernel_rfl
  have hn : Try.f77.ntmps = 61 := by kernel_rfl
  have ty3 : Try.prog.underlying 3 = some (.int .i64) := by kernel_rfl
  have mixed : Try.prog.follows .mixedOrders = true := by kernel_rfl
  refine callsIn_of_wp hf rfl trivial ?_ rfl
  simp only [hn, List.size_toArray, List.length_cons, List.length_nil, Nat.reduceAdd, Nat.reduceSub, Array.replicate_succ, Array.replicate_zero, List.push_toArray, List.append_toArray, List.nil_append, List.cons_append]
  by_cases hn2 : (zs.length : Int) < 2
  · gi_wp2
    refine bodyPost_ret (results_tmp rfl _ _ _) rfl ?_
    exact ⟨rfl, Below.refl _ _⟩
  gi_wp2
  gi_loopw [3] (fun vk wr => ∃ k : Nat, vk = .int .i64 k ∧ 1 ≤ k ∧ k ≤ zs.length ∧ Below W.heap.size W wr) (fun vk _ => zs.length - (iOf vk).toNat)
  case atStart => exact ⟨1, rfl, by omega, by omega, Below.refl _ _⟩
  case round =>
    obtain ⟨k, rfl, k1, k2, hB⟩ := hrel
    by_cases hk : k < zs.length
    · have hkz : (k : Int) < (zs.length : Int) := by omega
      obtain ⟨p, hp⟩ : ∃ p, p + 1 = k := ⟨k - 1, by omega⟩
      obtain ⟨q, hq⟩ : ∃ q, q = k + 1 := ⟨_, rfl⟩
      obtain ⟨y, hy⟩ : ∃ y, zs[k]? = some y := ⟨_, List.getElem?_eq_getElem hk⟩
      obtain ⟨x, hx⟩ : ∃ x, zs[p]? = some x := ⟨_, List.getElem?_eq_getElem (by omega)⟩
      have hlt : x < y := by
        obtain ⟨h1, rfl⟩ := List.getElem?_eq_some_iff.1 hx
        obtain ⟨h2, rfl⟩ := List.getElem?_eq_some_iff.1 hy
        exact List.pairwise_iff_getElem.1 hs p k h1 h2 (by omega)
      have c1 := cell_regrown ((hB.cell (p := ⟨g, k, none⟩) hg).trans (hc _ _ hy))
      have c2 := cell_regrown ((hB.cell (p := ⟨g, p, none⟩) hg).trans (hc _ _ hx))
      have w1 : IntKind.i64.wrap ((k : Int) - 1) = (p : Int) := by rw [IntKind.wrap_i64]; omega
      have w2 : IntKind.i64.wrap ((k : Int) + 1) = (q : Int) := by rw [IntKind.wrap_i64]; omega
      have e1 : (y == x) = false := by rw [beq_eq_false_iff_ne]; omega
      have b1 : (p : Int) < (zs.length : Int) := by omega
      have b2 : (0 : Int) ≤ (p : Int) := by omega
      have b3 : (0 : Int) ≤ (k : Int) := by omega
      have HQ : Hid (q = k + 1) := hq
      clear hp hq hy hx
      gi_wp2
      refine wpIn_region_quiet_below rfl mixed (by kernel_rfl) ?_
      repeat (quiet_step_in (fail))
      refine wpQuietIn_nil ?_
      rintro w2 ⟨⟨dq, osq⟩, rfl⟩
      have hb2 := below_regrown wr dq osq
      generalize grow (redrawn wr dq) osq = w2 at hb2 ⊢
      gi_wp2
      have hq := HQ.out
      exact ⟨⟨q, by first | rfl | simp, by omega, by omega, hB.trans (hb2.mono hB.size)⟩, by simp [iOf]; omega⟩
    · have hkz : ¬ (k : Int) < (zs.length : Int) := by omega
      gi_wp2
      refine bodyPost_ret (results_tmp rfl _ _ _) rfl ?_
      exact ⟨rfl, hB⟩

theorem ranges_kept {P : Program} {A B : World} {k : TypeId} {el : Value → Option (DataW Unit × List MemPlace)} {b tok n : Nat} {D : DataW Unit} {left : Lit → Bool} {cnt : Nat} (h : A.ranges P k el b tok n D left cnt) (h1 : B.heap[b]? = A.heap[b]?) (h2 : B.heap[tok]? = A.heap[tok]?) : B.ranges P k el b tok n D left cnt := by
  obtain ⟨es, clock, since, seen, c0, r1, r2, r3, r4, r5, r6⟩ := h
  exact ⟨es, clock, since, seen, c0, h1.trans r1, r2, r3, r4, h2.trans r5, r6⟩
theorem PathR.mono {W : World} {B B' : Nat} {o : Option (List Int)} {sv : Value} {b : Bool} (h : PathR W B' o sv b) (hB : B ≤ B') : PathR W B o sv b := by
  cases o with
  | none => exact h
  | some l =>
    refine ⟨h.1, h.2.1, ?_⟩
    rcases h.2.2 with h0 | ⟨g, cap, cur, e, h1, h2⟩
    · exact .inl h0
    · exact .inr ⟨g, cap, cur, e, Nat.le_trans hB h1, h2⟩
/-- tree.Path. -/
theorem pathof_in (nF : Nat) (h1 : 1 ≤ nF) (w : World) (A : Option Addr) (b off cap : Nat) (ps : List (Int × Int)) (ss : Nat → ByteArray) (fs : Nat → Nat) (hA : 0 < ps.length → A = some ⟨b, off, none⟩) (hlt : 0 < ps.length → b < w.heap.size) (hmax : ps.length ≤ 50000)
    (hwf : ∀ p ∈ ps, (Lit.int .i64 p.1).wf = true ∧ (Lit.int .i64 p.2).wf = true) (hat : RowsAt w b off ps ss fs) (c : Int) (hcw : (Lit.int .i64 c).wf = true)
    (hcon : ∀ (W : World) (B : Nat) (v : Value) (zs : List Int) (x : Int), W.ownsRow B 3 1 v zs.length (zs.map encZ) → zs.length ≤ 100000 → Calls Try.prog 87 #[v, .int .i64 x] W fun e W' => e = .returned (.bool (zs.contains x)) ∧ Below W.heap.size W W') :
    CallsIn Fence.wide nF Try.prog 42 #[.slice A ps.length cap, .int .i64 c] w fun e W' => ∃ sv bb, e = .returned (.tuple #[sv, .bool bb]) ∧ Below w.heap.size w W' ∧ PathR W' w.heap.size (pathQ (lkp ps) (ksof ps).length c) sv bb := by
  have hfn : ∀ f, Fence.wide.fn f := fun _ => trivial
  have hdep : Fence.wide.depth.isSome = false := rfl
  have hf : Try.prog.funcs[42]? = some Try.f42 := by kernel_rfl
  have hn : Try.f42.ntmps = 12 := by kernel_rfl
  have hp := fun n => parents_in n w A b off cap ps ss fs hA hlt (by omega) hwf hat
  refine callsIn_of_wp hf rfl trivial ?_ rfl
  simp only [hn, List.size_toArray, List.length_cons, List.length_nil, Nat.reduceAdd, Nat.reduceSub, Array.replicate_succ, Array.replicate_zero, List.push_toArray, List.append_toArray, List.nil_append, List.cons_append]
  gi_wp2_with (first
    | (gi_at_call 60; refine (hp _).mono ?_; rintro e w2 ⟨rfl, hM2, hB2⟩
       have hq := callsIn_wide.1 (path_in 1 (Nat.le_refl _) w2 w.heap.size (ksof ps).length (lkp ps) hM2 (Nat.le_trans (ksof_le ps) hmax) (upto_wf hwf) c hcw hcon))
    | (gi_at_call 69; refine (callsIn_wide.2 hq).mono ?_; rintro e w3 ⟨sv, bb, rfl, hB3, hPR⟩)
    | gi_in)
  have hr : Try.f42.results = #[.tmp 4, .tmp 5] := by kernel_rfl
  refine bodyPost_ret (v := .tuple #[sv, .bool bb]) (by simp [results, hr, go_sem]) rfl ?_
  exact ⟨sv, bb, rfl, hB2.trans (hB3.mono hB2.size), hPR.mono hB2.size⟩

theorem sortA_in (m : Nat) (blk off cap : Nat) (zs : List Int) (W : World) (hH : Holds encZ W blk off zs.toArray) (hblk : blk < W.heap.size) (hsz : zs.length < 4611686018427387904) :
    CallsIn Fence.wide m Try.prog 76 #[.slice (some ⟨blk, off, none⟩) zs.length cap] W fun e w' => e = .returned (.tuple #[]) ∧ ∃ k os, w' = grow (putRow encZ (Sort.ahead W k) blk off (zs.mergeSort fun x y => decide (x ≤ y)).toArray) os :=
  callsIn_wide.2 (AnyM.slices_Sort_int Try.sortA blk off cap zs W hH hblk hsz)
theorem not_root {f : Int → Option Int} (h : (f 0).isSome = true) (N : Nat) (c : Int) : pathQ f N c = none := by
  unfold pathQ
  split
  · rfl
  · rw [if_neg]
    rintro ⟨_, h2⟩
    cases hf : f 0 with
    | none => rw [hf] at h; cases h
    | some y => rw [hf] at h2; cases h2
theorem nodup_reach {ps : List (Int × Int)} {sx : List Int} (hd : sx.Nodup) (hm : ∀ x ∈ sx, x ∈ ksof ps) : (0 :: sx.filter fun k => (pathQ (lkp ps) (ksof ps).length k).isSome).Nodup := by
  rw [List.nodup_cons]
  refine ⟨fun h => ?_, hd.filter _⟩
  obtain ⟨h1, h2⟩ := List.mem_filter.1 h
  have := (mem_ksof ps 0).1 (hm 0 h1)
  rw [not_root this] at h2
  cases h2
theorem merge_lt {l : List Int} (h : l.Nodup) : (l.mergeSort fun x y => decide (x ≤ y)).Pairwise (· < ·) := by
  have h1 : (l.mergeSort fun x y => decide (x ≤ y)).Pairwise (fun x y => x ≤ y) := (List.pairwise_mergeSort (fun a b c => by simp; omega) (fun a b => by simp; omega) l).imp (by simp)
  have h2 : (l.mergeSort fun x y => decide (x ≤ y)).Nodup := (List.mergeSort_perm l _).nodup_iff.2 h
  rw [List.Nodup] at h2
  exact (h1.and h2).imp fun ⟨a, b⟩ => by omega
set_option maxHeartbeats 4000000 in
theorem reached_in (nF : Nat) (w : World) (A : Option Addr) (b off cap : Nat) (ps : List (Int × Int)) (ss : Nat → ByteArray) (fs : Nat → Nat) (hA : 0 < ps.length → A = some ⟨b, off, none⟩) (hlt : 0 < ps.length → b < w.heap.size) (hmax : ps.length ≤ 50000)
    (hwf : ∀ p ∈ ps, (Lit.int .i64 p.1).wf = true ∧ (Lit.int .i64 p.2).wf = true) (hat : RowsAt w b off ps ss fs)
    (hcon : ∀ (W : World) (B : Nat) (v : Value) (zs : List Int) (x : Int), W.ownsRow B 3 1 v zs.length (zs.map encZ) → zs.length ≤ 100000 → Calls Try.prog 87 #[v, .int .i64 x] W fun e W' => e = .returned (.bool (zs.contains x)) ∧ Below W.heap.size W W') :
    CallsIn Fence.wide nF Try.prog 49 #[.slice A ps.length cap] w fun e W' => ∃ v, e = .returned v ∧ Below w.heap.size w W' ∧ W'.ownsRow w.heap.size 3 1 v (reachQ ps).length ((reachQ ps).map encZ) := by
  have hfn : ∀ f, Fence.wide.fn f := fun _ => trivial
  have hdep : Fence.wide.depth.isSome = false := rfl
  have hf : Try.prog.funcs[49]? = some Try.f49 := by kernel_rfl
  have hn : Try.f49.ntmps = 32 := by kernel_rfl
  have ty3 : Try.prog.underlying 3 = some (.int .i64) := by kernel_rfl
  have tyi : Try.prog.underlying 38 = some (.slice 3) := by kernel_rfl
  have tyU : Try.prog.underlying 76 = some (.map 3 3) := by kernel_rfl
  obtain ⟨i0, hi, hz0, hz1, hz2⟩ := info_parts (P := Try.prog) (e := 3) (z := .int .i64 0) (size := 1) (bytes := 8) (by kernel_rfl)
  have hp := fun n => parents_in n w A b off cap ps ss fs hA hlt (by omega) hwf hat
  refine callsIn_of_wp hf rfl trivial ?_ rfl
  simp only [hn, List.size_toArray, List.length_cons, List.length_nil, Nat.reduceAdd, Nat.reduceSub, Array.replicate_succ, Array.replicate_zero, List.push_toArray, List.append_toArray, List.nil_append, List.cons_append]
  gi_wp2_with (first
    | (gi_at_call 60; refine (hp _).mono ?_; rintro e w2 ⟨rfl, hM2, hB2⟩; obtain ⟨D0, hown, hDs, hDf⟩ := id (hM2.alloc (.cells #[.int .i64 0] 3)))
    | (gi_at_range; refine wpListIn_range_own _ rfl _ 76 rfl 3 3 (Maps.int_keyed ty3) tyU _ w.heap.size (ksof ps).length _ rfl hown ?_; intro w3 hrg0 hg0 hs0)
    | gi_in)
  go_frame
  obtain ⟨s, hs⟩ : ∃ s, s = w2.heap.size := ⟨_, rfl⟩
  have hbR : (w2.alloc (.cells #[.int .i64 0] 3)).heap[s]? = some (.cells #[.int .i64 0] 3 (0, 0)) := by rw [hs]; exact World.alloc_heap_new w2 _
  have hBA : Below w.heap.size w (w2.alloc (.cells #[.int .i64 0] 3)) := hB2.alloc hB2.size _
  have hs2 := hB2.size
  rw [World.size_alloc, ← hs] at hs0 hrg0 ⊢
  have hBs : Below w.heap.size w w3 := hBA.grown hg0 hBA.size (fun k e => by cases e)
  have hM3 : MapI w3 Try.prog 3 3 w.heap.size (ksof ps).length (lkp ps) := (hM2.alloc _).of_block (hg0.block _ (by have := hM2.lt; simp; omega) (fun e => by cases e))
  have hMlt := hM2.lt
  have row0 : w3.ownsRow w.heap.size 3 1 (.slice (some ⟨s, 0, none⟩) 1 1) 1 [.int .i64 0] := ⟨rfl, .inr ⟨_, 1, #[.int .i64 0], rfl, by omega, (hg0.block s (by simp; omega) (fun e => by cases e)).trans hbR, Nat.le_refl _, by simp [maxLen], rfl, rfl⟩⟩
  have hkl := ksof_le ps
  obtain ⟨fl, hfl⟩ : ∃ fl : List Int → List Int, fl = fun sx => sx.filter fun k => (pathQ (lkp ps) (ksof ps).length k).isSome := ⟨_, rfl⟩
  have hflen : ∀ sx, (fl sx).length ≤ sx.length := fun sx => by rw [hfl]; exact List.length_filter_le _ _
  have hflT : ∀ sx x l, pathQ (lkp ps) (ksof ps).length x = some l → fl (sx ++ [x]) = fl sx ++ [x] := fun sx x l h => by rw [hfl]; simp [List.filter_append, h]
  have hflF : ∀ sx x, pathQ (lkp ps) (ksof ps).length x = none → fl (sx ++ [x]) = fl sx := fun sx x h => by rw [hfl]; simp [List.filter_append, h]
  have HFL : Hid (fl = fun sx => sx.filter fun k => (pathQ (lkp ps) (ksof ps).length k).isSome) := hfl
  clear hfl
  clear hg0
  clear hbR
  have hws : w.heap.size < s := by omega
  clear hs
  refine wpIn_loop (fun a W => ∃ (left : Lit → Bool) (cnt : Nat) (sx : List Int) (v x5 x6 x7 x13 x14 x15 x16 x17 x18 x19 x20 x21 x22 x23 x24 x25 x26 x27 : Value), (W.ranges Try.prog 3 (plainElem Try.prog 3) w.heap.size (s + 1) (ksof ps).length D0 left cnt ∧ CollectedI D0 left sx ∧ W.ownsRow w.heap.size 3 1 v (0 :: fl sx).length ((0 :: fl sx).map encZ) ∧ (∀ g, v.ownBlock = some g → g = s ∨ s + 2 ≤ g) ∧ Below w.heap.size w W ∧ MapI W Try.prog 3 3 w.heap.size (ksof ps).length (lkp ps) ∧ s + 2 ≤ W.heap.size) ∧
      a = { tmps := #[.slice A ps.length cap, undef, .slice none 0 0, .map (some w.heap.size), v, x5, x6, x7, .slice A ps.length cap, .map (some w.heap.size), .slice (some ⟨s, 0, none⟩) 1 1, .map (some w.heap.size), .pointer (some ⟨s + 1, 0, none⟩), x13, x14, x15, x16, x17, x18, x19, x20, x21, x22, x23, x24, x25, x26, x27, undef, undef, undef, undef], defers := [] })
    (fun _ W => W.rangeLeft w.heap.size (s + 1)) ?start ?round
  case start =>
    exact ⟨_, _, [], _, _, _, _, _, _, _, _, _, _, _, _, _, _, _, _, _, _, _, ⟨hrg0, CollectedI.start D0, by rw [HFL.out]; exact row0, fun g hg => .inl (by simpa [Value.ownBlock] using hg.symm), hBs, hM3, by omega⟩, rfl⟩
  case round =>
    rintro _ W ⟨left, cnt, sx, v, x5, x6, x7, x13, x14, x15, x16, x17, x18, x19, x20, x21, x22, x23, x24, x25, x26, x27, ⟨hrg, hC, hrow, hcl, hBW, hMW, hszW⟩, rfl⟩
    have hsub : ∀ x ∈ sx, x ∈ ksof ps := fun x hx => (mem_ksof ps x).2 (by rw [← (hDf x).1]; exact ((hC.2 x).1 hx).1)
    have hsl : sx.length ≤ 50000 := Nat.le_trans (List.Nodup.length_le_of_subset hC.1 fun x hx => hsub x hx) (by omega)
    have hfsl := hflen sx
    gi_wp2_with (first
      | (gi_at_next; refine wpListIn_next_ranges_ii _ rfl _ rfl 3 3 .i64 .i64 (Maps.int_keyed ty3) ty3 ty3 w.heap.size (s + 1) _ _ _ _ rfl hrg ?_ ?_)
      | gi_in)
    · intro hc0 hl0
      obtain ⟨g, cap', cur, rfl, hbase, hgb, r1, r2, r3, r4⟩ : ∃ g cap' cur, v = .slice (some ⟨g, 0, none⟩) (0 :: fl sx).length cap' ∧ w.heap.size ≤ g ∧ W.heap[g]? = some (.cells cur 3 (0, 0)) ∧ (0 :: fl sx).length ≤ cap' ∧ cap' ≤ maxLen ∧ cur.size = cap' * 1 ∧ cur.toList.take ((0 :: fl sx).length * 1) = (0 :: fl sx).map encZ := by
        rcases hrow.2 with ⟨_, h0⟩ | h'
        · simp at h0
        · exact h'
      have hlen2 : (0 :: fl sx).length < 100001 := by simp; omega
      have hnd : (0 :: fl sx).Nodup := by rw [HFL.out]; exact nodup_reach hC.1 hsub
      have hperm : (0 :: fl sx).Perm (0 :: (ksof ps).filter fun k => (pathQ (lkp ps) (ksof ps).length k).isSome) := by
        rw [HFL.out]
        refine List.Perm.cons _ (List.Perm.filter _ ((List.perm_ext_iff_of_nodup hC.1 (ksof_nodup ps)).2 fun x => ⟨hsub x, fun hx => (hC.2 x).2 ⟨by rw [(hDf x).1]; exact (mem_ksof ps x).1 hx, hl0 _⟩⟩))
      have hfin : ((0 :: fl sx).mergeSort fun x y => decide (x ≤ y)) = reachQ ps := by
        rw [mergeSort_perm_eq hperm, mergeSort_sortI (nodup_reach (ksof_nodup ps) fun x hx => hx)]; rfl
      have hmlt := merge_lt hnd
      obtain ⟨zs, hzs⟩ : ∃ zs, zs = 0 :: fl sx := ⟨_, rfl⟩
      rw [← hzs] at hlen2 hfin hmlt r1 r4 hrow ⊢
      have HZ : Hid (zs = 0 :: fl sx) := hzs
      clear hzs hnd hperm
      have hH : Holds encZ W g 0 zs.toArray := holds_of_block_i hgb (by simpa using r4)
      have hgl : g < W.heap.size := (Array.getElem?_eq_some_iff.1 hgb).1
      have cS := fun n => sortA_in n g 0 cap' zs W hH hgl (by omega)
      have hml : (zs.mergeSort fun x y => decide (x ≤ y)).length = zs.length := List.length_mergeSort _
      have HML : Hid ((zs.mergeSort fun x y => decide (x ≤ y)).length = zs.length) := hml
      have HFIN : Hid ((zs.mergeSort fun x y => decide (x ≤ y)) = reachQ ps) := hfin
      have HMLT : Hid ((zs.mergeSort fun x y => decide (x ≤ y)).Pairwise (· < ·)) := hmlt
      clear hml hfin hmlt
      gi_wp2_with (first
        | (gi_at_call 76; refine (cS _).mono ?_; rintro e w5 ⟨rfl, nn, os, hw5⟩
           have hrow5 : w5.ownsRow w.heap.size 3 1 (.slice (some ⟨g, 0, none⟩) zs.length cap') zs.length ((zs.mergeSort fun x y => decide (x ≤ y)).map encZ) := by rw [hw5]; exact ownsRow_sorted_i (by simp) hbase hgb r1 r2 r3
           have hB5 : Below w.heap.size w w5 := by rw [hw5]; exact hBW.grown (grownBy_sorted_i _) hBW.size (fun j hj => by cases hj; exact hbase)
           clear hw5
           have hg5 : g < w5.heap.size := by
             rcases hrow5.2 with ⟨h0, _⟩ | ⟨g2, cap2, cur2, h0, _, h3, _⟩
             · cases h0
             · cases h0; exact (Array.getElem?_eq_some_iff.1 h3).1
           have hc5 : ∀ j z, (zs.mergeSort fun x y => decide (x ≤ y))[j]? = some z → w5.cell? ⟨g, j, none⟩ = some (.int .i64 z) := fun j z hj => by
             have := hrow5.cells (g := g) rfl j (encZ z) (by rw [List.getElem?_map, hj]; rfl)
             have hadd : (⟨g, 0, none⟩ : Addr).add j = ⟨g, j, none⟩ := by unfold Addr.add; by_cases h : j = 0 <;> simp [h]
             rw [hadd] at this
             exact this
           have cC := fun n => compact_in n w5 g cap' (zs.mergeSort fun x y => decide (x ≤ y)) hg5 hc5 HMLT.out (by have := HML.out; omega)
           rw [HML.out] at cC
           clear hc5)
        | (gi_at_call 77; refine (cC _).mono ?_; rintro e w6 ⟨rfl, hB6⟩)
        | gi_in)
      refine bodyPost_ret (results_tmp rfl _ _ _) rfl ?_
      refine ⟨_, rfl, hB5.trans (hB6.mono hB5.size), ?_⟩
      rw [← HFIN.out, HML.out]
      exact own_below hrow5 hB6
    · intro x c w4 cnt2 hwx hwc hlk hat2 hrg2 hlt2 hg2 hsz2 hen
      have hge : W.heap.size ≤ w4.heap.size := hg2.size
      have old : ∀ k, k < W.heap.size → k ≠ s + 1 → w4.heap[k]? = W.heap[k]? := fun k hk hne => hg2.block k hk (fun e => hne (Option.some.inj e))
      have hB4 : Below w.heap.size w w4 := hBW.grown hg2 hBW.size (fun k e => by cases e; omega)
      have hM4 : MapI w4 Try.prog 3 3 w.heap.size (ksof ps).length (lkp ps) := hMW.of_block (old _ (by omega) (by omega))
      have hrow4 : w4.ownsRow w.heap.size 3 1 v (0 :: fl sx).length ((0 :: fl sx).map encZ) := hrow.kept hg2 (.inr fun e => by have := hcl _ e; omega)
      have hq := callsIn_wide.1 (path_in 1 (Nat.le_refl _) w4 w.heap.size (ksof ps).length (lkp ps) hM4 (by omega) (upto_wf hwf) x hwx hcon)
      have hcs := hC.step hlk hat2
      cases hpq : pathQ (lkp ps) (ksof ps).length x with
      | none =>
        rw [hpq] at hq
        gi_wp2_with (first
          | (gi_at_call 69; refine (callsIn_wide.2 hq).mono ?_; rintro e w5 ⟨sv, bb, rfl, hB5, rfl, rfl⟩)
          | gi_in)
        have hs5 := hB5.size
        refine ⟨⟨_, cnt2, sx ++ [x], _, _, _, _, _, _, _, _, _, _, _, _, _, _, _, _, _, _, _, ⟨ranges_kept hrg2 (hB5.block _ (by omega)) (hB5.block _ (by omega)), hcs, by rw [hflF sx x hpq]; exact own_below hrow4 hB5, hcl, hB4.trans (hB5.mono hB4.size), hM4.of_block (hB5.block _ (by omega)), by omega⟩, rfl⟩, ?_⟩
        rw [(ranges_kept hrg2 (hB5.block _ (by omega)) (hB5.block _ (by omega))).left_eq, hrg.left_eq]; exact hlt2
      | some l =>
        rw [hpq] at hq
        gi_wp2_with (first
          | (gi_at_call 69; refine (callsIn_wide.2 hq).mono ?_; rintro e w5 ⟨sv, bb, rfl, hB5, rfl, hrow9⟩
             have hs5 := hB5.size
             have own5 := own_below hrow4 hB5)
          | (gi_at_builtin; refine wpListIn_append_at _ rfl _ _ 38 rfl w.heap.size 3 i0 (.int .i64 0) 1 8 tyi hi hz0 hz1 hz2 rfl (by decide) _ _ _ rfl (own5.alloc _) ⟨w5.heap.size, 0, none⟩ 1 1 [.int .i64 x] rfl rfl (cell_one_new _ _ _) (by simp [Value.oneCell']) (by simp [maxLen]; omega) (by simp; omega) (by simp; omega) ?_; intro v' w6 hown' hg6 hblk
             go_frame)
          | gi_in)
        have hk6 : ∀ b, b < s ∨ b = s + 1 → w6.heap[b]? = w4.heap[b]? := fun b hb => ((hg6.block b (by simp; omega) (fun e => by have := hcl _ e.symm; omega)).trans (Below.heap_alloc _ _ _ (by omega))).trans (hB5.block b (by omega))
        have hs6 := hg6.size
        rw [World.size_alloc] at hs6
        refine ⟨⟨_, cnt2, sx ++ [x], v', _, _, _, _, _, _, _, _, _, _, _, _, _, _, _, _, _, _, ⟨ranges_kept hrg2 (hk6 _ (by omega)) (hk6 _ (by omega)), hcs, ?_, ?_, ?_, hM4.of_block (hk6 _ (by omega)), by omega⟩, rfl⟩, ?_⟩
        · rw [hflT sx x l hpq]; simpa using hown'
        · intro g hg
          rcases hblk with e | e
          · exact hcl g (e ▸ hg)
          · rw [hg] at e; simp at e; omega
        · exact (((hB4.trans (hB5.mono hB4.size)).alloc (by have := hB4.size; omega) _).grown hg6 (by have := hB4.size; simp; omega) (fun k e => by have := hcl k e; omega))
        · rw [(ranges_kept hrg2 (hk6 _ (by omega)) (hk6 _ (by omega))).left_eq, hrg.left_eq]; exact hlt2
end Go.AM

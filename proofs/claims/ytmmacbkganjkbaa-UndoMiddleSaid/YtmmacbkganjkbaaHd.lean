/- Walks by hand: maps, iterators. -/
import Derived.Test.YtmmacbkganjkbaaAe
import Derived.Test.YtmmacbkganjkbaaProg
set_option linter.unusedVariables false
set_option linter.unusedSimpArgs false
set_option maxRecDepth 100000
namespace Go.AM
open Go.Proofs Go.RowKit Go.Shelf

 attribute [local go_sem] Oper.semAt_some
@[local go_sem] theorem run_store_flt {P : Program} {w : World} {a : Addr} {m : Mode} (k : FloatKind) (x : Nat) : (store a (.float k x) m).run P w = stored P w a (.float k x) m := run_store P w a _ m rfl

set_option maxHeartbeats 2000000 in
theorem parents_in (nF : Nat) (w : World) (A : Option Addr) (b off cap : Nat) (ps : List (Int × Int)) (ss : Nat → ByteArray) (fs : Nat → Nat) (hA : 0 < ps.length → A = some ⟨b, off, none⟩) (hlt : 0 < ps.length → b < w.heap.size) (hmax : ps.length ≤ 2 ^ 40)
    (hwf : ∀ p ∈ ps, (Lit.int .i64 p.1).wf = true ∧ (Lit.int .i64 p.2).wf = true)
    (hc : ∀ (j : Nat) (p : Int × Int), ps[j]? = some p → w.cell? ⟨b, off + j * 4, none⟩ = some (.int .i64 p.1) ∧ w.cell? ⟨b, off + j * 4 + 1, none⟩ = some (.int .i64 p.2) ∧ w.cell? ⟨b, off + j * 4 + 2, none⟩ = some (.string (ss j)) ∧ w.cell? ⟨b, off + j * 4 + 3, none⟩ = some (.float .f64 (fs j))) :
    CallsIn Fence.wide nF Try.prog 78 #[.slice A ps.length cap] w fun e W' => e = .returned (.map (some w.heap.size)) ∧ MapI W' Try.prog 3 3 w.heap.size (ksof ps).length (lkp ps) ∧ Below w.heap.size w W' := by
  have hfn : ∀ f, Fence.wide.fn f := fun _ => trivial
  have hdep : Fence.wide.depth.isSome = false := rfl
  have hf : Try.prog.funcs[78]? = some Try.f78 := by kernel_rfl
  have hn : Try.f78.ntmps = 31 := by kernel_rfl
  have hmm := @run_makeMap Try.prog
  have ty22 : Try.prog.underlying 22 = some (.slice 29) := by kernel_rfl
  have ty3 : Try.prog.underlying 3 = some (.int .i64) := by kernel_rfl
  have ty100 : Try.prog.underlying 100 = some (.map 3 3) := by kernel_rfl
  have hz3 : ∀ w, (zeroValue 3).run Try.prog w = .ok (.int .i64 0) w := fun w => by kernel_rfl
  refine callsIn_of_wp hf rfl trivial ?_ rfl
  simp only [hn, List.size_toArray, List.length_cons, List.length_nil, Nat.reduceAdd, Nat.reduceSub, Array.replicate_succ, Array.replicate_zero, List.push_toArray, List.append_toArray, List.nil_append, List.cons_append]
  gi_wp2
  gi_loopw [11] (fun i wr => ∃ k : Nat, k ≤ ps.length ∧ i = .int .i64 k ∧ MapI wr Try.prog 3 3 w.heap.size (ksof (ps.take k)).length (lkp (ps.take k)) ∧ Below w.heap.size w wr)
    (fun i _ => ps.length - (intOf i).toNat)
  case atStart => exact ⟨0, Nat.zero_le _, rfl, MapI.made w _ _ _, (Below.refl _ w).alloc (Nat.le_refl _) _⟩
  case round =>
    obtain ⟨k, hk, rfl, hM, hB⟩ := hrel
    by_cases hkl : k < ps.length
    · obtain ⟨p, hp⟩ : ∃ p, ps[k]? = some p := ⟨ps[k], List.getElem?_eq_getElem hkl⟩
      obtain ⟨c0, c1, c2, c3⟩ := hc k p hp
      have hbw := hlt (by omega)
      obtain rfl := hA (by omega)
      have d0 := (hB.cell (p := ⟨b, off + k * 4, none⟩) hbw).trans c0
      have d1 := (hB.cell (p := ⟨b, off + k * 4 + 1, none⟩) hbw).trans c1
      have d2 := (hB.cell (p := ⟨b, off + k * 4 + 2, none⟩) hbw).trans c2
      have d3 := (hB.cell (p := ⟨b, off + k * 4 + 3, none⟩) hbw).trans c3
      obtain ⟨hw1, hw2⟩ := hwf p (List.mem_of_getElem? hp)
      have hM1 := hM.alloc (.cells #[.int .i64 p.1, .int .i64 p.2, .string (ss k), .float .f64 (fs k)] 29)
      obtain ⟨c, hl, hlc⟩ := hM1.look ty100 ty3 ty3 (hz3 _) hw1
      have hB1 := hB.alloc hB.size (.cells #[.int .i64 p.1, .int .i64 p.2, .string (ss k), .float .f64 (fs k)] 29)
      cases hfk : (lkp (ps.take k) p.1).isSome with
      | true =>
        rw [hfk] at hl
        gi_wp2
        refine ⟨⟨k + 1, by omega, by simp, ?_, hB1⟩, by simp [intOf]; omega⟩
        rw [take_snoc hp]; exact hM1.same hfk
      | false =>
        rw [hfk] at hl
        obtain ⟨w2, hs, hM2, hg2⟩ := hM1.stored ty100 ty3 ty3 hfk (by simp [maxLen]; omega) hw1 hw2
        gi_wp2
        refine ⟨⟨k + 1, by omega, by simp, ?_, grown_below hB1 hg2 (Nat.le_refl _) (Nat.le_refl _)⟩, by simp [intOf]; omega⟩
        rw [take_snoc hp]; exact hM2
    · gi_wp2
      obtain rfl : k = ps.length := by omega
      rw [List.take_length] at hM
      refine bodyPost_ret (results_tmp rfl _ _ _) rfl ?_
      exact ⟨rfl, hM, hB⟩

/-- The way up: those above a node, so many at most. -/
theorem ways_in (nF : Nat) (w : World) (m : Option Nat) (x : Int) :
    CallsIn Fence.wide nF Try.prog 79 #[.map m, .int .i64 x] w fun e W' => e = .returned (.func (.func 102) #[] #[.pointer (some ⟨w.heap.size, 0, none⟩), .pointer (some ⟨w.heap.size + 1, 0, none⟩)]) ∧
      W' = (w.alloc (.cells #[.map m] 100)).alloc (.cells #[.int .i64 x] 3) := by
  have hfn : ∀ f, Fence.wide.fn f := fun _ => trivial
  have hdep : Fence.wide.depth.isSome = false := rfl
  have hf : Try.prog.funcs[79]? = some Try.f79 := by kernel_rfl
  have hn : Try.f79.ntmps = 6 := by kernel_rfl
  refine callsIn_of_wp hf rfl trivial ?_ rfl
  simp only [hn, List.size_toArray, List.length_cons, List.length_nil, Nat.reduceAdd, Nat.reduceSub, Array.replicate_succ, Array.replicate_zero, List.push_toArray, List.append_toArray, List.nil_append, List.cons_append]
  gi_wp2
  refine bodyPost_ret (results_tmp rfl _ _ _) rfl ?_
  exact ⟨rfl, rfl⟩

set_option maxHeartbeats 2000000 in
theorem ways1_in (nF l b c bm n N : Nat) (f : Int → Option Int) (x0 : Int) (hx0 : (Lit.int .i64 x0).wf = true) (hfw : ∀ k v, f k = some v → (Lit.int .i64 v).wf = true) (J Jx : List Int → World → Prop)
    (hJ : ∀ s A B, J s A → (∃ v, B = A.setCell ⟨c, 0, none⟩ v) → J s B) (hJx : ∀ s A B, Jx s A → (∃ v, B = A.setCell ⟨c, 0, none⟩ v) → Jx s B) (hb : b < n) (hc : c < n) (hm : bm < n) (hbc : b ≠ c) (hmc : bm ≠ c)
    (hY : ∀ pre x W1, J pre W1 → YieldAt Fence.wide (nF - 1) Try.prog l #[.int .i64 x] W1 fun e W' => (e = .returned (.bool true) ∧ J (pre ++ [x]) W' ∧ Below n W1 W') ∨ (e = .returned (.bool false) ∧ Jx (pre ++ [x]) W'))
    (W : World) (b1 : Boxed W b 100 (.map (some bm))) (b2 : Boxed W c 3 (.int .i64 x0)) (hM : MapI W Try.prog 3 3 bm N f) (hN : N ≤ 2 ^ 40) (h0 : J [] W) :
    CallsIn Fence.wide nF Try.prog 102 #[.func (.yield l) #[] #[], .pointer (some ⟨b, 0, none⟩), .pointer (some ⟨c, 0, none⟩)] W fun e W' => (∃ v, e = .returned v) ∧
      ((∃ ys, ys = upto f N x0 ∧ J ys W') ∨ (∃ pre, pre <+: upto f N x0 ∧ Jx pre W')) := by
  have hfn : ∀ f, Fence.wide.fn f := fun _ => trivial
  have hdep : Fence.wide.depth.isSome = false := rfl
  have hf : Try.prog.funcs[102]? = some Try.f102 := by kernel_rfl
  have hn : Try.f102.ntmps = 26 := by kernel_rfl
  have ty3 : Try.prog.underlying 3 = some (.int .i64) := by kernel_rfl
  have ty100 : Try.prog.underlying 100 = some (.map 3 3) := by kernel_rfl
  have hz3 : ∀ w, (zeroValue 3).run Try.prog w = .ok (.int .i64 0) w := fun w => by kernel_rfl
  have hlen := hM.len ty100 3
  have h1 := b1.cell
  have h2 := b2.cell
  refine callsIn_of_wp hf rfl trivial ?_ rfl
  simp only [hn, List.size_toArray, List.length_cons, List.length_nil, Nat.reduceAdd, Nat.reduceSub, Array.replicate_succ, Array.replicate_zero, List.push_toArray, List.append_toArray, List.nil_append, List.cons_append]
  gi_wp2
  gi_loopw [8] (fun i wr => ∃ (k : Nat) (pre : List Int) (x : Int), k ≤ N ∧ i = .int .i64 k ∧ pre ++ upto f (N - k) x = upto f N x0 ∧ (Lit.int .i64 x).wf = true ∧ J pre wr ∧ Boxed wr b 100 (.map (some bm)) ∧ Boxed wr c 3 (.int .i64 x) ∧ MapI wr Try.prog 3 3 bm N f)
    (fun i _ => N - (intOf i).toNat)
  case atStart => exact ⟨0, [], x0, Nat.zero_le _, rfl, by simp, hx0, h0, b1, b2, hM⟩
  case round =>
    obtain ⟨k, pre, x, hk, rfl, hu, hx, hJs, e1, e2, hMr⟩ := hrel
    have g1 := e1.cell
    have g2 := e2.cell
    by_cases hkl : k < N
    · obtain ⟨d, hl, hld⟩ := hMr.look ty100 ty3 ty3 (hz3 _) hx
      have hsk : N - k = (N - (k + 1)) + 1 := by omega
      cases hfx : f x with
      | none =>
        rw [hfx] at hl
        rw [hsk] at hu
        simp only [upto, hfx, List.append_nil] at hu
        gi_wp2
        first | (refine ⟨fun f h => (by cases h), ?_⟩; gi_wp2) | skip
        refine bodyPost_ret (results_none rfl _ _ _) rfl ?_
        exact ⟨⟨_, rfl⟩, .inl ⟨pre, hu, hJs⟩⟩
      | some y =>
        rw [hfx] at hl
        obtain rfl := hld y hfx
        rw [hsk] at hu
        simp only [upto, hfx] at hu
        obtain ⟨fn, tmps, assign, body, hy, hR⟩ := hY pre d wr hJs
        have hwd := hfw x d hfx
        gi_wp2
        refine hR.mono ?_
        rintro e W3 (⟨rfl, hJ3, hk3⟩ | ⟨rfl, hJx3⟩)
        · have q1 : Boxed W3 b 100 (.map (some bm)) := (hk3.block b hb).trans e1
          have q2 : Boxed W3 c 3 (.int .i64 x) := (hk3.block c hc).trans e2
          have q3 : MapI W3 Try.prog 3 3 bm N f := hMr.below hm hk3
          have i1 := q2.cell
          have i2 := q2.frozen
          gi_wp2
          refine ⟨⟨k + 1, pre ++ [d], d, by omega, by simp, by simp [hu], hwd, hJ _ _ _ hJ3 ⟨_, rfl⟩, (Below.heap_setCell _ _ _ _ hbc).trans q1, q2.set _, q3.of_block (Below.heap_setCell _ _ _ _ hmc)⟩, by simp [intOf]; omega⟩
        · gi_wp2
          refine bodyPost_ret (results_none rfl _ _ _) rfl ?_
          exact ⟨⟨_, rfl⟩, .inr ⟨pre ++ [d], ⟨upto f (N - (k + 1)) d, by simp [hu]⟩, hJx3⟩⟩
    · gi_wp2
      obtain rfl : k = N := by omega
      simp only [Nat.sub_self, upto, List.append_nil] at hu
      go_end0
      exact ⟨⟨_, rfl⟩, .inl ⟨pre, hu, hJs⟩⟩

theorem upto_wf {ps : List (Int × Int)} (hwf : ∀ p ∈ ps, (Lit.int .i64 p.1).wf = true ∧ (Lit.int .i64 p.2).wf = true) (k v : Int) (h : lkp ps k = some v) : (Lit.int .i64 v).wf = true := by
  unfold lkp at h
  obtain ⟨p, h1, rfl⟩ := Option.map_eq_some_iff.1 h
  exact (hwf p (List.mem_of_find?_eq_some h1)).2

set_option maxHeartbeats 2000000 in
theorem above_in (nF : Nat) (h1 : 1 ≤ nF) (w : World) (A : Option Addr) (b off cap : Nat) (ps : List (Int × Int)) (ss : Nat → ByteArray) (fs : Nat → Nat) (hA : 0 < ps.length → A = some ⟨b, off, none⟩) (hlt : 0 < ps.length → b < w.heap.size) (hmax : ps.length ≤ 2 ^ 40)
    (hwf : ∀ p ∈ ps, (Lit.int .i64 p.1).wf = true ∧ (Lit.int .i64 p.2).wf = true)
    (hc : ∀ (j : Nat) (p : Int × Int), ps[j]? = some p → w.cell? ⟨b, off + j * 4, none⟩ = some (.int .i64 p.1) ∧ w.cell? ⟨b, off + j * 4 + 1, none⟩ = some (.int .i64 p.2) ∧ w.cell? ⟨b, off + j * 4 + 2, none⟩ = some (.string (ss j)) ∧ w.cell? ⟨b, off + j * 4 + 3, none⟩ = some (.float .f64 (fs j)))
    (x y : Int) (hy : (Lit.int .i64 y).wf = true) :
    CallsIn Fence.wide nF Try.prog 67 #[.slice A ps.length cap, .int .i64 x, .int .i64 y] w fun e W' => e = .returned (.bool ((upto (lkp ps) (ksof ps).length y).contains x)) ∧ Below w.heap.size w W' := by
  have hfn : ∀ f, Fence.wide.fn f := fun _ => trivial
  have hdep : Fence.wide.depth.isSome = false := rfl
  have hf : Try.prog.funcs[67]? = some Try.f67 := by kernel_rfl
  have hn : Try.f67.ntmps = 16 := by kernel_rfl
  have ty3 : Try.prog.underlying 3 = some (.int .i64) := by kernel_rfl
  refine callsIn_of_wp_marks hf rfl trivial ?_ rfl
  simp only [hn, List.size_toArray, List.length_cons, List.length_nil, Nat.reduceAdd, Nat.reduceSub, Array.replicate_succ, Array.replicate_zero, List.push_toArray, List.append_toArray, List.nil_append, List.cons_append]
  obtain ⟨w1, hw1⟩ : ∃ w1, w1 = (w.alloc (.cells #[.int .i64 x] 3)).alloc (.cells #[.bool false] 4) := ⟨_, rfl⟩
  have hB1 : Below w.heap.size w w1 := by rw [hw1]; exact (((Below.refl _ w).alloc (Nat.le_refl _) _).alloc (by simp) _)
  have hs1 : w1.heap.size = w.heap.size + 2 := by rw [hw1]; simp
  have bx : Boxed w1 w.heap.size 3 (.int .i64 x) := by rw [hw1]; exact (Boxed.new w 3 _).alloc _
  have br : Boxed w1 (w.heap.size + 1) 4 (.bool false) := by rw [hw1]; have := Boxed.new (w.alloc (.cells #[.int .i64 x] 3)) 4 (.bool false); simpa using this
  have hp := fun n => parents_in n w1 A b off cap ps ss fs hA (fun h => by have := hlt h; omega) hmax hwf (fun j p hj => by
    have hb := hlt (by have := (List.getElem?_eq_some_iff.1 hj).1; omega)
    obtain ⟨c0, c1, c2, c3⟩ := hc j p hj
    exact ⟨(hB1.cell (p := ⟨b, off + j * 4, none⟩) hb).trans c0, (hB1.cell (p := ⟨b, off + j * 4 + 1, none⟩) hb).trans c1, (hB1.cell (p := ⟨b, off + j * 4 + 2, none⟩) hb).trans c2, (hB1.cell (p := ⟨b, off + j * 4 + 3, none⟩) hb).trans c3⟩)
  gi_wp2_with (first | (gi_at_call 78; rw [← hw1]; refine (hp _).mono ?_; rintro e w2 ⟨rfl, hM2, hB2⟩) | (gi_at_call 79; refine (ways_in _ _ _ _).mono ?_; rintro e w3 ⟨rfl, hw3⟩))
  have hs2 := hB2.size
  obtain ⟨w4, hw4⟩ : ∃ w4, w4 = (w2.alloc (.cells #[.map (some (w.heap.size + 1 + 1))] 100)).alloc (.cells #[.int .i64 y] 3) := ⟨_, rfl⟩
  rw [← hw4]
  have hs4 : w4.heap.size = w2.heap.size + 2 := by rw [hw4]; simp
  have bm4 : Boxed w4 w2.heap.size 100 (.map (some (w.heap.size + 1 + 1))) := by rw [hw4]; exact (Boxed.new w2 100 _).alloc _
  have bf4 : Boxed w4 (w2.heap.size + 1) 3 (.int .i64 y) := by rw [hw4]; have := Boxed.new (w2.alloc (.cells #[.map (some (w.heap.size + 1 + 1))] 100)) 3 (.int .i64 y); simpa using this
  have e2 : w1.heap.size = w.heap.size + 1 + 1 := by omega
  rw [e2] at hM2
  have hM4 : MapI w4 Try.prog 3 3 (w.heap.size + 1 + 1) (ksof ps).length (lkp ps) := by rw [hw4]; exact (hM2.alloc _).alloc _
  have hMlt := hM2.lt
  have h24 : Below w2.heap.size w2 w4 := by rw [hw4]; exact ((Below.refl _ w2).alloc (Nat.le_refl _) _).alloc (by simp) _
  have hB4 : Below w.heap.size w w4 := (hB1.trans (hB2.mono (by omega))).trans (h24.mono (by omega))
  have bx4 : Boxed w4 w.heap.size 3 (.int .i64 x) := (h24.block _ (by omega)).trans ((hB2.block _ (by omega)).trans bx)
  have br4 : Boxed w4 (w.heap.size + 1) 4 (.bool false) := (h24.block _ (by omega)).trans ((hB2.block _ (by omega)).trans br)
  refine wpIn_range_c rfl h1 (gf := 102) (lb := #[.pointer (some ⟨w2.heap.size, 0, none⟩), .pointer (some ⟨w2.heap.size + 1, 0, none⟩)]) rfl trivial (enters_of (f := Try.f102) (by kernel_rfl) (by kernel_rfl) (by kernel_rfl))
    (encs := fun x : Int => #[.int .i64 x]) (Kp := Below w4.heap.size) (Chg := fun A B => ∃ v, B = A.setCell ⟨w2.heap.size + 1, 0, none⟩ v) (S := fun xs => xs = upto (lkp ps) (ksof ps).length y) (Sp := fun pre => pre <+: upto (lkp ps) (ksof ps).length y)
    (fun l J Jx W hW hJ hJx hY h0 => ways1_in (nF - 1) l w2.heap.size (w2.heap.size + 1) (w.heap.size + 1 + 1) w4.heap.size (ksof ps).length (lkp ps) y hy (upto_wf hwf) J Jx hJ hJx (by omega) (by omega) (by omega) (by omega) (by omega) (fun pre x W1 => hY pre x W1 trivial) W
      ((hW.block _ (by omega)).trans bm4) ((hW.block _ (by omega)).trans bf4) (hM4.below (by omega) hW) (Nat.le_trans (ksof_le ps) hmax) h0)
    ?c1 belowK_t (belowK_b (Nat.le_refl _)) (fun _ => rfl)
    (fun pre W => ((Boxed W w.heap.size 3 (.int .i64 x) ∧ Boxed W (w.heap.size + 1) 4 (.bool false)) ∧ x ∉ pre) ∧ Below w.heap.size w W)
    (fun c pre W => ((c = .ret ∧ Boxed W (w.heap.size + 1) 4 (.bool true)) ∧ x ∈ pre) ∧ Below w.heap.size w W)
    ?c2 ?c3 ?c4 ?c5 ⟨⟨⟨bx4, br4⟩, by simp⟩, hB4⟩
    (fun z => { tmps := #[.slice A ps.length cap, .int .i64 x, .int .i64 y, undef, .pointer (some ⟨w.heap.size, 0, none⟩), undef, .pointer (some ⟨w.heap.size + 1, 0, none⟩), .int .i64 z, .slice A ps.length cap, .map (some (w.heap.size + 1 + 1)), .int .i64 y,
        .func (.func 102) #[] #[.pointer (some ⟨w2.heap.size, 0, none⟩), .pointer (some ⟨w2.heap.size + 1, 0, none⟩)], .int .i64 z, undef, undef, undef], defers := [] }) ?assign ?body ?done ?stop
  case c1 => rintro A B k o ⟨v, rfl⟩ hk ho hn; rw [Below.heap_setCell _ _ _ _ (by simp; omega)]; exact ho
  case c2 =>
    refine OwnFrom.two <| OwnFrom.and (fun s X Y row hs hg hr => ⟨⟨?_, ?_⟩, hs.2⟩) (ownFrom_below (Nat.le_refl _) (by omega))
    · exact hs.1.1.kept hg (fun e => by have := (hr _ e.symm).1; omega)
    · exact hs.1.2.kept hg (fun e => by have := (hr _ e.symm).1; omega)
  case c3 =>
    intro c
    refine OwnFrom.two <| OwnFrom.and (fun s X Y row hs hg hr => ⟨⟨hs.1.1, ?_⟩, hs.2⟩) (ownFrom_below (Nat.le_refl _) (by omega))
    exact hs.1.2.kept hg (fun e => by have := (hr _ e.symm).1; omega)
  case c4 =>
    rintro s X Y ⟨v, rfl⟩ ⟨⟨⟨i1, i2⟩, i3⟩, i4⟩
    exact ⟨⟨⟨(Below.heap_setCell _ _ _ _ (by simp; omega)).trans i1, (Below.heap_setCell _ _ _ _ (by simp; omega)).trans i2⟩, i3⟩, i4.setCell (by simp; omega) _⟩
  case c5 =>
    rintro c s X Y ⟨v, rfl⟩ ⟨⟨⟨i1, i2⟩, i3⟩, i4⟩
    exact ⟨⟨⟨i1, (Below.heap_setCell _ _ _ _ (by simp; omega)).trans i2⟩, i3⟩, i4.setCell (by simp; omega) _⟩
  case assign =>
    intro l z W K hK
    gi_wp2
    exact hK
  case body =>
    rintro l pre z W ⟨⟨⟨i1, i2⟩, i3⟩, i4⟩
    have j1 := i1.cell
    have j2 := i2.cell
    have j3 := i2.frozen
    by_cases hzx : z = x
    · gi_wp2
      exact ⟨(KeepsOthers.setCell W ⟨w.heap.size + 1, 0, none⟩ (.bool true)).from _, ⟨⟨rfl, i2.set _⟩, by simp [hzx]⟩, i4.setCell (p := ⟨w.heap.size + 1, 0, none⟩) (by simp) _⟩
    · gi_wp2
      exact ⟨KeepsFrom.refl _ _, Below.refl _ _, ⟨⟨i1, i2⟩, by simp only [List.mem_append, List.mem_singleton, not_or]; exact ⟨i3, fun e => hzx e.symm⟩⟩, i4⟩
  case done =>
    rintro D xs W hD rfl ⟨⟨⟨i1, i2⟩, i3⟩, i4⟩ hK
    have j2 := i2.cell
    have j3 := i2.frozen
    gi_wp2
    have hK' := (KeepsOthers.setCell W ⟨w.heap.size + 1, 0, none⟩ (.bool false)).same D _ hK rfl
    refine ⟨by simp, .inl ⟨_, _, rfl, run_takeDeferred hK', ?_⟩⟩
    have hc5 := cell_kept (i2.set (.bool false)).cell (grownBy_putObj' _ D (.deferred none)) (fun r e => by cases e; exact ⟨_, hK', rfl⟩)
    have hres : ((upto (lkp ps) (ksof ps).length y).contains x) = false := by simpa using i3
    refine ⟨.bool false, ?_, by rw [hres], (i4.setCell (p := ⟨w.heap.size + 1, 0, none⟩) (by simp) _).trans (belowK_b (w := w) (Nat.le_refl _) _ D _ _ (by omega) hK' rfl rfl)⟩
    have hr : Try.f67.results = #[.cell 6 4] := by kernel_rfl
    simp [results, hr, go_sem, hc5]
  case stop =>
    rintro D c pre W hD hpre ⟨⟨⟨rfl, i2⟩, i3⟩, i4⟩ hK
    have j2 := i2.cell
    gi_wp2
    refine ⟨by simp, .inl ⟨_, _, rfl, run_takeDeferred hK, ?_⟩⟩
    have hc5 := cell_kept i2.cell (grownBy_putObj' _ D (.deferred none)) (fun r e => by cases e; exact ⟨_, hK, rfl⟩)
    have hres : ((upto (lkp ps) (ksof ps).length y).contains x) = true := by simpa using hpre.subset i3
    refine ⟨.bool true, ?_, by rw [hres], i4.trans (belowK_b (w := w) (Nat.le_refl _) W D _ _ (by omega) hK rfl rfl)⟩
    have hr : Try.f67.results = #[.cell 6 4] := by kernel_rfl
    simp [results, hr, go_sem, hc5]
end Go.AM
/- Walks by hand: steps backward. -/
set_option linter.unusedVariables false
set_option linter.unusedSimpArgs false
set_option maxRecDepth 100000
namespace Go.AM
open Go.Proofs Go.RowKit Go.Shelf

 attribute [local go_sem] Oper.semAt_some run_store_flt

theorem backward_in (nF : Nat) (w : World) (A : Option Addr) (n c : Nat) :
    CallsIn Fence.wide nF Try.prog 61 #[.slice A n c] w fun e W' => e = .returned (.func (.func 87) #[] #[.pointer (some ⟨w.heap.size, 0, none⟩)]) ∧ W' = w.alloc (.cells #[.slice A n c] 34) := by
  have hfn : ∀ f, Fence.wide.fn f := fun _ => trivial
  have hdep : Fence.wide.depth.isSome = false := rfl
  have hf : Try.prog.funcs[61]? = some Try.f61 := by kernel_rfl
  have hn : Try.f61.ntmps = 4 := by kernel_rfl
  refine callsIn_of_wp hf rfl trivial ?_ rfl
  simp only [hn, List.size_toArray, List.length_cons, List.length_nil, Nat.reduceAdd, Nat.reduceSub, Array.replicate_succ, Array.replicate_zero, List.push_toArray, List.append_toArray, List.nil_append, List.cons_append]
  gi_wp2
  refine bodyPost_ret (results_tmp rfl _ _ _) rfl ?_
  exact ⟨rfl, rfl⟩

theorem StepV.at_block {s : StepV} {w w' : World} {b off : Nat} (h : s.at w b off) (hw : w'.heap[b]? = w.heap[b]?) : s.at w' b off := by
  have : ∀ q, w'.cell? ⟨b, q, none⟩ = w.cell? ⟨b, q, none⟩ := fun q => by unfold World.cell?; rw [hw]
  unfold StepV.at at *
  simp only [this]
  exact h
/-- From the last down to k. -/
def dnto (n k : Nat) : List Nat := ((List.range n).drop k).reverse
theorem dnto_self (n : Nat) : dnto n n = [] := by simp [dnto]
theorem dnto_step {n k : Nat} (h : k < n) : dnto n k = dnto n (k + 1) ++ [k] := by
  unfold dnto
  rw [List.drop_eq_getElem_cons (by simpa using h)]
  simp

/-- What the rounds keep: the steps' variable, and their block. -/
def KpB (n B b : Nat) (w w' : World) : Prop := w'.heap[B]? = w.heap[B]? ∧ (0 < n → w'.heap[b]? = w.heap[b]?)
theorem KpB.refl (n B b : Nat) (w : World) : KpB n B b w w := ⟨rfl, fun _ => rfl⟩
theorem KpB.trans {n B b : Nat} {w w1 w2 : World} (h : KpB n B b w w1) (k : KpB n B b w1 w2) : KpB n B b w w2 := ⟨k.1.trans h.1, fun x => (k.2 x).trans (h.2 x)⟩
theorem dnto_inj {n k j : Nat} (hk : k ≤ n) (hj : j ≤ n) (h : dnto n j = dnto n k) : j = k := by
  have := congrArg List.length h
  simp [dnto] at this
  omega
theorem resRel1 {w : World} {ok : Nat → Prop} {x : IV} {v : Value} (h : ResRel w ok [1] [x] v) : RV w ok x v := by
  rcases h with ⟨_, h⟩ | ⟨h, _⟩
  · exact h
  · omega
theorem stepArgs {W : World} {ok : Nat → Prop} {x : IV} {v : Value} (h : RV W ok x v) (s : StepV) : ArgsRel W ok [[x], s.ivs] [v, .agg s.vals] := by
  refine ⟨rfl, fun i c u h1 h2 => ?_⟩
  match i with
  | 0 => cases h1; cases h2; exact .inl ⟨x, rfl, h⟩
  | 1 =>
    cases h1; cases h2
    refine .inr ⟨(show 2 ≤ 12 by decide), s.vals, rfl, rfl, fun i y u h3 h4 => ?_⟩
    match i with
    | 0 | 1 | 2 | 3 | 8 | 9 => cases h3; cases h4; exact .int _ _
    | 4 | 10 => cases h3; cases h4; exact .str _
    | 5 | 11 => cases h3; cases h4; exact .flt _ _
    | 6 | 7 => cases h3; cases h4; exact .bool _
    | n + 12 => exact absurd h3 (by simp [StepV.ivs])
  | n + 2 => exact absurd h1 (by simp)
set_option maxHeartbeats 2000000 in
theorem backward1_in (nF l B b off cap : Nat) (A : Option Addr) (ss : List StepV) (hA : 0 < ss.length → A = some ⟨b, off, none⟩) (hmax : ss.length ≤ 2 ^ 40) (J Jx : List Nat → World → Prop)
    (hY : ∀ pre x W1, (x < ss.length ∧ pre = dnto ss.length (x + 1)) → J pre W1 → YieldAt Fence.wide (nF - 1) Try.prog l #[.int .i64 (x : Nat), .agg (ss[x]?.getD default).vals] W1 fun e W' => (e = .returned (.bool true) ∧ J (pre ++ [x]) W' ∧ KpB ss.length B b W1 W') ∨ (e = .returned (.bool false) ∧ Jx (pre ++ [x]) W'))
    (W : World) (hbx : Boxed W B 34 (.slice A ss.length cap)) (hc : ∀ (j : Nat) (s : StepV), ss[j]? = some s → s.at W b (off + j * 12)) (h0 : J [] W) :
    CallsIn Fence.wide nF Try.prog 87 #[.func (.yield l) #[] #[], .pointer (some ⟨B, 0, none⟩)] W fun e W' => (∃ v, e = .returned v) ∧ ((∃ ys, ys = dnto ss.length 0 ∧ J ys W') ∨ (∃ pre, True ∧ Jx pre W')) := by
  have hfn : ∀ f, Fence.wide.fn f := fun _ => trivial
  have hdep : Fence.wide.depth.isSome = false := rfl
  have hf : Try.prog.funcs[87]? = some Try.f87 := by kernel_rfl
  have hn : Try.f87.ntmps = 19 := by kernel_rfl
  have ty34 : Try.prog.underlying 34 = some (.slice 31) := by kernel_rfl
  have hcl := hbx.cell
  refine callsIn_of_wp hf rfl trivial ?_ rfl
  simp only [hn, List.size_toArray, List.length_cons, List.length_nil, Nat.reduceAdd, Nat.reduceSub, Array.replicate_succ, Array.replicate_zero, List.push_toArray, List.append_toArray, List.nil_append, List.cons_append]
  gi_wp2
  gi_loopw [3] (fun i wr => ∃ k : Nat, k ≤ ss.length ∧ i = .int .i64 ((k : Int) - 1) ∧ J (dnto ss.length k) wr ∧ KpB ss.length B b W wr)
    (fun i _ => (intOf i + 1).toNat)
  case atStart => exact ⟨ss.length, Nat.le_refl _, by simp, by rw [dnto_self]; exact h0, .refl _ _ _ _⟩
  case round =>
    obtain ⟨k, hk, rfl, hJs, hbl⟩ := hrel
    have hbx2 : Boxed wr B 34 (.slice A ss.length cap) := hbl.1.trans hbx
    have hcl2 := hbx2.cell
    cases k with
    | zero =>
      gi_wp2
      go_end0
      exact ⟨⟨_, rfl⟩, .inl ⟨_, rfl, hJs⟩⟩
    | succ k =>
      have hk1 : ((k + 1 : Nat) : Int) - 1 = (k : Int) := by omega
      obtain ⟨s, hs⟩ : ∃ s, ss[k]? = some s := ⟨ss[k], List.getElem?_eq_getElem (by omega)⟩
      obtain ⟨c0, c1, c2, c3, c4, c5, c6, c7, c8, c9, c10, c11⟩ := StepV.at_block (hc k s hs) (hbl.2 (by omega))
      obtain rfl := hA (by omega)
      obtain ⟨fn, tmps, assign, body, hy, hR⟩ := hY _ k wr ⟨by omega, rfl⟩ hJs
      rw [hs] at hy
      simp only [Option.getD_some, StepV.vals] at hy
      have hkl : k < ss.length := by omega
      rw [hk1]
      gi_wp2
      refine hR.mono ?_
      rintro e W3 (⟨rfl, hJ3, hk3⟩ | ⟨rfl, hJx3⟩)
      · gi_wp2
        refine ⟨⟨k, by omega, rfl, by rw [dnto_step hkl]; exact hJ3, hbl.trans hk3⟩, by simp [intOf]⟩
      · gi_wp2
        refine bodyPost_ret (results_none rfl _ _ _) rfl ?_
        exact ⟨⟨_, rfl⟩, .inr ⟨_, trivial, hJx3⟩⟩

theorem Own2.and {β : Type} {B : Nat} {I I' : β → World → Prop} (h : Own2 B I) (h' : Own2 B I') : Own2 B (fun s W => I s W ∧ I' s W) := fun s W W' row hs hg hr => ⟨h s W W' row hs.1 hg hr, h' s W W' row hs.2 hg hr⟩

/-- What is told of memory between two rounds. -/
def BackI (w : World) (ok : Nat → Prop) (f : Nat → IV) (B n : Nat) (pre : List Nat) (W : World) : Prop :=
  ∃ (k : Nat) (okc : Nat → Prop) (v : Value), pre = dnto n k ∧ k ≤ n ∧ Boxed W w.heap.size 22 v ∧ RV W okc (f k) v ∧ (∀ b, okc b → b < W.heap.size ∧ ((ok b ∧ b < w.heap.size) ∨ (B + 2 ≤ b))) ∧ Below w.heap.size w W
def BackA (w : World) (A A2 : Option Addr) (n2 c2 cap : Nat) (ss : List StepV) (sb x : Nat) : Act :=
  { tmps := #[.slice A2 n2 c2, .slice A ss.length cap, .pointer (some ⟨w.heap.size, 0, none⟩), undef, .slice none 0 0, undef, .pointer (some ⟨sb, 0, none⟩), .slice A ss.length cap, .func (.func 87) #[] #[.pointer (some ⟨w.heap.size + 1, 0, none⟩)], .int .i64 (x : Nat), .agg (ss[x]?.getD default).vals, undef, undef, undef, undef]
    defers := [] }
theorem BackI.own2 (w : World) (ok : Nat → Prop) (f : Nat → IV) (B n : Nat) (hB : w.heap.size + 2 ≤ B) : Own2 B (BackI w ok f B n) := by
  rintro s W W' row ⟨k, okc, v, h1, h2, h3, h4, h5, h6⟩ hg hr
  have hne : ∀ b, b < B ∨ B + 2 ≤ b → some b ≠ row := fun b hb e => by have := (hr b e.symm).1; omega
  refine ⟨k, okc, v, h1, h2, h3.kept hg (hne _ (.inl (by omega))), h4.keeps ⟨fun b hb => ?_, fun _ h => h⟩, fun b hb => ?_, h6.grown hg h6.size fun k e => by have := (hr k e).1; omega⟩
  · obtain ⟨g1, g2⟩ := h5 b hb
    exact hg.block b g1 (hne b (by rcases g2 with g | g <;> omega))
  · obtain ⟨g1, g2⟩ := h5 b hb
    exact ⟨Nat.lt_of_lt_of_le g1 hg.size, g2⟩
set_option maxHeartbeats 2000000 in
theorem back_in (U : List (List IV) → Option (List IV)) (hU : ∀ w ok, PureAt Try.prog 20 [] [1] U w ok) (hE : Enters Try.prog 20)
    (nF : Nat) (h1 : 1 ≤ nF) (w : World) (ok : Nat → Prop) (hok : ∀ b, ok b → b < w.heap.size) (A : Option Addr) (b off cap : Nat) (ss : List StepV) (hA : 0 < ss.length → A = some ⟨b, off, none⟩) (hmax : ss.length ≤ 2 ^ 40) (hb : 0 < ss.length → b < w.heap.size)
    (hc : ∀ (j : Nat) (s : StepV), ss[j]? = some s → s.at w b (off + j * 12)) (f : Nat → IV) (hf0 : ∀ (k : Nat) (s : StepV), ss[k]? = some s → U [[f (k + 1)], s.ivs] = some [f k]) (A2 : Option Addr) (n2 c2 : Nat) (hv : RV w ok (f ss.length) (.slice A2 n2 c2)) (hsl : ∀ k v w' ok', k ≤ ss.length → RV w' ok' (f k) v → ∃ A n c, v = .slice A n c) :
    CallsIn Fence.wide nF Try.prog 26 #[.slice A2 n2 c2, .slice A ss.length cap] w fun e W' => ∃ v, e = .returned v ∧ Below w.heap.size w W' ∧ RV W' (okNew w ok W') (f 0) v := by
  have hfn : ∀ f, Fence.wide.fn f := fun _ => trivial
  have hdep : Fence.wide.depth.isSome = false := rfl
  have hf : Try.prog.funcs[26]? = some Try.f26 := by kernel_rfl
  have hn : Try.f26.ntmps = 15 := by kernel_rfl
  refine callsIn_of_wp_marks hf rfl trivial ?_ rfl
  simp only [hn, List.size_toArray, List.length_cons, List.length_nil, Nat.reduceAdd, Nat.reduceSub, Array.replicate_succ, Array.replicate_zero, List.push_toArray, List.append_toArray, List.nil_append, List.cons_append]
  gi_wp2_with (first | (gi_at_call 61; refine (backward_in _ _ _ _ _).mono ?_; rintro e w2 ⟨rfl, hw2⟩))
  have hw5 := hw2
  obtain ⟨w4, hw4⟩ : ∃ w4, w4 = (w.alloc (.cells #[.slice A2 n2 c2] 22)).alloc (.cells #[.slice A ss.length cap] 34) := ⟨_, rfl⟩
  rw [← hw4]
  have hs4 : w4.heap.size = w.heap.size + 2 := by rw [hw4]; simp
  have hB4 : Below w.heap.size w w4 := by rw [hw4]; exact ((Below.refl _ w).alloc (Nat.le_refl _) _).alloc (by simp) _
  have bl4 : Boxed w4 w.heap.size 22 (.slice A2 n2 c2) := by rw [hw4]; exact (Boxed.new w 22 _).alloc _
  have bs4 : Boxed w4 (w.heap.size + 1) 34 (.slice A ss.length cap) := by rw [hw4]; have := Boxed.new (w.alloc (.cells #[.slice A2 n2 c2] 22)) 34 (.slice A ss.length cap); simpa using this
  have hc4 : ∀ (j : Nat) (s : StepV), ss[j]? = some s → s.at w4 b (off + j * 12) := fun j s hj => StepV.at_block (hc j s hj) (hB4.block _ (hb (by have := (List.getElem?_eq_some_iff.1 hj).1; omega)))
  have hv4 : RV w4 ok (f ss.length) (.slice A2 n2 c2) := hv.keeps ⟨fun b hb => hB4.block b (hok b hb), fun _ h => h⟩
  refine wpIn_range_d rfl h1 (gf := 87) (lb := #[.pointer (some ⟨w.heap.size + 1, 0, none⟩)]) rfl trivial (enters_of (f := Try.f87) (by kernel_rfl) (by kernel_rfl) (by kernel_rfl))
    (encs := fun x : Nat => #[.int .i64 (x : Nat), .agg (ss[x]?.getD default).vals]) (R := fun pre x => x < ss.length ∧ pre = dnto ss.length (x + 1)) (Kp := KpB ss.length (w.heap.size + 1) b) (Chg := fun A B => False) (S := fun xs => xs = dnto ss.length 0) (Sp := fun _ => True)
    (fun l J Jx W hW hJ hJx hY h0 => backward1_in (nF - 1) l (w.heap.size + 1) b off cap A ss hA hmax J Jx hY W
      ((hW.block _ (by omega)).trans bs4) (fun j s hj => StepV.at_block (hc4 j s hj) (hW.block _ (by have := hb (by have := (List.getElem?_eq_some_iff.1 hj).1; omega); omega))) h0)
    (fun _ _ _ _ h => h.elim) (fun h k => h.trans k) (fun W l o o' hl ho _ _ => ⟨World.putObj_heap_other (by omega), fun h => World.putObj_heap_other (by have := hb h; omega)⟩) (fun _ => rfl)
    (fun pre W => BackI w ok f w4.heap.size ss.length pre W) (fun c pre W => False) ?c2 ?c3 (fun _ _ _ h => h.elim) (fun _ _ _ _ h => h.elim) ?c6
    (fun pre x a' W => ∃ sb, ((BackI w ok f w4.heap.size ss.length pre W ∧ (w4.heap.size + 2 ≤ sb ∧ W.heap[sb]? = some (.cells (ss[x]?.getD default).vals 31 (0, 0)))) ∧ a' = BackA w A A2 n2 c2 cap ss sb x))
    ?c7 ?assign ?body ?done (fun _ _ _ _ _ _ h => h.elim)
  case c2 => exact BackI.own2 _ _ _ _ _ (by omega)
  case c3 => exact fun c s W W' row h _ _ => h
  case c6 => exact ⟨ss.length, ok, _, (dnto_self _).symm, Nat.le_refl _, bl4, hv4, fun b hb => ⟨by have := hok b hb; omega, .inl ⟨hb, hok b hb⟩⟩, hB4⟩
  case c7 =>
    intro x a'
    rintro s W W' row ⟨sb, ⟨h1, h2, h3⟩, h4⟩ hg hr
    refine ⟨sb, ⟨BackI.own2 _ _ _ _ _ (by omega) s W W' row h1 hg hr, h2, ?_⟩, h4⟩
    rw [← h3]
    exact hg.block sb (Array.getElem?_eq_some_iff.1 h3).1 fun e => by have := (hr sb e.symm).1; omega
  case assign =>
    rintro l pre x W K hWs ⟨hx, rfl⟩ hI hK
    obtain ⟨s, hs⟩ : ∃ s, ss[x]? = some s := ⟨ss[x], List.getElem?_eq_getElem hx⟩
    simp only [BackA, hs, Option.getD_some, StepV.vals] at hK ⊢
    gi_wp2
    refine hK _ _ ⟨W.heap.size, ⟨(BackI.own2 _ _ _ _ _ (by omega)).alloc _ hI, ?_, ?_⟩, rfl⟩ ?_ ?_
    · omega
    · exact World.alloc_heap_new W _
    · exact ⟨by simp, fun k o _ ho _ => (Below.heap_alloc _ _ _ (Array.getElem?_eq_some_iff.1 ho).1).trans ho⟩
    · exact ⟨Below.heap_alloc _ _ _ (by omega), fun h => Below.heap_alloc _ _ _ (by have := hb h; omega)⟩
  case body =>
    rintro l pre x a' W ⟨hx, rfl⟩ ⟨sb, ⟨hI, h2, h3⟩, rfl⟩
    obtain ⟨s, hs⟩ : ∃ s, ss[x]? = some s := ⟨ss[x], List.getElem?_eq_getElem hx⟩
    obtain ⟨k, okc, v, q1, q2, q3, q4, q5, q6⟩ := hI
    obtain rfl : k = x + 1 := dnto_inj (by omega) q2 q1.symm
    obtain ⟨A', n', c', rfl⟩ := hsl (x + 1) v W okc hx q4
    have hsb : sb < W.heap.size := (Array.getElem?_eq_some_iff.1 h3).1
    simp only [BackA, hs, Option.getD_some, StepV.vals] at h3 ⊢
    have hcell : ∀ (q : Nat) (u : Value), s.vals[q]? = some u → W.cell? ⟨sb, q, none⟩ = some u := fun q u hq => by unfold World.cell?; rw [h3]; exact hq
    have d0 : W.cell? ⟨sb, 0, none⟩ = some (.int .i64 s.i0) := hcell 0 _ rfl
    have d1 : W.cell? ⟨sb, 1, none⟩ = some (.int .i64 s.i1) := hcell 1 _ rfl
    have d2 : W.cell? ⟨sb, 2, none⟩ = some (.int .i64 s.i2) := hcell 2 _ rfl
    have d3 : W.cell? ⟨sb, 3, none⟩ = some (.int .i64 s.i3) := hcell 3 _ rfl
    have d4 : W.cell? ⟨sb, 4, none⟩ = some (.string s.s4) := hcell 4 _ rfl
    have d5 : W.cell? ⟨sb, 5, none⟩ = some (.float .f64 s.f5) := hcell 5 _ rfl
    have d6 : W.cell? ⟨sb, 6, none⟩ = some (.bool s.b6) := hcell 6 _ rfl
    have d7 : W.cell? ⟨sb, 7, none⟩ = some (.bool s.b7) := hcell 7 _ rfl
    have d8 : W.cell? ⟨sb, 8, none⟩ = some (.int .i64 s.i8) := hcell 8 _ rfl
    have d9 : W.cell? ⟨sb, 9, none⟩ = some (.int .i64 s.i9) := hcell 9 _ rfl
    have d10 : W.cell? ⟨sb, 10, none⟩ = some (.string s.s10) := hcell 10 _ rfl
    have d11 : W.cell? ⟨sb, 11, none⟩ = some (.float .f64 s.f11) := hcell 11 _ rfl
    have g1 := q3.cell
    have g2 := q3.frozen
    have hcall := hU W okc W okc [[f (x + 1)], s.ivs] [.slice A' n' c', .agg s.vals] _ (.refl _ _) (fun b hb => (q5 b hb).1) (stepArgs q4 s) (hf0 x s hs)
    have hdep2 : (Fence.wide.inRound l).depth.isSome = false := rfl
    have hfn2 : ∀ f, (Fence.wide.inRound l).fn f := fun _ => trivial
    gi_wp2_with (first | (gi_at_call 20; refine (callsIn_wide.2 hcall).mono ?_; rintro e w5 ⟨v5, rfl, hB5, hr5⟩; have hr6 := resRel1 hr5; obtain ⟨A5, n5, c5, rfl⟩ := hsl x v5 w5 _ (by omega) hr6; have q7 : Boxed w5 w.heap.size 22 (.slice A' n' c') := (hB5.block _ (by omega)).trans q3; have g3 := q7.cell; have g4 := q7.frozen))
    have hs5 := hB5.size
    refine ⟨⟨by simpa using hs5, fun k o hk ho hn => ?_⟩, ⟨?_, fun h => ?_⟩, ⟨x, okNew W okc w5, _, (dnto_step hx).symm, by omega, q7.set _, hr6.keeps ⟨fun j hj => ?_, fun _ h => h⟩, fun j hj => ?_, (q6.trans (hB5.mono q6.size)).setCell (by simp) _⟩⟩
    · rw [Below.heap_setCell _ _ _ _ (by simp; omega), hB5.block _ (Array.getElem?_eq_some_iff.1 ho).1]; exact ho
    · rw [Below.heap_setCell _ _ _ _ (by simp), hB5.block _ (by omega)]
    · have := hb h
      rw [Below.heap_setCell _ _ _ _ (by simp; omega), hB5.block _ (by omega)]
    · refine Below.heap_setCell _ _ _ _ ?_
      rcases hj with hj | ⟨h7, h8⟩
      · have := (q5 j hj).2; simp; omega
      · simp; omega
    · rw [World.size_setCell]
      rcases hj with hj | ⟨h7, h8⟩
      · have := q5 j hj; exact ⟨by omega, this.2⟩
      · exact ⟨h8, .inr (by omega)⟩
  case done =>
    rintro D xs W hD rfl ⟨k, okc, v, q1, q2, q3, q4, q5, q6⟩ hK
    have hD2 : D = w.heap.size + 1 + 1 := by omega
    subst hD2
    obtain rfl : k = 0 := dnto_inj (Nat.zero_le _) q2 q1.symm
    obtain ⟨A5, n5, c5, rfl⟩ := hsl 0 v W _ (Nat.zero_le _) q4
    have g1 := q3.cell
    gi_wp2
    refine ⟨by simp, .inl ⟨_, _, rfl, run_takeDeferred hK, ?_⟩⟩
    refine ⟨_, results_tmp rfl _ _ _, _, rfl, q6.trans (belowK_b (w := w) (Nat.le_refl _) W _ _ _ (by omega) hK rfl rfl), q4.keeps ⟨fun j hj => World.putObj_heap_other ?_, fun j hj => ?_⟩⟩
    · have := q5 j hj
      omega
    · have := q5 j hj
      rcases this.2 with h | h
      · exact .inl h.1
      · exact .inr ⟨by omega, by simpa using this.1⟩
end Go.AM

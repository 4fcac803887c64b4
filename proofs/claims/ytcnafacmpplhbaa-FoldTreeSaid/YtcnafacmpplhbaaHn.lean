/- Walk by hand: fold.Nodes: the keys of a map, sorted. -/
import Derived.Test.YtcnafacmpplhbaaAe
import Derived.Test.YtcnafacmpplhbaaKy
import Derived.Test.YtcnafacmpplhbaaProg
set_option linter.unusedVariables false
set_option linter.unusedSimpArgs false
set_option maxRecDepth 100000
namespace Go.AM
open Go.Proofs Go.RowKit Go.Shelf Go.Maps Go.Sort

 attribute [local go_sem] Oper.semAt_some
@[local go_sem] theorem run_store_flt {P : Program} {w : World} {a : Addr} {m : Mode} (k : FloatKind) (x : Nat) : (store a (.float k x) m).run P w = stored P w a (.float k x) m := run_store P w a _ m rfl

theorem addK_len (K : List Int) (x : Int) : (addK K x).length ≤ K.length + 1 := by unfold addK; split <;> simp
theorem addP_len (K : List Int) (p : Int × Int) : (addP K p).length ≤ K.length + 2 := by
  have h1 := addK_len (addK K p.1) p.2
  have h2 := addK_len K p.1
  unfold addP; omega
theorem adds_len : ∀ (l : List (Int × Int)) (K : List Int), (l.foldl addP K).length ≤ K.length + 2 * l.length
  | [], K => by simp
  | p :: l, K => by
    have h1 := adds_len l (addP K p)
    have h2 := addP_len K p
    simp only [List.foldl_cons, List.length_cons]; omega
def valN : Value → Nat | .int _ n => n.toNat | _ => 0
/-- slices.Sort's two contracts here. -/
theorem sortsA (m : Nat) : AnyZI.SortsIn Try.prog Try.sortedA_ren Fence.wide m :=
  ⟨fun blk off cap ss W hH hblk hsz => callsIn_wide.2 (AnyM.slices_Sort_int Try.sortA blk off cap ss W hH hblk hsz), fun p cap W => callsIn_wide.2 (AnyM.slices_Sort_int_none Try.sortA p cap W)⟩
set_option maxHeartbeats 2000000 in
theorem nodes_in (w : World) (A : Option Addr) (b off cap : Nat) (ps : List (Int × Int)) (ss : Nat → ByteArray) (fs : Nat → Nat) (hA : 0 < ps.length → A = some ⟨b, off, none⟩) (hlt : 0 < ps.length → b < w.heap.size) (hmax : ps.length ≤ 2 ^ 40)
    (hwf : ∀ p ∈ ps, (Lit.int .i64 p.1).wf = true ∧ (Lit.int .i64 p.2).wf = true) (hat : RowsAt w b off ps ss fs) (A2 : Option Addr) (b2 off2 cap2 : Nat) (qs : List MvAt) (hA2 : 0 < qs.length → A2 = some ⟨b2, off2, none⟩) (hlt2 : 0 < qs.length → b2 < w.heap.size) (hmax2 : qs.length ≤ 2 ^ 40) (hwf2 : ∀ q ∈ qs, (Lit.int .i64 q.ch).wf = true ∧ (Lit.int .i64 q.par).wf = true) (hat2 : MvsAt w b2 off2 qs) :
    CallsIn Fence.wide 6 Try.prog 26 #[.slice A ps.length cap, .slice A2 qs.length cap2] w fun e W' => ∃ (v : Value) (ss : List Int) (B : Nat), e = .returned v ∧ w.heap.size ≤ B ∧ ss.Perm (nodesK ps qs) ∧ W'.ownsRow B 3 1 v ss.length ((ss.mergeSort (fun x y => decide (x ≤ y))).map encZ) ∧ Below w.heap.size w W' := by
  have hfn : ∀ f, Fence.wide.fn f := fun _ => trivial
  have hdep : Fence.wide.depth.isSome = false := rfl
  have hf : Try.prog.funcs[26]? = some Try.f26 := by kernel_rfl
  have hn : Try.f26.ntmps = 41 := by kernel_rfl
  have hmm := @run_makeMap Try.prog
  refine callsIn_of_wp hf rfl trivial ?_ rfl
  simp only [hn, List.size_toArray, List.length_cons, List.length_nil, Nat.reduceAdd, Nat.reduceSub, Array.replicate_succ, Array.replicate_zero, List.push_toArray, List.append_toArray, List.nil_append, List.cons_append]
  have ty3 : Try.prog.underlying 3 = some (.int .i64) := by kernel_rfl
  have ty4 : Try.prog.underlying 4 = some .bool := by kernel_rfl
  have tyS : Try.prog.underlying 51 = some (.map 3 4) := by kernel_rfl
  have mixed : Try.prog.follows .mixedOrders = true := by kernel_rfl
  obtain ⟨w1, hs1, hM1, hg1⟩ := (MapK.made w Try.prog 3 4).stored (k := 0) tyS ty3 ty4 (by simp [maxLen]) (by decide)
  have hB1 : Below w.heap.size w w1 := grown_below ((Below.refl _ w).alloc (Nat.le_refl _) _) hg1 (Nat.le_refl _) (Nat.le_refl _)
  gi_wp2
  gi_loopw [14] (fun i wr => ∃ (k : Nat), k ≤ ps.length ∧ i = .int .i64 k ∧ MapK wr Try.prog 3 4 w.heap.size ((ps.take k).foldl addP (addK [] 0)) ∧ Below w.heap.size w wr)
    (fun i _ => ps.length - valN i)
  case atStart => exact ⟨0, Nat.zero_le _, rfl, hM1, hB1⟩
  case round =>
    obtain ⟨k, hk, rfl, hM, hB⟩ := hrel
    obtain ⟨K, hKe⟩ : ∃ K, K = (ps.take k).foldl addP (addK [] 0) := ⟨_, rfl⟩
    rw [← hKe] at hM
    have hK : K.length ≤ 1 + 2 * k := by
      have := adds_len (ps.take k) (addK [] 0)
      have h2 := addK_len [] 0
      simp only [List.length_take, List.length_nil] at this h2
      rw [hKe]; omega
    by_cases hkl : k < ps.length
    · obtain ⟨p, hp⟩ : ∃ p, ps[k]? = some p := ⟨ps[k], List.getElem?_eq_getElem hkl⟩
      obtain ⟨c0, c1, c2, c3⟩ := hat k p hp
      have hbw := hlt (by omega)
      obtain rfl := hA (by omega)
      have d0 := (hB.cell (p := ⟨b, off + k * 4, none⟩) hbw).trans c0
      have d1 := (hB.cell (p := ⟨b, off + k * 4 + 1, none⟩) hbw).trans c1
      have d2 := (hB.cell (p := ⟨b, off + k * 4 + 2, none⟩) hbw).trans c2
      have d3 := (hB.cell (p := ⟨b, off + k * 4 + 3, none⟩) hbw).trans c3
      obtain ⟨hw1, hw2⟩ := hwf p (List.mem_of_getElem? hp)
      gi_wp2
      have hM2 := (hM.alloc (.cells #[.int .i64 p.1, .int .i64 p.2, .string (ss k), .float .f64 (fs k)] 45)).of_block (w' := (wr.alloc (.cells #[.int .i64 p.1, .int .i64 p.2, .string (ss k), .float .f64 (fs k)] 45)).drew) rfl
      obtain ⟨w2, hs2, hM3, hg3⟩ := hM2.stored (k := p.1) tyS ty3 ty4 (by simp [maxLen]; omega) hw1
      obtain ⟨w3, hs3, hM4, hg4⟩ := hM3.stored (k := p.2) tyS ty3 ty4 (by have : (addK K p.1).length ≤ K.length + 1 := (by unfold addK; split <;> simp); simp [maxLen]; omega) hw2
      have hmlt := hM.lt
      have e2 : w2.heap[wr.heap.size]? = some (.cells #[.int .i64 p.1, .int .i64 p.2, .string (ss k), .float .f64 (fs k)] 45 (0, 0)) := (hg3.block wr.heap.size (by show _ < (wr.alloc _).heap.size; simp) (by simp; omega)).trans (World.alloc_heap_new wr _)
      have c21 : w2.cell? ⟨wr.heap.size, 1, none⟩ = some (.int .i64 p.2) := by simp [World.cell?, e2]
      gi_region
      gi_wp2
      refine ⟨⟨k + 1, by omega, by simp, ?_, ?_⟩, by simp [valN]; omega⟩
      · rw [take_snoc hp, List.foldl_append, ← hKe]; exact hM4
      · have hBa : Below w.heap.size w (wr.alloc (.cells #[.int .i64 p.1, .int .i64 p.2, .string (ss k), .float .f64 (fs k)] 45)).drew := (hB.alloc hB.size _).drew
        exact grown_below (grown_below hBa hg3 (Nat.le_refl _) (Nat.le_refl _)) hg4 (Nat.le_refl _) (Nat.le_refl _)
    · obtain rfl : k = ps.length := by omega
      rw [List.take_length] at hKe
      gi_wp2
      gi_loopw [27] (fun i w5 => ∃ (k : Nat), k ≤ qs.length ∧ i = .int .i64 k ∧ MapK w5 Try.prog 3 4 w.heap.size ((qs.take k).foldl (fun K q => addP K (q.ch, q.par)) K) ∧ Below w.heap.size w w5)
        (fun i _ => qs.length - valN i)
      case atStart => exact ⟨0, Nat.zero_le _, rfl, hM, hB⟩
      case round =>
        obtain ⟨j, hj, rfl, hM5, hB5⟩ := hrel
        obtain ⟨K5, hK5e⟩ : ∃ K5, K5 = (qs.take j).foldl (fun K q => addP K (q.ch, q.par)) K := ⟨_, rfl⟩
        rw [← hK5e] at hM5
        have hK5 : K5.length ≤ K.length + 2 * j := by
          have e : (qs.take j).foldl (fun K q => addP K (q.ch, q.par)) K = ((qs.take j).map fun q => (q.ch, q.par)).foldl addP K := by rw [List.foldl_map]
          have := adds_len ((qs.take j).map fun q => (q.ch, q.par)) K
          simp only [List.length_map, List.length_take] at this
          rw [hK5e, e]; omega
        by_cases hjl : j < qs.length
        · obtain ⟨q, hq⟩ : ∃ q, qs[j]? = some q := ⟨qs[j], List.getElem?_eq_getElem hjl⟩
          obtain ⟨c0, c1, c2, c3, c4, c5⟩ := hat2 j q hq
          have hbw := hlt2 (by omega)
          obtain rfl := hA2 (by omega)
          have d0 := (hB5.cell (p := ⟨b2, off2 + j * 6, none⟩) hbw).trans c0
          have d1 := (hB5.cell (p := ⟨b2, off2 + j * 6 + 1, none⟩) hbw).trans c1
          have d2 := (hB5.cell (p := ⟨b2, off2 + j * 6 + 2, none⟩) hbw).trans c2
          have d3 := (hB5.cell (p := ⟨b2, off2 + j * 6 + 3, none⟩) hbw).trans c3
          have d4 := (hB5.cell (p := ⟨b2, off2 + j * 6 + 4, none⟩) hbw).trans c4
          have d5 := (hB5.cell (p := ⟨b2, off2 + j * 6 + 5, none⟩) hbw).trans c5
          obtain ⟨hw1, hw2⟩ := hwf2 q (List.mem_of_getElem? hq)
          gi_wp2
          have hM6 := (hM5.alloc (.cells #[.int .i64 q.c, .int .i64 q.r, .int .i64 q.par, .int .i64 q.ch, .string q.nm, .float .f64 q.rk] 27)).of_block (w' := (wr.alloc (.cells #[.int .i64 q.c, .int .i64 q.r, .int .i64 q.par, .int .i64 q.ch, .string q.nm, .float .f64 q.rk] 27)).drew) rfl
          obtain ⟨w6, hs6, hM7, hg6⟩ := hM6.stored (k := q.ch) tyS ty3 ty4 (by simp [maxLen]; omega) hw1
          obtain ⟨w7, hs7, hM8, hg7⟩ := hM7.stored (k := q.par) tyS ty3 ty4 (by have := addK_len K5 q.ch; simp [maxLen]; omega) hw2
          have hmlt := hM5.lt
          have e6 : w6.heap[wr.heap.size]? = some (.cells #[.int .i64 q.c, .int .i64 q.r, .int .i64 q.par, .int .i64 q.ch, .string q.nm, .float .f64 q.rk] 27 (0, 0)) := (hg6.block wr.heap.size (by show _ < (wr.alloc _).heap.size; simp) (by simp; omega)).trans (World.alloc_heap_new wr _)
          have c61 : w6.cell? ⟨wr.heap.size, 2, none⟩ = some (.int .i64 q.par) := by simp [World.cell?, e6]
          gi_region
          gi_wp2
          refine ⟨⟨j + 1, by omega, by simp, ?_, ?_⟩, by simp [valN]; omega⟩
          · rw [take_snoc hq, List.foldl_append, ← hK5e]; exact hM8
          · have hBa : Below w.heap.size w (wr.alloc (.cells #[.int .i64 q.c, .int .i64 q.r, .int .i64 q.par, .int .i64 q.ch, .string q.nm, .float .f64 q.rk] 27)).drew := (hB5.alloc hB5.size _).drew
            exact grown_below (grown_below hBa hg6 (Nat.le_refl _) (Nat.le_refl _)) hg7 (Nat.le_refl _) (Nat.le_refl _)
        · obtain rfl : j = qs.length := by omega
          rw [List.take_length] at hK5e
          have hKn : K5 = nodesK ps qs := by rw [hK5e, hKe]; rfl
          obtain ⟨D, hown, hsz, hperm⟩ := hM5.perm ty3
          have hbl := hown.lt
          have hseq : SeqGives Fence.wide 2 Try.prog 80 #[.pointer (some ⟨wr.heap.size, 0, none⟩)] encZ (fun ss => ss.Perm (intKeys D)) (Maps.size D) (wr.alloc (.cells #[.map (some w.heap.size)] 51)) :=
            AnyZI.keys_gives (ρ := Try.keysA_ren) { Try.keysA with } Fence.wide _ trivial rfl (by omega) wr.heap.size w.heap.size K5.length D _ (by simp) (by simp) (by
              obtain ⟨es, clock, hb, Ft, hs, hD⟩ := hown
              exact ⟨es, clock, (Below.heap_alloc _ _ _ hbl).trans hb, Ft, hs, hD⟩)
          have cK : ∀ mb W, CallsIn Fence.wide 5 Try.prog 54 #[.map mb] W fun e w' => e = .returned (.func (.func 80) #[] #[.pointer (some ⟨W.heap.size, 0, none⟩)]) ∧ w' = W.alloc (.cells #[.map mb] 51) := fun mb W => AnyZI.keys_in Try.keysA Fence.wide 5 trivial rfl mb W
          have cS := AnyZI.sorted_in Try.sortedA Fence.wide 5 trivial trivial trivial trivial rfl (by omega) (sortsA _) (enters_of (f := Try.f76) (by kernel_rfl) (by kernel_rfl) (by kernel_rfl)) 80 #[.pointer (some ⟨wr.heap.size, 0, none⟩)] trivial (enters_of (f := Try.f80) (by kernel_rfl) (by kernel_rfl) (by kernel_rfl)) _ _ (by rw [hsz]; simp [maxLen]; omega) (by rw [hsz]; omega) _ hseq
          change CallsIn _ _ Try.prog 53 _ _ _ at cS
          gi_wp2_with (first
            | (gi_at_call 54; refine (cK _ _).mono ?_; rintro e w' ⟨rfl, rfl⟩)
            | (gi_at_call 53; refine cS.mono ?_; rintro e w' ⟨v, ss, rfl, hS, hrow, hnil, hb⟩))
          go_ret
          exact ⟨v, ss, _, rfl, by have := hB5.size; simp; omega, by rw [← hKn]; exact hS.trans hperm.symm, hrow, (hB5.alloc hB5.size _).trans (hb.mono (by have := hB5.size; simp; omega))⟩
end Go.AM

/- Walks by hand: slices.SortStableFunc at rows. -/
import Derived.Test.YtcnafacmpplhbaaKg
import Derived.Test.YtcnafacmpplhbaaAg
import Derived.Test.YtcnafacmpplhbaaProg
set_option linter.unusedVariables false
set_option linter.unusedSimpArgs false
set_option maxRecDepth 100000
namespace Go.AM
open Go.Proofs Go.RowKit Go.Shelf Go.Maps Go.Sort Go.Lib

 attribute [local go_sem] Oper.semAt_some
 attribute [-go_sem] storeCells loadCellsFrom

set_option maxHeartbeats 4000000 in
theorem sort_in (nF : Nat) (w0 : World) (blk off cap : Nat) (d0 : Array Rv) (R : RowK encV 4 w0 blk off d0) (hsz : d0.size < 2 ^ 40) (g : Nat) (cf : Rv → Rv → Int)
    (eg : ∀ args w, (callFunc g args).run Try.prog w = .ok (.enter g args) w) (hcmp : CmpB Try.prog g encV cf) :
    CallsIn Fence.wide nF Try.prog 73 #[.slice (some ⟨blk, off, none⟩) d0.size cap, .func (.func g) #[] #[]] w0 fun e w' => e = .returned (.tuple #[]) ∧ RW encV 4 w0 blk off (stblN (ltOf cf) d0) w' := by
  have hfn : ∀ f, Fence.wide.fn f := fun _ => trivial
  have hdep : Fence.wide.depth.isSome = false := rfl
  have hf : Try.prog.funcs[73]? = some Try.f73 := by kernel_rfl
  have hn : Try.f73.ntmps = 9 := by kernel_rfl
  have ty3 : Try.prog.underlying 3 = some (.int .i64) := by kernel_rfl
  have hc := fun nn => stable_in nn w0 w0 blk off cap d0 d0 R rfl (RW.start R) hsz g cf eg hcmp
  have tyr : Try.prog.underlying 22 = some (.slice 45) := by kernel_rfl
  refine callsIn_of_wp hf rfl trivial ?_ rfl
  simp only [hn, List.size_toArray, List.length_cons, List.length_nil, Nat.reduceAdd, Nat.reduceSub, Array.replicate_succ, Array.replicate_zero, List.push_toArray, List.append_toArray, List.nil_append, List.cons_append]
  gi_wp2_with (first
    | (gi_at_call 91; refine (hc _).mono ?_; rintro e w2 ⟨rfl, hR2⟩)
    | gi_in)
  go_end0
  exact ⟨rfl, hR2⟩
set_option maxHeartbeats 4000000 in
theorem insertion0_in (nF : Nat) (W : World) (A : Option Addr) (cap : Nat) (cv : Value) :
    CallsIn Fence.wide nF Try.prog 110 #[.slice A 0 cap, .int .i64 0, .int .i64 0, cv] W fun e w' => e = .returned (.tuple #[]) ∧ RowKit.Below W.heap.size W w' := by
  have hfn : ∀ f, Fence.wide.fn f := fun _ => trivial
  have hdep : Fence.wide.depth.isSome = false := rfl
  have hf : Try.prog.funcs[110]? = some Try.f110 := by kernel_rfl
  have hn : Try.f110.ntmps = 53 := by kernel_rfl
  have ty3 : Try.prog.underlying 3 = some (.int .i64) := by kernel_rfl
  refine callsIn_of_wp hf rfl trivial ?_ rfl
  simp only [hn, List.size_toArray, List.length_cons, List.length_nil, Nat.reduceAdd, Nat.reduceSub, Array.replicate_succ, Array.replicate_zero, List.push_toArray, List.append_toArray, List.nil_append, List.cons_append]
  gi_wp2
  gi_loopw [8] (fun vi wr => vi = .int .i64 1 ∧ wr = W) (fun vi _ => 0)
  case atStart => exact ⟨rfl, rfl⟩
  case round =>
    obtain ⟨rfl, rfl⟩ := hrel
    gi_wp2
    go_end0
    exact ⟨rfl, RowKit.Below.refl _ _⟩
set_option maxHeartbeats 4000000 in
theorem stable0_in (nF : Nat) (W : World) (A : Option Addr) (cap : Nat) (cv : Value) :
    CallsIn Fence.wide nF Try.prog 91 #[.slice A 0 cap, .int .i64 0, cv] W fun e w' => e = .returned (.tuple #[]) ∧ RowKit.Below W.heap.size W w' := by
  have hfn : ∀ f, Fence.wide.fn f := fun _ => trivial
  have hdep : Fence.wide.depth.isSome = false := rfl
  have hf : Try.prog.funcs[91]? = some Try.f91 := by kernel_rfl
  have hn : Try.f91.ntmps = 63 := by kernel_rfl
  have ty3 : Try.prog.underlying 3 = some (.int .i64) := by kernel_rfl
  refine callsIn_of_wp hf rfl trivial ?_ rfl
  simp only [hn, List.size_toArray, List.length_cons, List.length_nil, Nat.reduceAdd, Nat.reduceSub, Array.replicate_succ, Array.replicate_zero, List.push_toArray, List.append_toArray, List.nil_append, List.cons_append]
  gi_wp2
  gi_loopw [7, 8] (fun va vb wr => va = .int .i64 0 ∧ vb = .int .i64 20 ∧ wr = W) (fun _ _ _ => 0)
  case atStart => exact ⟨rfl, rfl, rfl⟩
  case round =>
    obtain ⟨rfl, rfl, rfl⟩ := hrel
    have hc := fun nn => insertion0_in nn wr A cap cv
    gi_wp2_with (first
      | (gi_at_call 110; refine (hc _).mono ?_; rintro e w2 ⟨rfl, hB⟩)
      | gi_in)
    gi_loopw [6] (fun vk w3 => vk = .int .i64 20 ∧ w3 = w2) (fun _ _ => 0)
    case atStart => exact ⟨rfl, rfl⟩
    case round =>
      obtain ⟨rfl, rfl⟩ := hrel
      gi_wp2
      go_end0
      exact ⟨rfl, hB⟩
set_option maxHeartbeats 4000000 in
theorem sort0_in (nF : Nat) (W : World) (A : Option Addr) (cap : Nat) (cv : Value) :
    CallsIn Fence.wide nF Try.prog 73 #[.slice A 0 cap, cv] W fun e w' => e = .returned (.tuple #[]) ∧ RowKit.Below W.heap.size W w' := by
  have hfn : ∀ f, Fence.wide.fn f := fun _ => trivial
  have hdep : Fence.wide.depth.isSome = false := rfl
  have hf : Try.prog.funcs[73]? = some Try.f73 := by kernel_rfl
  have hn : Try.f73.ntmps = 9 := by kernel_rfl
  have ty3 : Try.prog.underlying 3 = some (.int .i64) := by kernel_rfl
  have hc := fun nn => stable0_in nn W A cap cv
  have tyr : Try.prog.underlying 22 = some (.slice 45) := by kernel_rfl
  refine callsIn_of_wp hf rfl trivial ?_ rfl
  simp only [hn, List.size_toArray, List.length_cons, List.length_nil, Nat.reduceAdd, Nat.reduceSub, Array.replicate_succ, Array.replicate_zero, List.push_toArray, List.append_toArray, List.nil_append, List.cons_append]
  gi_wp2_with (first
    | (gi_at_call 91; refine (hc _).mono ?_; rintro e w2 ⟨rfl, hB⟩)
    | gi_in)
  go_end0
  exact ⟨rfl, hB⟩
end Go.AM

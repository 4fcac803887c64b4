/- Walks of the library’s slices.Clone and slices.Insert, and their contracts. -/
import Derived.Test.YtmmacbkganjkbaaAc
import Derived.Test.YtmmacbkganjkbaaAe
import Derived.Test.YtmmacbkganjkbaaSh
import Derived.Test.YtmmacbkganjkbaaProg
import Derived.WalkKit
import Derived.Deep.LoopGhost
import Derived.Lib.Walk
import Derived.Lib.SliceRun
import Derived.Shelf.Spec.SlicesInsert
set_option linter.unusedVariables false
set_option linter.unusedSimpArgs false
set_option maxRecDepth 100000
namespace Go.AM
open Go.Proofs Go.RowKit Go.Lib
theorem nil_slices_Clone_Row (w : World) (n c : Nat) : Calls Try.prog 71 #[.slice none n c] w fun e w' => e = .returned (.slice none 0 0) ∧ w' = w := by
  have h0 : Try.prog.underlying 22 = some (.slice 29) := by kernel_rfl
  have hf : Try.prog.funcs[71]? = some Try.f71 := by kernel_rfl
  have hn : Try.f71.ntmps = 8 := by kernel_rfl
  have q : ∀ (w : World) (a : Option Addr) (n c n' c' : Nat), (binOp .eql 22 (.slice a n c) (.slice none n' c')).run Try.prog w = .ok (.bool a.isNone) w := fun w a n c n' c' => Lib.run_eql_slice_nil w _ _ a n c n' c' h0
  go_enter hf, hn
  go_wp2
  go_ret
  exact ⟨rfl, rfl⟩
theorem some_slices_Clone_Row (w : World) (ad : Addr) (n c : Nat) {v' : Value} {w' : World} (hr : (Builtin.append_ #[22, 22] 22 #[.slice (some ⟨w.heap.size, 0, none⟩) 0 0, .slice (some ad) n c]).run Try.prog (w.alloc (.cells #[] 29)) = .ok v' w') :
    Calls Try.prog 71 #[.slice (some ad) n c] w fun e w'' => e = .returned v' ∧ w'' = w' := by
  have h0 : Try.prog.underlying 22 = some (.slice 29) := by kernel_rfl
  have hf : Try.prog.funcs[71]? = some Try.f71 := by kernel_rfl
  have hn : Try.f71.ntmps = 8 := by kernel_rfl
  have q : ∀ (w : World) (a : Option Addr) (n c n' c' : Nat), (binOp .eql 22 (.slice a n c) (.slice none n' c')).run Try.prog w = .ok (.bool a.isNone) w := fun w a n c n' c' => Lib.run_eql_slice_nil w _ _ a n c n' c' h0
  have u : ∀ w, Sem.run Try.prog (underlying 22) w = .ok (TypeDesc.slice 29) w := run_underlying h0
  go_enter hf, hn
  go_wp2_with (at_builtin; refine Go.AM.wpList_append_run _ rfl _ _ 22 22 rfl _ _ rfl rfl hr ?_)
  go_wp2
  go_ret
  exact ⟨rfl, rfl⟩
theorem sig_slices_Clone_Row : SigOK Try.prog n_slices_Clone_Row ⟨.own, false, [1], 4, fun l => match l with | [[x0]] => slices_Clone_Row_s x0 | _ => none⟩ :=
  own_of_clone (t := 22) (e := 29) (by kernel_rfl) (by kernel_rfl) (by kernel_rfl) (by kernel_rfl) nil_slices_Clone_Row fun w ad n c v' w' h => some_slices_Clone_Row w ad n c h

theorem nil_slices_Clone_Step (w : World) (n c : Nat) : Calls Try.prog 75 #[.slice none n c] w fun e w' => e = .returned (.slice none 0 0) ∧ w' = w := by
  have h0 : Try.prog.underlying 34 = some (.slice 31) := by kernel_rfl
  have hf : Try.prog.funcs[75]? = some Try.f75 := by kernel_rfl
  have hn : Try.f75.ntmps = 8 := by kernel_rfl
  have q : ∀ (w : World) (a : Option Addr) (n c n' c' : Nat), (binOp .eql 34 (.slice a n c) (.slice none n' c')).run Try.prog w = .ok (.bool a.isNone) w := fun w a n c n' c' => Lib.run_eql_slice_nil w _ _ a n c n' c' h0
  go_enter hf, hn
  go_wp2
  go_ret
  exact ⟨rfl, rfl⟩
theorem some_slices_Clone_Step (w : World) (ad : Addr) (n c : Nat) {v' : Value} {w' : World} (hr : (Builtin.append_ #[34, 34] 34 #[.slice (some ⟨w.heap.size, 0, none⟩) 0 0, .slice (some ad) n c]).run Try.prog (w.alloc (.cells #[] 31)) = .ok v' w') :
    Calls Try.prog 75 #[.slice (some ad) n c] w fun e w'' => e = .returned v' ∧ w'' = w' := by
  have h0 : Try.prog.underlying 34 = some (.slice 31) := by kernel_rfl
  have hf : Try.prog.funcs[75]? = some Try.f75 := by kernel_rfl
  have hn : Try.f75.ntmps = 8 := by kernel_rfl
  have q : ∀ (w : World) (a : Option Addr) (n c n' c' : Nat), (binOp .eql 34 (.slice a n c) (.slice none n' c')).run Try.prog w = .ok (.bool a.isNone) w := fun w a n c n' c' => Lib.run_eql_slice_nil w _ _ a n c n' c' h0
  have u : ∀ w, Sem.run Try.prog (underlying 34) w = .ok (TypeDesc.slice 31) w := run_underlying h0
  go_enter hf, hn
  go_wp2_with (at_builtin; refine Go.AM.wpList_append_run _ rfl _ _ 34 34 rfl _ _ rfl rfl hr ?_)
  go_wp2
  go_ret
  exact ⟨rfl, rfl⟩
theorem sig_slices_Clone_Step : SigOK Try.prog n_slices_Clone_Step ⟨.own, false, [1], 12, fun l => match l with | [[x0]] => slices_Clone_Step_s x0 | _ => none⟩ :=
  own_of_clone (t := 34) (e := 31) (by kernel_rfl) (by kernel_rfl) (by kernel_rfl) (by kernel_rfl) nil_slices_Clone_Step fun w ad n c v' w' h => some_slices_Clone_Step w ad n c h

theorem walks_slices_Insert_Row : InsertWalks Try.prog 85 22 3 4 4 where
  empty := by
    intro w A A' n c i c' hi hn
    have h0 : Try.prog.underlying 22 = some (.slice 29) := by kernel_rfl
    have hz : Try.prog.cellsOf 29 = 4 := by kernel_rfl
    have hf : Try.prog.funcs[85]? = some Try.f85 := by kernel_rfl
    have hnt : Try.f85.ntmps = 95 := by kernel_rfl
    have u22 : ∀ w, Sem.run Try.prog (underlying 22) w = .ok (TypeDesc.slice 29) w := run_underlying h0
    have u3 : ∀ w, Sem.run Try.prog (underlying 3) w = .ok (TypeDesc.int .i64) w := run_underlying (by kernel_rfl)
    have hb1 : (0 : Int) ≤ i := by omega
    have hb2 : (i : Int) ≤ n := by omega
    go_enter hf, hnt
    go_wp2
    all_goals (go_ret; exact ⟨rfl, rfl⟩)
  last := by
    intro w A A' n c m c' hn hm v' w' hr
    have h0 : Try.prog.underlying 22 = some (.slice 29) := by kernel_rfl
    have hz : Try.prog.cellsOf 29 = 4 := by kernel_rfl
    have hf : Try.prog.funcs[85]? = some Try.f85 := by kernel_rfl
    have hnt : Try.f85.ntmps = 95 := by kernel_rfl
    have u22 : ∀ w, Sem.run Try.prog (underlying 22) w = .ok (TypeDesc.slice 29) w := run_underlying h0
    have u3 : ∀ w, Sem.run Try.prog (underlying 3) w = .ok (TypeDesc.int .i64) w := run_underlying (by kernel_rfl)
    have hb1 : (0 : Int) ≤ n := by omega
    have hz1 : ¬ ((m : Int) = 0) := by omega
    go_enter hf, hnt
    go_wp2_with (at_builtin; refine Go.AM.wpList_append_run _ rfl _ _ 22 22 rfl _ _ rfl rfl hr ?_)
    all_goals (go_ret; exact ⟨rfl, rfl⟩)
  grow := by
    intro w b off n c i m c' A' hi hnc hm hroom hbig w3 b2 c2 w1 w2 hr hc2 hr2 hr3
    have h0 : Try.prog.underlying 22 = some (.slice 29) := by kernel_rfl
    have hz : Try.prog.cellsOf 29 = 4 := by kernel_rfl
    have hf : Try.prog.funcs[85]? = some Try.f85 := by kernel_rfl
    have hnt : Try.f85.ntmps = 95 := by kernel_rfl
    have u22 : ∀ w, Sem.run Try.prog (underlying 22) w = .ok (TypeDesc.slice 29) w := run_underlying h0
    have u3 : ∀ w, Sem.run Try.prog (underlying 3) w = .ok (TypeDesc.int .i64) w := run_underlying (by kernel_rfl)
    have hz1 : ¬ ((m : Int) = 0) := by omega
    have hz2 : ¬ ((i : Int) = (n : Int)) := by omega
    have hz3 : (c : Int) < (n : Int) + (m : Int) := by omega
    have hin : i ≤ n := by omega
    go_enter hf, hnt
    simp only [Nat.zero_add] at hr2 hr3
    go_wp2_with (at_builtin; first | refine Go.AM.wpList_append_run _ rfl _ _ 22 3 rfl _ _ rfl rfl hr ?_ | refine wpList_copy_runI _ rfl _ _ 22 22 rfl _ _ rfl rfl hr2 ?_)
    have mixed : Try.prog.follows .mixedOrders = true := by kernel_rfl
    have hw1 : IntKind.i64.wrap ((i : Int) + (m : Int)) = (i : Int) + (m : Int) := by rw [IntKind.wrap_i64]; omega
    have hb1 : (0 : Int) ≤ (i : Int) + (m : Int) := by omega
    have htn : ((i : Int) + (m : Int)).toNat = i + m := by omega
    have hb2 : ¬ (c2 = i + m) := by omega
    have hb4 : ¬ (c = i) := by omega
    go_region_law_o (refine step_copy_runI rfl _ _ 22 22 rfl _ _ (by simp [Act.eval, Act.put]) (by simp [Act.eval, Act.put]) hr3 ?_)
    go_wp2
    all_goals (go_ret; exact ⟨rfl, rfl⟩)
  shift := by
    intro w b off n c i m c' A' hi hnc hm hroom hbig w2 w3 hov0 hr2 hr3
    have h0 : Try.prog.underlying 22 = some (.slice 29) := by kernel_rfl
    have hz : Try.prog.cellsOf 29 = 4 := by kernel_rfl
    have hf : Try.prog.funcs[85]? = some Try.f85 := by kernel_rfl
    have hnt : Try.f85.ntmps = 95 := by kernel_rfl
    have u22 : ∀ w, Sem.run Try.prog (underlying 22) w = .ok (TypeDesc.slice 29) w := run_underlying h0
    have u3 : ∀ w, Sem.run Try.prog (underlying 3) w = .ok (TypeDesc.int .i64) w := run_underlying (by kernel_rfl)
    have hov : ∀ lb cb, (callFunc 103 #[.slice A' m c', .slice (some ⟨b, off + (i + m) * 4, none⟩) lb cb]).run Try.prog w = .ok (.value (.bool false)) w := fun lb cb => by
      rw [run_callFunc_extern (fn := Try.f103) (by kernel_rfl) (by kernel_rfl) (by kernel_rfl) (by kernel_rfl) (e := Extern.SlicesOverlaps.overlaps #[22, 22] #[4]) (by kernel_rfl), hov0 lb cb]
      rfl
    have hz1 : ¬ ((m : Int) = 0) := by omega
    have hz2 : ¬ ((i : Int) = (n : Int)) := by omega
    have hin : i ≤ n := by omega
    have mixed : Try.prog.follows .mixedOrders = true := by kernel_rfl
    have hw1 : IntKind.i64.wrap ((i : Int) + (m : Int)) = (i : Int) + (m : Int) := by rw [IntKind.wrap_i64]; omega
    have hb1 : (0 : Int) ≤ (i : Int) + (m : Int) := by omega
    have htn : ((i : Int) + (m : Int)).toNat = i + m := by omega
    have hb2 : ¬ (c = i + m) := by omega
    have hb3 : (i : Int) ≤ (n : Int) + (m : Int) := by omega
    have hb4 : ¬ (c = i) := by omega
    go_enter hf, hnt
    go_wp2_with (simp only [hov])
    go_region_law_o (refine step_copy_runI rfl _ _ 22 22 rfl _ _ (by simp [Act.eval, Act.put]) (by simp [Act.eval, Act.put]) hr2 ?_)
    go_wp2_with (at_builtin; refine wpList_copy_runI _ rfl _ _ 22 22 rfl _ _ rfl rfl hr3 ?_)
    all_goals (go_ret; exact ⟨rfl, rfl⟩)
theorem sig_slices_Insert_Row : SigOK Try.prog n_slices_Insert_Row ⟨.cons, false, [1], 4, fun l => match l with | [[x0], [x1], [x2]] => slices_Insert_Row_s x0 x1 x2 | _ => none⟩ :=
  cons_of_insert (e := 29) (by kernel_rfl) (by kernel_rfl) (by kernel_rfl) (by kernel_rfl) (by kernel_rfl) walks_slices_Insert_Row

set_option maxHeartbeats 2000000 in
theorem walks_slices_Delete_Row : DeleteWalks Try.prog 86 22 4 where
  same := by
    intro w A n c i hi hn
    have h0 : Try.prog.underlying 22 = some (.slice 29) := by kernel_rfl
    have hz : Try.prog.cellsOf 29 = 4 := by kernel_rfl
    have hf : Try.prog.funcs[86]? = some Try.f86 := by kernel_rfl
    have hnt : Try.f86.ntmps = 33 := by kernel_rfl
    have hic : i ≤ c := by omega
    go_enter hf, hnt
    go_wp2
    all_goals (go_ret; exact ⟨rfl, rfl⟩)
  cut := by
    intro w b off n c i j hij hj hnc hbig w1 w2 hr hcl
    have h0 : Try.prog.underlying 22 = some (.slice 29) := by kernel_rfl
    have hz : Try.prog.cellsOf 29 = 4 := by kernel_rfl
    have hf : Try.prog.funcs[86]? = some Try.f86 := by kernel_rfl
    have hnt : Try.f86.ntmps = 33 := by kernel_rfl
    have mixed : Try.prog.follows .mixedOrders = true := by kernel_rfl
    have hic : i ≤ c := by omega
    have hjc : j ≤ c := by omega
    have hne : ¬ ((i : Int) = (j : Int)) := by omega
    have hij2 : i ≤ j := by omega
    go_enter hf, hnt
    go_wp2_with fail
    have hlt : i + (n - j) ≤ n := by omega
    have hltc : i + (n - j) ≤ c := by omega
    go_region_law_o (refine step_append_runI rfl _ _ 22 22 rfl _ _ (by simp [Act.eval, Act.put]) (by simp [Act.eval, Act.put]) hr ?_)
    go_wp2
    all_goals (go_ret; exact ⟨rfl, rfl⟩)
theorem sig_slices_Delete_Row : SigOK Try.prog n_slices_Delete_Row ⟨.cons, false, [1], 4, fun l => match l with | [[x0], [x1], [x2]] => slices_Delete_Row_s x0 x1 x2 | _ => none⟩ :=
  cons_of_delete (e := 29) (by kernel_rfl) (by kernel_rfl) (by kernel_rfl) (by kernel_rfl) walks_slices_Delete_Row

theorem walks_slices_Insert_Move : InsertWalks Try.prog 99 42 3 4 6 where
  empty := by
    intro w A A' n c i c' hi hn
    have h0 : Try.prog.underlying 42 = some (.slice 27) := by kernel_rfl
    have hz : Try.prog.cellsOf 27 = 6 := by kernel_rfl
    have hf : Try.prog.funcs[99]? = some Try.f99 := by kernel_rfl
    have hnt : Try.f99.ntmps = 95 := by kernel_rfl
    have u22 : ∀ w, Sem.run Try.prog (underlying 42) w = .ok (TypeDesc.slice 27) w := run_underlying h0
    have u3 : ∀ w, Sem.run Try.prog (underlying 3) w = .ok (TypeDesc.int .i64) w := run_underlying (by kernel_rfl)
    have hb1 : (0 : Int) ≤ i := by omega
    have hb2 : (i : Int) ≤ n := by omega
    go_enter hf, hnt
    go_wp2
    all_goals (go_ret; exact ⟨rfl, rfl⟩)
  last := by
    intro w A A' n c m c' hn hm v' w' hr
    have h0 : Try.prog.underlying 42 = some (.slice 27) := by kernel_rfl
    have hz : Try.prog.cellsOf 27 = 6 := by kernel_rfl
    have hf : Try.prog.funcs[99]? = some Try.f99 := by kernel_rfl
    have hnt : Try.f99.ntmps = 95 := by kernel_rfl
    have u22 : ∀ w, Sem.run Try.prog (underlying 42) w = .ok (TypeDesc.slice 27) w := run_underlying h0
    have u3 : ∀ w, Sem.run Try.prog (underlying 3) w = .ok (TypeDesc.int .i64) w := run_underlying (by kernel_rfl)
    have hb1 : (0 : Int) ≤ n := by omega
    have hz1 : ¬ ((m : Int) = 0) := by omega
    go_enter hf, hnt
    go_wp2_with (at_builtin; refine Go.AM.wpList_append_run _ rfl _ _ 42 42 rfl _ _ rfl rfl hr ?_)
    all_goals (go_ret; exact ⟨rfl, rfl⟩)
  grow := by
    intro w b off n c i m c' A' hi hnc hm hroom hbig w3 b2 c2 w1 w2 hr hc2 hr2 hr3
    have h0 : Try.prog.underlying 42 = some (.slice 27) := by kernel_rfl
    have hz : Try.prog.cellsOf 27 = 6 := by kernel_rfl
    have hf : Try.prog.funcs[99]? = some Try.f99 := by kernel_rfl
    have hnt : Try.f99.ntmps = 95 := by kernel_rfl
    have u22 : ∀ w, Sem.run Try.prog (underlying 42) w = .ok (TypeDesc.slice 27) w := run_underlying h0
    have u3 : ∀ w, Sem.run Try.prog (underlying 3) w = .ok (TypeDesc.int .i64) w := run_underlying (by kernel_rfl)
    have hz1 : ¬ ((m : Int) = 0) := by omega
    have hz2 : ¬ ((i : Int) = (n : Int)) := by omega
    have hz3 : (c : Int) < (n : Int) + (m : Int) := by omega
    have hin : i ≤ n := by omega
    go_enter hf, hnt
    simp only [Nat.zero_add] at hr2 hr3
    go_wp2_with (at_builtin; first | refine Go.AM.wpList_append_run _ rfl _ _ 42 3 rfl _ _ rfl rfl hr ?_ | refine wpList_copy_runI _ rfl _ _ 42 42 rfl _ _ rfl rfl hr2 ?_)
    have mixed : Try.prog.follows .mixedOrders = true := by kernel_rfl
    have hw1 : IntKind.i64.wrap ((i : Int) + (m : Int)) = (i : Int) + (m : Int) := by rw [IntKind.wrap_i64]; omega
    have hb1 : (0 : Int) ≤ (i : Int) + (m : Int) := by omega
    have htn : ((i : Int) + (m : Int)).toNat = i + m := by omega
    have hb2 : ¬ (c2 = i + m) := by omega
    have hb4 : ¬ (c = i) := by omega
    go_region_law_o (refine step_copy_runI rfl _ _ 42 42 rfl _ _ (by simp [Act.eval, Act.put]) (by simp [Act.eval, Act.put]) hr3 ?_)
    go_wp2
    all_goals (go_ret; exact ⟨rfl, rfl⟩)
  shift := by
    intro w b off n c i m c' A' hi hnc hm hroom hbig w2 w3 hov0 hr2 hr3
    have h0 : Try.prog.underlying 42 = some (.slice 27) := by kernel_rfl
    have hz : Try.prog.cellsOf 27 = 6 := by kernel_rfl
    have hf : Try.prog.funcs[99]? = some Try.f99 := by kernel_rfl
    have hnt : Try.f99.ntmps = 95 := by kernel_rfl
    have u22 : ∀ w, Sem.run Try.prog (underlying 42) w = .ok (TypeDesc.slice 27) w := run_underlying h0
    have u3 : ∀ w, Sem.run Try.prog (underlying 3) w = .ok (TypeDesc.int .i64) w := run_underlying (by kernel_rfl)
    have hov : ∀ lb cb, (callFunc 111 #[.slice A' m c', .slice (some ⟨b, off + (i + m) * 6, none⟩) lb cb]).run Try.prog w = .ok (.value (.bool false)) w := fun lb cb => by
      rw [run_callFunc_extern (fn := Try.f111) (by kernel_rfl) (by kernel_rfl) (by kernel_rfl) (by kernel_rfl) (e := Extern.SlicesOverlaps.overlaps #[42, 42] #[4]) (by kernel_rfl), hov0 lb cb]
      rfl
    have hz1 : ¬ ((m : Int) = 0) := by omega
    have hz2 : ¬ ((i : Int) = (n : Int)) := by omega
    have hin : i ≤ n := by omega
    have mixed : Try.prog.follows .mixedOrders = true := by kernel_rfl
    have hw1 : IntKind.i64.wrap ((i : Int) + (m : Int)) = (i : Int) + (m : Int) := by rw [IntKind.wrap_i64]; omega
    have hb1 : (0 : Int) ≤ (i : Int) + (m : Int) := by omega
    have htn : ((i : Int) + (m : Int)).toNat = i + m := by omega
    have hb2 : ¬ (c = i + m) := by omega
    have hb3 : (i : Int) ≤ (n : Int) + (m : Int) := by omega
    have hb4 : ¬ (c = i) := by omega
    go_enter hf, hnt
    go_wp2_with (simp only [hov])
    go_region_law_o (refine step_copy_runI rfl _ _ 42 42 rfl _ _ (by simp [Act.eval, Act.put]) (by simp [Act.eval, Act.put]) hr2 ?_)
    go_wp2_with (at_builtin; refine wpList_copy_runI _ rfl _ _ 42 42 rfl _ _ rfl rfl hr3 ?_)
    all_goals (go_ret; exact ⟨rfl, rfl⟩)
theorem sig_slices_Insert_Move : SigOK Try.prog n_slices_Insert_Move ⟨.cons, false, [1], 6, fun l => match l with | [[x0], [x1], [x2]] => slices_Insert_Move_s x0 x1 x2 | _ => none⟩ :=
  cons_of_insert (e := 27) (by kernel_rfl) (by kernel_rfl) (by kernel_rfl) (by kernel_rfl) (by kernel_rfl) walks_slices_Insert_Move

theorem nil_slices_Clone_Move (w : World) (n c : Nat) : Calls Try.prog 100 #[.slice none n c] w fun e w' => e = .returned (.slice none 0 0) ∧ w' = w := by
  have h0 : Try.prog.underlying 42 = some (.slice 27) := by kernel_rfl
  have hf : Try.prog.funcs[100]? = some Try.f100 := by kernel_rfl
  have hn : Try.f100.ntmps = 8 := by kernel_rfl
  have q : ∀ (w : World) (a : Option Addr) (n c n' c' : Nat), (binOp .eql 42 (.slice a n c) (.slice none n' c')).run Try.prog w = .ok (.bool a.isNone) w := fun w a n c n' c' => Lib.run_eql_slice_nil w _ _ a n c n' c' h0
  go_enter hf, hn
  go_wp2
  go_ret
  exact ⟨rfl, rfl⟩
theorem some_slices_Clone_Move (w : World) (ad : Addr) (n c : Nat) {v' : Value} {w' : World} (hr : (Builtin.append_ #[42, 42] 42 #[.slice (some ⟨w.heap.size, 0, none⟩) 0 0, .slice (some ad) n c]).run Try.prog (w.alloc (.cells #[] 27)) = .ok v' w') :
    Calls Try.prog 100 #[.slice (some ad) n c] w fun e w'' => e = .returned v' ∧ w'' = w' := by
  have h0 : Try.prog.underlying 42 = some (.slice 27) := by kernel_rfl
  have hf : Try.prog.funcs[100]? = some Try.f100 := by kernel_rfl
  have hn : Try.f100.ntmps = 8 := by kernel_rfl
  have q : ∀ (w : World) (a : Option Addr) (n c n' c' : Nat), (binOp .eql 42 (.slice a n c) (.slice none n' c')).run Try.prog w = .ok (.bool a.isNone) w := fun w a n c n' c' => Lib.run_eql_slice_nil w _ _ a n c n' c' h0
  have u : ∀ w, Sem.run Try.prog (underlying 42) w = .ok (TypeDesc.slice 27) w := run_underlying h0
  go_enter hf, hn
  go_wp2_with (at_builtin; refine Go.AM.wpList_append_run _ rfl _ _ 42 42 rfl _ _ rfl rfl hr ?_)
  go_wp2
  go_ret
  exact ⟨rfl, rfl⟩
theorem sig_slices_Clone_Move : SigOK Try.prog n_slices_Clone_Move ⟨.own, false, [1], 6, fun l => match l with | [[x0]] => slices_Clone_Move_s x0 | _ => none⟩ :=
  own_of_clone (t := 42) (e := 27) (by kernel_rfl) (by kernel_rfl) (by kernel_rfl) (by kernel_rfl) nil_slices_Clone_Move fun w ad n c v' w' h => some_slices_Clone_Move w ad n c h

end Go.AM

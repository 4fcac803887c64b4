/- Walks of the library’s slices.Clone and slices.Insert, and their contracts. -/
import Derived.Test.YtjgbgmedbfhgdaaGreatAc
import Derived.Test.YtjgbgmedbfhgdaaGreatAe
import Derived.Test.YtjgbgmedbfhgdaaGreatSh
import Derived.Test.YtjgbgmedbfhgdaaGreatProg
import Derived.WalkKit
import Derived.Deep.LoopGhost
import Derived.Lib.Walk
import Derived.Lib.SliceRun
import Derived.Shelf.Spec.SlicesInsert
set_option linter.unusedVariables false
set_option linter.unusedSimpArgs false
set_option maxRecDepth 100000
namespace Go.AM
open Go.Proofs Go.RowKit Go.Lib
theorem walks_slices_Insert_Move : InsertWalks Tryz.prog 83 25 3 4 6 where
  empty := by
    intro w A A' n c i c' hi hn
    have h0 : Tryz.prog.underlying 25 = some (.slice 31) := by kernel_rfl
    have hz : Tryz.prog.cellsOf 31 = 6 := by kernel_rfl
    have hf : Tryz.prog.funcs[83]? = some Tryz.f83 := by kernel_rfl
    have hnt : Tryz.f83.ntmps = 95 := by kernel_rfl
    have u22 : ∀ w, Sem.run Tryz.prog (underlying 25) w = .ok (TypeDesc.slice 31) w := run_underlying h0
    have u3 : ∀ w, Sem.run Tryz.prog (underlying 3) w = .ok (TypeDesc.int .i64) w := run_underlying (by kernel_rfl)
    have hb1 : (0 : Int) ≤ i := by omega
    have hb2 : (i : Int) ≤ n := by omega
    go_enter hf, hnt
    go_wp2
    all_goals (go_ret; exact ⟨rfl, rfl⟩)
  last := by
    intro w A A' n c m c' hn hm v' w' hr
    have h0 : Tryz.prog.underlying 25 = some (.slice 31) := by kernel_rfl
    have hz : Tryz.prog.cellsOf 31 = 6 := by kernel_rfl
    have hf : Tryz.prog.funcs[83]? = some Tryz.f83 := by kernel_rfl
    have hnt : Tryz.f83.ntmps = 95 := by kernel_rfl
    have u22 : ∀ w, Sem.run Tryz.prog (underlying 25) w = .ok (TypeDesc.slice 31) w := run_underlying h0
    have u3 : ∀ w, Sem.run Tryz.prog (underlying 3) w = .ok (TypeDesc.int .i64) w := run_underlying (by kernel_rfl)
    have hb1 : (0 : Int) ≤ n := by omega
    have hz1 : ¬ ((m : Int) = 0) := by omega
    go_enter hf, hnt
    go_wp2_with (at_builtin; refine Go.AM.wpList_append_run _ rfl _ _ 25 25 rfl _ _ rfl rfl hr ?_)
    all_goals (go_ret; exact ⟨rfl, rfl⟩)
  grow := by
    intro w b off n c i m c' A' hi hnc hm hroom hbig w3 b2 c2 w1 w2 hr hc2 hr2 hr3
    have h0 : Tryz.prog.underlying 25 = some (.slice 31) := by kernel_rfl
    have hz : Tryz.prog.cellsOf 31 = 6 := by kernel_rfl
    have hf : Tryz.prog.funcs[83]? = some Tryz.f83 := by kernel_rfl
    have hnt : Tryz.f83.ntmps = 95 := by kernel_rfl
    have u22 : ∀ w, Sem.run Tryz.prog (underlying 25) w = .ok (TypeDesc.slice 31) w := run_underlying h0
    have u3 : ∀ w, Sem.run Tryz.prog (underlying 3) w = .ok (TypeDesc.int .i64) w := run_underlying (by kernel_rfl)
    have hz1 : ¬ ((m : Int) = 0) := by omega
    have hz2 : ¬ ((i : Int) = (n : Int)) := by omega
    have hz3 : (c : Int) < (n : Int) + (m : Int) := by omega
    have hin : i ≤ n := by omega
    go_enter hf, hnt
    simp only [Nat.zero_add] at hr2 hr3
    go_wp2_with (at_builtin; first | refine Go.AM.wpList_append_run _ rfl _ _ 25 3 rfl _ _ rfl rfl hr ?_ | refine wpList_copy_runI _ rfl _ _ 25 25 rfl _ _ rfl rfl hr2 ?_)
    have mixed : Tryz.prog.follows .mixedOrders = true := by kernel_rfl
    have hw1 : IntKind.i64.wrap ((i : Int) + (m : Int)) = (i : Int) + (m : Int) := by rw [IntKind.wrap_i64]; omega
    have hb1 : (0 : Int) ≤ (i : Int) + (m : Int) := by omega
    have htn : ((i : Int) + (m : Int)).toNat = i + m := by omega
    have hb2 : ¬ (c2 = i + m) := by omega
    have hb4 : ¬ (c = i) := by omega
    go_region_law_o (refine step_copy_runI rfl _ _ 25 25 rfl _ _ (by simp [Act.eval, Act.put]) (by simp [Act.eval, Act.put]) hr3 ?_)
    go_wp2
    all_goals (go_ret; exact ⟨rfl, rfl⟩)
  shift := by
    intro w b off n c i m c' A' hi hnc hm hroom hbig w2 w3 hov0 hr2 hr3
    have h0 : Tryz.prog.underlying 25 = some (.slice 31) := by kernel_rfl
    have hz : Tryz.prog.cellsOf 31 = 6 := by kernel_rfl
    have hf : Tryz.prog.funcs[83]? = some Tryz.f83 := by kernel_rfl
    have hnt : Tryz.f83.ntmps = 95 := by kernel_rfl
    have u22 : ∀ w, Sem.run Tryz.prog (underlying 25) w = .ok (TypeDesc.slice 31) w := run_underlying h0
    have u3 : ∀ w, Sem.run Tryz.prog (underlying 3) w = .ok (TypeDesc.int .i64) w := run_underlying (by kernel_rfl)
    have hov : ∀ lb cb, (callFunc 107 #[.slice A' m c', .slice (some ⟨b, off + (i + m) * 6, none⟩) lb cb]).run Tryz.prog w = .ok (.value (.bool false)) w := fun lb cb => by
      rw [run_callFunc_extern (fn := Tryz.f107) (by kernel_rfl) (by kernel_rfl) (by kernel_rfl) (by kernel_rfl) (e := Extern.SlicesOverlaps.overlaps #[25, 25] #[4]) (by kernel_rfl), hov0 lb cb]
      rfl
    have hz1 : ¬ ((m : Int) = 0) := by omega
    have hz2 : ¬ ((i : Int) = (n : Int)) := by omega
    have hin : i ≤ n := by omega
    have mixed : Tryz.prog.follows .mixedOrders = true := by kernel_rfl
    have hw1 : IntKind.i64.wrap ((i : Int) + (m : Int)) = (i : Int) + (m : Int) := by rw [IntKind.wrap_i64]; omega
    have hb1 : (0 : Int) ≤ (i : Int) + (m : Int) := by omega
    have htn : ((i : Int) + (m : Int)).toNat = i + m := by omega
    have hb2 : ¬ (c = i + m) := by omega
    have hb3 : (i : Int) ≤ (n : Int) + (m : Int) := by omega
    have hb4 : ¬ (c = i) := by omega
    go_enter hf, hnt
    go_wp2_with (simp only [hov])
    go_region_law_o (refine step_copy_runI rfl _ _ 25 25 rfl _ _ (by simp [Act.eval, Act.put]) (by simp [Act.eval, Act.put]) hr2 ?_)
    go_wp2_with (at_builtin; refine wpList_copy_runI _ rfl _ _ 25 25 rfl _ _ rfl rfl hr3 ?_)
    all_goals (go_ret; exact ⟨rfl, rfl⟩)
theorem sig_slices_Insert_Move : SigOK Tryz.prog n_slices_Insert_Move ⟨.cons, false, [1], 6, fun l => match l with | [[x0], [x1], [x2]] => slices_Insert_Move_s x0 x1 x2 | _ => none⟩ :=
  cons_of_insert (e := 31) (by kernel_rfl) (by kernel_rfl) (by kernel_rfl) (by kernel_rfl) (by kernel_rfl) walks_slices_Insert_Move

theorem nil_slices_Clone_Move (w : World) (n c : Nat) : Calls Tryz.prog 84 #[.slice none n c] w fun e w' => e = .returned (.slice none 0 0) ∧ w' = w := by
  have h0 : Tryz.prog.underlying 25 = some (.slice 31) := by kernel_rfl
  have hf : Tryz.prog.funcs[84]? = some Tryz.f84 := by kernel_rfl
  have hn : Tryz.f84.ntmps = 8 := by kernel_rfl
  have q : ∀ (w : World) (a : Option Addr) (n c n' c' : Nat), (binOp .eql 25 (.slice a n c) (.slice none n' c')).run Tryz.prog w = .ok (.bool a.isNone) w := fun w a n c n' c' => Lib.run_eql_slice_nil w _ _ a n c n' c' h0
  go_enter hf, hn
  go_wp2
  go_ret
  exact ⟨rfl, rfl⟩
theorem some_slices_Clone_Move (w : World) (ad : Addr) (n c : Nat) {v' : Value} {w' : World} (hr : (Builtin.append_ #[25, 25] 25 #[.slice (some ⟨w.heap.size, 0, none⟩) 0 0, .slice (some ad) n c]).run Tryz.prog (w.alloc (.cells #[] 31)) = .ok v' w') :
    Calls Tryz.prog 84 #[.slice (some ad) n c] w fun e w'' => e = .returned v' ∧ w'' = w' := by
  have h0 : Tryz.prog.underlying 25 = some (.slice 31) := by kernel_rfl
  have hf : Tryz.prog.funcs[84]? = some Tryz.f84 := by kernel_rfl
  have hn : Tryz.f84.ntmps = 8 := by kernel_rfl
  have q : ∀ (w : World) (a : Option Addr) (n c n' c' : Nat), (binOp .eql 25 (.slice a n c) (.slice none n' c')).run Tryz.prog w = .ok (.bool a.isNone) w := fun w a n c n' c' => Lib.run_eql_slice_nil w _ _ a n c n' c' h0
  have u : ∀ w, Sem.run Tryz.prog (underlying 25) w = .ok (TypeDesc.slice 31) w := run_underlying h0
  go_enter hf, hn
  go_wp2_with (at_builtin; refine Go.AM.wpList_append_run _ rfl _ _ 25 25 rfl _ _ rfl rfl hr ?_)
  go_wp2
  go_ret
  exact ⟨rfl, rfl⟩
theorem sig_slices_Clone_Move : SigOK Tryz.prog n_slices_Clone_Move ⟨.own, false, [1], 6, fun l => match l with | [[x0]] => slices_Clone_Move_s x0 | _ => none⟩ :=
  own_of_clone (t := 25) (e := 31) (by kernel_rfl) (by kernel_rfl) (by kernel_rfl) (by kernel_rfl) nil_slices_Clone_Move fun w ad n c v' w' h => some_slices_Clone_Move w ad n c h

theorem nil_slices_Clone_Mark (w : World) (n c : Nat) : Calls Tryz.prog 85 #[.slice none n c] w fun e w' => e = .returned (.slice none 0 0) ∧ w' = w := by
  have h0 : Tryz.prog.underlying 26 = some (.slice 60) := by kernel_rfl
  have hf : Tryz.prog.funcs[85]? = some Tryz.f85 := by kernel_rfl
  have hn : Tryz.f85.ntmps = 8 := by kernel_rfl
  have q : ∀ (w : World) (a : Option Addr) (n c n' c' : Nat), (binOp .eql 26 (.slice a n c) (.slice none n' c')).run Tryz.prog w = .ok (.bool a.isNone) w := fun w a n c n' c' => Lib.run_eql_slice_nil w _ _ a n c n' c' h0
  go_enter hf, hn
  go_wp2
  go_ret
  exact ⟨rfl, rfl⟩
theorem some_slices_Clone_Mark (w : World) (ad : Addr) (n c : Nat) {v' : Value} {w' : World} (hr : (Builtin.append_ #[26, 26] 26 #[.slice (some ⟨w.heap.size, 0, none⟩) 0 0, .slice (some ad) n c]).run Tryz.prog (w.alloc (.cells #[] 60)) = .ok v' w') :
    Calls Tryz.prog 85 #[.slice (some ad) n c] w fun e w'' => e = .returned v' ∧ w'' = w' := by
  have h0 : Tryz.prog.underlying 26 = some (.slice 60) := by kernel_rfl
  have hf : Tryz.prog.funcs[85]? = some Tryz.f85 := by kernel_rfl
  have hn : Tryz.f85.ntmps = 8 := by kernel_rfl
  have q : ∀ (w : World) (a : Option Addr) (n c n' c' : Nat), (binOp .eql 26 (.slice a n c) (.slice none n' c')).run Tryz.prog w = .ok (.bool a.isNone) w := fun w a n c n' c' => Lib.run_eql_slice_nil w _ _ a n c n' c' h0
  have u : ∀ w, Sem.run Tryz.prog (underlying 26) w = .ok (TypeDesc.slice 60) w := run_underlying h0
  go_enter hf, hn
  go_wp2_with (at_builtin; refine Go.AM.wpList_append_run _ rfl _ _ 26 26 rfl _ _ rfl rfl hr ?_)
  go_wp2
  go_ret
  exact ⟨rfl, rfl⟩
theorem sig_slices_Clone_Mark : SigOK Tryz.prog n_slices_Clone_Mark ⟨.own, false, [1], 2, fun l => match l with | [[x0]] => slices_Clone_Mark_s x0 | _ => none⟩ :=
  own_of_clone (t := 26) (e := 60) (by kernel_rfl) (by kernel_rfl) (by kernel_rfl) (by kernel_rfl) nil_slices_Clone_Mark fun w ad n c v' w' h => some_slices_Clone_Mark w ad n c h

theorem walks_slices_Insert_Mark : InsertWalks Tryz.prog 89 26 3 4 2 where
  empty := by
    intro w A A' n c i c' hi hn
    have h0 : Tryz.prog.underlying 26 = some (.slice 60) := by kernel_rfl
    have hz : Tryz.prog.cellsOf 60 = 2 := by kernel_rfl
    have hf : Tryz.prog.funcs[89]? = some Tryz.f89 := by kernel_rfl
    have hnt : Tryz.f89.ntmps = 95 := by kernel_rfl
    have u22 : ∀ w, Sem.run Tryz.prog (underlying 26) w = .ok (TypeDesc.slice 60) w := run_underlying h0
    have u3 : ∀ w, Sem.run Tryz.prog (underlying 3) w = .ok (TypeDesc.int .i64) w := run_underlying (by kernel_rfl)
    have hb1 : (0 : Int) ≤ i := by omega
    have hb2 : (i : Int) ≤ n := by omega
    go_enter hf, hnt
    go_wp2
    all_goals (go_ret; exact ⟨rfl, rfl⟩)
  last := by
    intro w A A' n c m c' hn hm v' w' hr
    have h0 : Tryz.prog.underlying 26 = some (.slice 60) := by kernel_rfl
    have hz : Tryz.prog.cellsOf 60 = 2 := by kernel_rfl
    have hf : Tryz.prog.funcs[89]? = some Tryz.f89 := by kernel_rfl
    have hnt : Tryz.f89.ntmps = 95 := by kernel_rfl
    have u22 : ∀ w, Sem.run Tryz.prog (underlying 26) w = .ok (TypeDesc.slice 60) w := run_underlying h0
    have u3 : ∀ w, Sem.run Tryz.prog (underlying 3) w = .ok (TypeDesc.int .i64) w := run_underlying (by kernel_rfl)
    have hb1 : (0 : Int) ≤ n := by omega
    have hz1 : ¬ ((m : Int) = 0) := by omega
    go_enter hf, hnt
    go_wp2_with (at_builtin; refine Go.AM.wpList_append_run _ rfl _ _ 26 26 rfl _ _ rfl rfl hr ?_)
    all_goals (go_ret; exact ⟨rfl, rfl⟩)
  grow := by
    intro w b off n c i m c' A' hi hnc hm hroom hbig w3 b2 c2 w1 w2 hr hc2 hr2 hr3
    have h0 : Tryz.prog.underlying 26 = some (.slice 60) := by kernel_rfl
    have hz : Tryz.prog.cellsOf 60 = 2 := by kernel_rfl
    have hf : Tryz.prog.funcs[89]? = some Tryz.f89 := by kernel_rfl
    have hnt : Tryz.f89.ntmps = 95 := by kernel_rfl
    have u22 : ∀ w, Sem.run Tryz.prog (underlying 26) w = .ok (TypeDesc.slice 60) w := run_underlying h0
    have u3 : ∀ w, Sem.run Tryz.prog (underlying 3) w = .ok (TypeDesc.int .i64) w := run_underlying (by kernel_rfl)
    have hz1 : ¬ ((m : Int) = 0) := by omega
    have hz2 : ¬ ((i : Int) = (n : Int)) := by omega
    have hz3 : (c : Int) < (n : Int) + (m : Int) := by omega
    have hin : i ≤ n := by omega
    go_enter hf, hnt
    simp only [Nat.zero_add] at hr2 hr3
    go_wp2_with (at_builtin; first | refine Go.AM.wpList_append_run _ rfl _ _ 26 3 rfl _ _ rfl rfl hr ?_ | refine wpList_copy_runI _ rfl _ _ 26 26 rfl _ _ rfl rfl hr2 ?_)
    have mixed : Tryz.prog.follows .mixedOrders = true := by kernel_rfl
    have hw1 : IntKind.i64.wrap ((i : Int) + (m : Int)) = (i : Int) + (m : Int) := by rw [IntKind.wrap_i64]; omega
    have hb1 : (0 : Int) ≤ (i : Int) + (m : Int) := by omega
    have htn : ((i : Int) + (m : Int)).toNat = i + m := by omega
    have hb2 : ¬ (c2 = i + m) := by omega
    have hb4 : ¬ (c = i) := by omega
    go_region_law_o (refine step_copy_runI rfl _ _ 26 26 rfl _ _ (by simp [Act.eval, Act.put]) (by simp [Act.eval, Act.put]) hr3 ?_)
    go_wp2
    all_goals (go_ret; exact ⟨rfl, rfl⟩)
  shift := by
    intro w b off n c i m c' A' hi hnc hm hroom hbig w2 w3 hov0 hr2 hr3
    have h0 : Tryz.prog.underlying 26 = some (.slice 60) := by kernel_rfl
    have hz : Tryz.prog.cellsOf 60 = 2 := by kernel_rfl
    have hf : Tryz.prog.funcs[89]? = some Tryz.f89 := by kernel_rfl
    have hnt : Tryz.f89.ntmps = 95 := by kernel_rfl
    have u22 : ∀ w, Sem.run Tryz.prog (underlying 26) w = .ok (TypeDesc.slice 60) w := run_underlying h0
    have u3 : ∀ w, Sem.run Tryz.prog (underlying 3) w = .ok (TypeDesc.int .i64) w := run_underlying (by kernel_rfl)
    have hov : ∀ lb cb, (callFunc 109 #[.slice A' m c', .slice (some ⟨b, off + (i + m) * 2, none⟩) lb cb]).run Tryz.prog w = .ok (.value (.bool false)) w := fun lb cb => by
      rw [run_callFunc_extern (fn := Tryz.f109) (by kernel_rfl) (by kernel_rfl) (by kernel_rfl) (by kernel_rfl) (e := Extern.SlicesOverlaps.overlaps #[26, 26] #[4]) (by kernel_rfl), hov0 lb cb]
      rfl
    have hz1 : ¬ ((m : Int) = 0) := by omega
    have hz2 : ¬ ((i : Int) = (n : Int)) := by omega
    have hin : i ≤ n := by omega
    have mixed : Tryz.prog.follows .mixedOrders = true := by kernel_rfl
    have hw1 : IntKind.i64.wrap ((i : Int) + (m : Int)) = (i : Int) + (m : Int) := by rw [IntKind.wrap_i64]; omega
    have hb1 : (0 : Int) ≤ (i : Int) + (m : Int) := by omega
    have htn : ((i : Int) + (m : Int)).toNat = i + m := by omega
    have hb2 : ¬ (c = i + m) := by omega
    have hb3 : (i : Int) ≤ (n : Int) + (m : Int) := by omega
    have hb4 : ¬ (c = i) := by omega
    go_enter hf, hnt
    go_wp2_with (simp only [hov])
    go_region_law_o (refine step_copy_runI rfl _ _ 26 26 rfl _ _ (by simp [Act.eval, Act.put]) (by simp [Act.eval, Act.put]) hr2 ?_)
    go_wp2_with (at_builtin; refine wpList_copy_runI _ rfl _ _ 26 26 rfl _ _ rfl rfl hr3 ?_)
    all_goals (go_ret; exact ⟨rfl, rfl⟩)
theorem sig_slices_Insert_Mark : SigOK Tryz.prog n_slices_Insert_Mark ⟨.cons, false, [1], 2, fun l => match l with | [[x0], [x1], [x2]] => slices_Insert_Mark_s x0 x1 x2 | _ => none⟩ :=
  cons_of_insert (e := 60) (by kernel_rfl) (by kernel_rfl) (by kernel_rfl) (by kernel_rfl) (by kernel_rfl) walks_slices_Insert_Mark

theorem nil_slices_Clone_Row (w : World) (n c : Nat) : Calls Tryz.prog 125 #[.slice none n c] w fun e w' => e = .returned (.slice none 0 0) ∧ w' = w := by
  have h0 : Tryz.prog.underlying 22 = some (.slice 62) := by kernel_rfl
  have hf : Tryz.prog.funcs[125]? = some Tryz.f125 := by kernel_rfl
  have hn : Tryz.f125.ntmps = 8 := by kernel_rfl
  have q : ∀ (w : World) (a : Option Addr) (n c n' c' : Nat), (binOp .eql 22 (.slice a n c) (.slice none n' c')).run Tryz.prog w = .ok (.bool a.isNone) w := fun w a n c n' c' => Lib.run_eql_slice_nil w _ _ a n c n' c' h0
  go_enter hf, hn
  go_wp2
  go_ret
  exact ⟨rfl, rfl⟩
theorem some_slices_Clone_Row (w : World) (ad : Addr) (n c : Nat) {v' : Value} {w' : World} (hr : (Builtin.append_ #[22, 22] 22 #[.slice (some ⟨w.heap.size, 0, none⟩) 0 0, .slice (some ad) n c]).run Tryz.prog (w.alloc (.cells #[] 62)) = .ok v' w') :
    Calls Tryz.prog 125 #[.slice (some ad) n c] w fun e w'' => e = .returned v' ∧ w'' = w' := by
  have h0 : Tryz.prog.underlying 22 = some (.slice 62) := by kernel_rfl
  have hf : Tryz.prog.funcs[125]? = some Tryz.f125 := by kernel_rfl
  have hn : Tryz.f125.ntmps = 8 := by kernel_rfl
  have q : ∀ (w : World) (a : Option Addr) (n c n' c' : Nat), (binOp .eql 22 (.slice a n c) (.slice none n' c')).run Tryz.prog w = .ok (.bool a.isNone) w := fun w a n c n' c' => Lib.run_eql_slice_nil w _ _ a n c n' c' h0
  have u : ∀ w, Sem.run Tryz.prog (underlying 22) w = .ok (TypeDesc.slice 62) w := run_underlying h0
  go_enter hf, hn
  go_wp2_with (at_builtin; refine Go.AM.wpList_append_run _ rfl _ _ 22 22 rfl _ _ rfl rfl hr ?_)
  go_wp2
  go_ret
  exact ⟨rfl, rfl⟩
theorem sig_slices_Clone_Row : SigOK Tryz.prog n_slices_Clone_Row ⟨.own, false, [1], 4, fun l => match l with | [[x0]] => slices_Clone_Row_s x0 | _ => none⟩ :=
  own_of_clone (t := 22) (e := 62) (by kernel_rfl) (by kernel_rfl) (by kernel_rfl) (by kernel_rfl) nil_slices_Clone_Row fun w ad n c v' w' h => some_slices_Clone_Row w ad n c h

theorem walks_slices_Insert_Row : InsertWalks Tryz.prog 129 22 3 4 4 where
  empty := by
    intro w A A' n c i c' hi hn
    have h0 : Tryz.prog.underlying 22 = some (.slice 62) := by kernel_rfl
    have hz : Tryz.prog.cellsOf 62 = 4 := by kernel_rfl
    have hf : Tryz.prog.funcs[129]? = some Tryz.f129 := by kernel_rfl
    have hnt : Tryz.f129.ntmps = 95 := by kernel_rfl
    have u22 : ∀ w, Sem.run Tryz.prog (underlying 22) w = .ok (TypeDesc.slice 62) w := run_underlying h0
    have u3 : ∀ w, Sem.run Tryz.prog (underlying 3) w = .ok (TypeDesc.int .i64) w := run_underlying (by kernel_rfl)
    have hb1 : (0 : Int) ≤ i := by omega
    have hb2 : (i : Int) ≤ n := by omega
    go_enter hf, hnt
    go_wp2
    all_goals (go_ret; exact ⟨rfl, rfl⟩)
  last := by
    intro w A A' n c m c' hn hm v' w' hr
    have h0 : Tryz.prog.underlying 22 = some (.slice 62) := by kernel_rfl
    have hz : Tryz.prog.cellsOf 62 = 4 := by kernel_rfl
    have hf : Tryz.prog.funcs[129]? = some Tryz.f129 := by kernel_rfl
    have hnt : Tryz.f129.ntmps = 95 := by kernel_rfl
    have u22 : ∀ w, Sem.run Tryz.prog (underlying 22) w = .ok (TypeDesc.slice 62) w := run_underlying h0
    have u3 : ∀ w, Sem.run Tryz.prog (underlying 3) w = .ok (TypeDesc.int .i64) w := run_underlying (by kernel_rfl)
    have hb1 : (0 : Int) ≤ n := by omega
    have hz1 : ¬ ((m : Int) = 0) := by omega
    go_enter hf, hnt
    go_wp2_with (at_builtin; refine Go.AM.wpList_append_run _ rfl _ _ 22 22 rfl _ _ rfl rfl hr ?_)
    all_goals (go_ret; exact ⟨rfl, rfl⟩)
  grow := by
    intro w b off n c i m c' A' hi hnc hm hroom hbig w3 b2 c2 w1 w2 hr hc2 hr2 hr3
    have h0 : Tryz.prog.underlying 22 = some (.slice 62) := by kernel_rfl
    have hz : Tryz.prog.cellsOf 62 = 4 := by kernel_rfl
    have hf : Tryz.prog.funcs[129]? = some Tryz.f129 := by kernel_rfl
    have hnt : Tryz.f129.ntmps = 95 := by kernel_rfl
    have u22 : ∀ w, Sem.run Tryz.prog (underlying 22) w = .ok (TypeDesc.slice 62) w := run_underlying h0
    have u3 : ∀ w, Sem.run Tryz.prog (underlying 3) w = .ok (TypeDesc.int .i64) w := run_underlying (by kernel_rfl)
    have hz1 : ¬ ((m : Int) = 0) := by omega
    have hz2 : ¬ ((i : Int) = (n : Int)) := by omega
    have hz3 : (c : Int) < (n : Int) + (m : Int) := by omega
    have hin : i ≤ n := by omega
    go_enter hf, hnt
    simp only [Nat.zero_add] at hr2 hr3
    go_wp2_with (at_builtin; first | refine Go.AM.wpList_append_run _ rfl _ _ 22 3 rfl _ _ rfl rfl hr ?_ | refine wpList_copy_runI _ rfl _ _ 22 22 rfl _ _ rfl rfl hr2 ?_)
    have mixed : Tryz.prog.follows .mixedOrders = true := by kernel_rfl
    have hw1 : IntKind.i64.wrap ((i : Int) + (m : Int)) = (i : Int) + (m : Int) := by rw [IntKind.wrap_i64]; omega
    have hb1 : (0 : Int) ≤ (i : Int) + (m : Int) := by omega
    have htn : ((i : Int) + (m : Int)).toNat = i + m := by omega
    have hb2 : ¬ (c2 = i + m) := by omega
    have hb4 : ¬ (c = i) := by omega
    go_region_law_o (refine step_copy_runI rfl _ _ 22 22 rfl _ _ (by simp [Act.eval, Act.put]) (by simp [Act.eval, Act.put]) hr3 ?_)
    go_wp2
    all_goals (go_ret; exact ⟨rfl, rfl⟩)
  shift := by
    intro w b off n c i m c' A' hi hnc hm hroom hbig w2 w3 hov0 hr2 hr3
    have h0 : Tryz.prog.underlying 22 = some (.slice 62) := by kernel_rfl
    have hz : Tryz.prog.cellsOf 62 = 4 := by kernel_rfl
    have hf : Tryz.prog.funcs[129]? = some Tryz.f129 := by kernel_rfl
    have hnt : Tryz.f129.ntmps = 95 := by kernel_rfl
    have u22 : ∀ w, Sem.run Tryz.prog (underlying 22) w = .ok (TypeDesc.slice 62) w := run_underlying h0
    have u3 : ∀ w, Sem.run Tryz.prog (underlying 3) w = .ok (TypeDesc.int .i64) w := run_underlying (by kernel_rfl)
    have hov : ∀ lb cb, (callFunc 141 #[.slice A' m c', .slice (some ⟨b, off + (i + m) * 4, none⟩) lb cb]).run Tryz.prog w = .ok (.value (.bool false)) w := fun lb cb => by
      rw [run_callFunc_extern (fn := Tryz.f141) (by kernel_rfl) (by kernel_rfl) (by kernel_rfl) (by kernel_rfl) (e := Extern.SlicesOverlaps.overlaps #[22, 22] #[4]) (by kernel_rfl), hov0 lb cb]
      rfl
    have hz1 : ¬ ((m : Int) = 0) := by omega
    have hz2 : ¬ ((i : Int) = (n : Int)) := by omega
    have hin : i ≤ n := by omega
    have mixed : Tryz.prog.follows .mixedOrders = true := by kernel_rfl
    have hw1 : IntKind.i64.wrap ((i : Int) + (m : Int)) = (i : Int) + (m : Int) := by rw [IntKind.wrap_i64]; omega
    have hb1 : (0 : Int) ≤ (i : Int) + (m : Int) := by omega
    have htn : ((i : Int) + (m : Int)).toNat = i + m := by omega
    have hb2 : ¬ (c = i + m) := by omega
    have hb3 : (i : Int) ≤ (n : Int) + (m : Int) := by omega
    have hb4 : ¬ (c = i) := by omega
    go_enter hf, hnt
    go_wp2_with (simp only [hov])
    go_region_law_o (refine step_copy_runI rfl _ _ 22 22 rfl _ _ (by simp [Act.eval, Act.put]) (by simp [Act.eval, Act.put]) hr2 ?_)
    go_wp2_with (at_builtin; refine wpList_copy_runI _ rfl _ _ 22 22 rfl _ _ rfl rfl hr3 ?_)
    all_goals (go_ret; exact ⟨rfl, rfl⟩)
theorem sig_slices_Insert_Row : SigOK Tryz.prog n_slices_Insert_Row ⟨.cons, false, [1], 4, fun l => match l with | [[x0], [x1], [x2]] => slices_Insert_Row_s x0 x1 x2 | _ => none⟩ :=
  cons_of_insert (e := 62) (by kernel_rfl) (by kernel_rfl) (by kernel_rfl) (by kernel_rfl) (by kernel_rfl) walks_slices_Insert_Row

end Go.AM
